import Derived.Test.YtioeffnadipbaaaGreatDoorDnE
import Derived.WalkKit
namespace Go.Dn
open Go
mutual
theorem FW{C:Ctx}: ∀(a:AV) (T:TypeId) (s:Src) (o:Nat),bB C.P a T->M C a s o->∀j,j<wid a->∃v,s (o+j)=some v/\bg v=true
 | .lit v,_,s,o,_,h,j,hj=>by
  simp only[wid] at hj;obtain rfl:j=0:=by omega
  simp only[M] at h;exact⟨v,h⟩
 | .ah E l,_,s,o,_,h,j,hj=>by
  simp only[wid] at hj;obtain rfl:j=0:=by omega
  simp only[M] at h;obtain⟨_,p,cap,h2,_⟩:=h
  exact⟨_,h2,rfl⟩
 | .agg l,T,s,o,ht,h,j,hj=>by
  simp only[bB] at ht;obtain⟨fs,_,h2⟩:=ht
  simp only[M] at h;simp only[wid] at hj
  exact I5 l fs.toList s o h2 h j hj
 | .je E a,_,s,o,_,h,j,hj=>by
  simp only[wid] at hj;obtain rfl:j=0:=by omega
  simp only[M] at h;obtain⟨b,off,h2,_⟩:=h
  exact⟨_,h2,rfl⟩
 | .ju U a,_,s,o,_,h,j,hj=>by
  simp only[wid] at hj;obtain rfl:j=0:=by omega
  simp only[M] at h;obtain⟨u,h2,_⟩:=h
  exact⟨_,h2,rfl⟩
 | .eS K V ks vs,_,s,o,_,h,j,hj=>by
  simp only[wid] at hj;obtain rfl:j=0:=by omega
  simp only[M] at h;rcases h with⟨_,h,_⟩|⟨b,_,_,h,_⟩
  ·exact⟨_,h,rfl⟩
  ·exact⟨_,h,rfl⟩
 | .cB,_,_,_,h,_,_,_=>by simp[bB] at h
 | .aH _,_,_,_,h,_,_,_=>by simp[bB] at h
 | .ak _ _ _,_,_,_,h,_,_,_=>by simp[bB] at h
 | .ptr _ _ _ _,_,_,_,h,_,_,_=>by simp[bB] at h
 | .mp _,_,_,_,h,_,_,_=>by simp[bB] at h
 | .cf _,_,_,_,h,_,_,_=>by simp[bB] at h
 | .lj _ _,_,_,_,h,_,_,_=>by simp[bB] at h
 | .bm _ _,_,_,_,h,_,_,_=>by simp[bB] at h
theorem I5{C:Ctx}: ∀(l:List AV) (fs:List Field) (s:Src) (o:Nat),dV C.P l fs->ML C l s o->∀j,j<eE l->∃v,s (o+j)=some v/\bg v=true
 |[],_,_,_,_,_,j,hj=>by simp[eE] at hj
 |_::_,[],_,_,h,_,_,_=>by simp[dV] at h
 | a::l,f::fs,s,o,ht,h,j,hj=>by
  simp only[dV] at ht;simp only[ML] at h;simp only[eE] at hj;rcases Nat.lt_or_ge j (wid a) with hlt|hge
  ·exact FW a f.type s o ht.1 h.1 j hlt
  ·obtain⟨v,h1,h2⟩:=I5 l fs s (o+wid a) ht.2 h.2 (j - wid a) (by omega)
   exact⟨v,by rw[←h1];congr 1;omega,h2⟩
end
theorem j9{C a s s' o o'}(hI:Inv C)(hs: ∀j,j<wid a->s' (o'+j)=s (o+j))(h:M C a s o):M C a s' o':=
 M.fX (bP.refl C) hI.lay (fun _ _ hlt=>b8.refl C hlt) hs h
theorem gM{v}(h:eF v=false):v.cells= #[v]:=by cases v<;>simp_all[Value.cells,eF]
theorem DF{C}(c:Inv C){a s o v}(d:b6 a=false)(h:M C a s o)(e:s o=some v)(b:eF v=false):Rel C a v:=by
 have g:wid a=1:=by cases a<;>simp_all[b6,wid]
 have i:=gM b;refine⟨by grind,by grind,j9 c (fun j f=>?_) h⟩
 grind
theorem mv{C}(c:Inv C){l s o a}(h:M C (.agg l) s o)(b:a.size=wid (.agg l))(e: ∀j,j<a.size->s (o+j)=a[j]?):Rel C (.agg l) (.agg a):=
 ⟨.inl rfl, .inl (by grind [Value.cells]),j9 c fun j d=>by grind [Value.cells] h⟩
section
variable {P:Program} {w:World}
theorem ec b o i:(⟨b,o,none⟩:Addr).add i=⟨b,o+i,none⟩:=by
 grind [Addr.add]
theorem lN{b o v}(h:w.cell? ⟨b,o,none⟩=some v):(load ⟨b,o,none⟩).run P w= .ok v w:=by
 simp[h]
theorem run_loadCellsFrom b o: ∀n i a,(∀j,j<n->(w.cell? ⟨b,o+i+j,none⟩).isSome=true)->
  ∃c,c.size=n/\(∀j,j<n->w.cell? ⟨b,o+i+j,none⟩=c[j]?)/\(loadCellsFrom ⟨b,o,none⟩ i n a).run P w= .ok (a++c) w
 |0,i,a,_=>⟨#[],rfl,by simp,by simp[loadCellsFrom]⟩
 | n+1,i,a,h=>by
  have d:=h 0 (by omega);obtain⟨v,g⟩:=Option.isSome_iff_exists.1 d;obtain⟨c,e,k,l⟩:=run_loadCellsFrom b o n (i+1) (a.push v) (by grind);refine⟨#[v]++c,by simp[e];omega,fun j f=>?_,?_⟩
  ·grind
  ·simp only[loadCellsFrom,Sem.run_bind,ec]
   simp_all
theorem run_loadCells b o n(h: ∀j,j<n->(w.cell? ⟨b,o+j,none⟩).isSome=true):
  ∃a,a.size=n/\(∀j,j<n->w.cell? ⟨b,o+j,none⟩=a[j]?)/\(loadCells ⟨b,o,none⟩ n).run P w= .ok a w:=by
 obtain⟨a,d,e,c⟩:=run_loadCellsFrom (P:=P)  b o n 0 #[] (by omega)
 grind [loadCells]
end
theorem uK{P:Program}{T d}(h:P.underlying T=some d): ∃i,P.info? T=some i:=by
 grind [Program.underlying]
theorem run_sizeOf{P w T d}(h:P.underlying T=some d):(sizeOf T).run P w= .ok (P.cellsOf T) w:=by
 obtain⟨i,a⟩:=uK h;simp[sizeOf,typeInfo,a,Program.cellsOf]
theorem gP{P w T d}(h:P.underlying T=some d):(isAgg T).run P w= .ok (dI P T) w:=by
 simp[isAgg,run_underlying h];simp[dI,h];cases d<;>rfl
theorem nK{C}(i:Inv C){T d}(g:C.P.underlying T=some d){b o a}
  (m:M C a (cellAt C.w b) o) (e:dI C.P T=b6 a) (r:wid a=C.P.cellsOf T) (h: ∀j,j<wid a->∃v,C.w.cell? ⟨b,o+j,none⟩=some v/\(b6 a=false->bg v=true)):
  ∃v,(loadVar T ⟨b,o,none⟩).run C.P C.w= .ok v C.w/\Rel C a v:=by
 cases f:b6 a with
 |false=>
  have q:wid a=1:=by cases a<;>simp_all[b6,wid]
  obtain⟨v,k,c⟩:=h 0 (by omega);refine⟨v,?_,DF i f m k (v9 (c f))⟩;simp only[loadVar,Sem.run_bind,gP g,Result.andThen_ok,e,f,Bool.false_eq_true,if_false];exact lN k
 |true=>
  obtain⟨s,n,p,t⟩:=run_loadCells (P:=C.P) (w:=C.w) b o (wid a) (by grind);cases a<;>simp[b6] at f
  rename_i l;refine⟨.agg s,?_,mv i m n (fun j u=>p j (by omega))⟩;simp only[loadVar,Sem.run_bind,gP g,Result.andThen_ok,e,b6,if_true,run_sizeOf g,←r,t,Sem.run_pure]
theorem Ct{C}: ∀l j s o,j<l.length->ML C l s o->M C (nth l j) s (o+lX l j)
 |[],_,_,_,h,_=>by grind
 |a::l,0,s,o,_,h=>by grind [ML,nth,lX]
 |a::l,j+1,s,o,b,h=>by
  have:=Ct l j s _ (by grind) h.2
  grind [nth,lX]
theorem qX: ∀l j,j<l.length->lX l j+wid (nth l j)<=eE l
 |[],_,h=>by grind
 |a::l,0,_=>by simp[nth,lX,eE]
 |a::l,j+1,h=>by
  have:=qX l j (by grind)
  grind [nth,lX,eE]
theorem UG{C}: ∀p a s o,nQ a p=true->M C a s o->M C (oE a p) s (o+iW a p)
 |[],a,s,o,_,h=>by grind [oE,iW]
 |j::p, .agg l,s,o,b,h=>by
  simp only[nQ,ap7,ap6] at b;have:=UG p _ s _ b.2 (Ct l j s o b.1 h)
  grind [oE,ag,iW]
 |_::_, .cB,_,_,b,_|_::_, .lit _,_,_,b,_|_::_, .ah _ _,_,_,b,_|_::_, .aH _,_,_,b,_|_::_, .ak _ _ _,_,_,b,_
 |_::_, .ptr _ _ _ _,_,_,b,_|_::_, .je _ _,_,_,b,_|_::_, .mp _,_,_,b,_|_::_, .cf _,_,_,b,_|_::_, .lj _ _,_,_,b,_
 |_::_, .bm _ _,_,_,b,_|_::_, .ju _ _,_,_,b,_|_::_, .eS _ _ _ _,_,_,b,_=>by simp[nQ] at b
theorem pj: ∀p a,nQ a p=true->iW a p+wid (oE a p)<=wid a
 |[],a,_=>by grind [oE,iW]
 |j::p, .agg l,b=>by
  simp[nQ,ap7] at b;have c:=pj p _ b.2;have d:=qX l j b.1
  grind [oE,ag,iW,wid]
 |_::_, .cB,b|_::_, .lit _,b|_::_, .ah _ _,b|_::_, .aH _,b|_::_, .ak _ _ _,b
 |_::_, .ptr _ _ _ _,b|_::_, .je _ _,b|_::_, .mp _,b|_::_, .cf _,b|_::_, .lj _ _,b
 |_::_, .bm _ _,b|_::_, .ju _ _,b|_::_, .eS _ _ _ _,b=>by grind [nQ]
theorem yK{P}: ∀l b j f,dV P l b->qD b j=some f->j<l.length/\bB P (nth l j) f.type
 |[],[],_,_,_,h=>by grind [qD]
 |[],_::_,_,_,h,_=>by grind [dV]
 |_::_,[],_,_,h,_=>by grind [dV]
 |a::l,g::b,0,f,c,h=>by
  grind [qD,dV,nth]
 |a::l,g::b,j+1,f,c,h=>by
  obtain⟨e,d⟩:=yK l _ j f c.2 h
  grind [nth]
theorem zT{C} g(j: ∀T a s o,bB C.P a T->M C a s o->M C (g T a) s o/\bB C.P (g T a) T)(i:eW C.P):
  ∀c l b s o,dV C.P l c->ML C l s o->
   ML C (Ki g c b.length (.agg (b++l))) s o/\dV C.P (Ki g c b.length (.agg (b++l))) c
 |[],[],_,_,_,_,_=>by simp[Ki,ML,dV]
 |[],_::_,_,_,_,h,_=>by simp[dV] at h
 |_::_,[],_,_,_,h,_=>by simp[dV] at h
 | f::c,a::l,b,s,o,d,h=>by
  simp only[ML] at h;have k: ∀(b l:List AV) (a:AV),nth (b++a::l) b.length=a:=by
   intro b;induction b<;>simp_all[List.cons_append,List.length_cons,nth]
  have n:=zT g j i c l (b++[a]) s (o+wid a) d.2 h.2;have e:(b++[a]).length=b.length+1:=by simp
  rw[e] at n;simp only[Ki,ag,k,ML,dV];obtain⟨q,m⟩:=j f.type a s o d.1 h.1;have p:wid (g f.type a)=wid a:=by rw[dq i _ _ m,dq i _ _ d.1]
  grind
theorem mG{C}(m:eW C.P): ∀d T a s o,bB C.P a T->M C a s o->M C (expand C.P d T a) s o/\bB C.P (expand C.P d T a) T
 |0,T,a,s,o,c,h=>by simpa[expand] using⟨h,c⟩
 | d +1,T,a,s,o,c,h=>by
  simp only[expand];split
  ·rename_i k e
   cases a<;>simp only[bB,e] at c<;>try (first|exact c.elim|(obtain⟨b,_⟩:=c;simp at b;done)|(obtain⟨f,b,_⟩:=c;simp at b;done)|(obtain⟨⟨g,b⟩,_⟩:=c;simp at b;done))
   obtain⟨n,rfl⟩:=c;exact⟨h,by simp[toInt,bB,e]⟩
  ·rename_i e
   cases a<;>simp only[bB,e] at c<;>try (first|exact c.elim|(obtain⟨b,_⟩:=c;simp at b;done)|(obtain⟨f,b,_⟩:=c;simp at b;done)|(obtain⟨⟨g,b⟩,_⟩:=c;simp at b;done))
   obtain⟨n,rfl⟩:=c;exact⟨h,by simp[toBool,bB,e]⟩
  ·rename_i e
   cases a<;>simp only[bB,e] at c<;>try (first|exact c.elim|(obtain⟨b,_⟩:=c;simp at b;done)|(obtain⟨f,b,_⟩:=c;simp at b;done)|(obtain⟨⟨g,b⟩,_⟩:=c;simp at b;done))
   obtain⟨n,rfl⟩:=c;exact⟨h,by simp[toStr,bB,e]⟩
  ·rename_i E e
   cases a<;>simp only[bB,e] at c<;>try (first|exact c.elim|(obtain⟨f,b,_⟩:=c;simp at b;done)|(obtain⟨⟨g,b⟩,_⟩:=c;simp at b;done))
   ·subst c
    simp only[M] at h;refine⟨?_,by simp[af,bB,ck,e]⟩;simp only[af,M,ck,List.length_nil];exact⟨trivial,none,0,h.1,Nat.le_refl _,fun j=>absurd rfl j⟩
   ·obtain⟨b,i⟩:=c
    simp only[ap9,TypeDesc.slice.injEq] at b;subst b;exact⟨by simpa[af] using h,by simpa[af,bB,e] using i⟩
   ·obtain⟨b,_⟩:=c;simp at b
   ·obtain⟨b,_⟩:=c;simp at b
  ·rename_i K V e
   cases a<;>simp only[bB,e] at c<;>try (first|exact c.elim|(obtain⟨f,b,_⟩:=c;simp at b;done)|(obtain⟨⟨g,b⟩,_⟩:=c;simp at b;done)|(obtain⟨b,_⟩:=c;simp at b;done))
   ·subst c
    cases p:Pv C.P.toProgram V with
    |false=>exact⟨h,by simp[bB,e]⟩
    |true=>
     simp only[M] at h;refine⟨?_,by simp[vv,bB,ck,e]⟩;simp only[aq3,z7,vv,M];exact .inl ⟨p,h.1,trivial,trivial⟩
   ·obtain⟨b,i⟩:=c
    simp only[ap9,TypeDesc.map.injEq] at b;obtain⟨rfl,rfl⟩:=b;exact⟨by simpa[z7,vv] using h,by simpa[vv,bB,e] using i⟩
  ·rename_i f e
   cases a<;>simp only[bB,e] at c<;>try (first|exact c.elim|(obtain⟨b,_⟩:=c;simp at b;done)|(obtain⟨⟨g,b⟩,_⟩:=c;simp at b;done))
   rename_i l;obtain⟨q,⟨b,r⟩,i⟩:=c;simp only[ap9,TypeDesc.struct.injEq] at b;subst b;simp only[M] at h;have:=zT (expand C.P d) (fun T a s o=>mG m d T a s o) m f.toList l [] s o i h
   simp only[List.length_nil,List.nil_append] at this;refine⟨by simpa[M] using this.1,?_⟩;simp only[bB];exact⟨f,⟨e,r⟩,this.2⟩
  ·exact⟨h,c⟩
end Go.Dn
