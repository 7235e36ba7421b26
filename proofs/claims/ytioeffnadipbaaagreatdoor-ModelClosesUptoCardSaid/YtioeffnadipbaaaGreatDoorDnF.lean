import Derived.Test.YtioeffnadipbaaaGreatDoorDnE
import Derived.WalkKit
namespace Go.Dn
open Go
mutual
theorem GH{C:Ctx}: ∀(a:AV) (T:TypeId) (s:Src) (o:Nat),bE C.P a T->M C a s o->∀j,j<wid a->∃v,s (o+j)=some v/\bj v=true
 | .lit v,_,s,o,_,h,j,hj=>by
  simp only[wid] at hj;obtain rfl:j=0:=by omega
  simp only[M] at h;exact⟨v,h⟩
 | .ah E l,_,s,o,_,h,j,hj=>by
  simp only[wid] at hj;obtain rfl:j=0:=by omega
  simp only[M] at h;obtain⟨_,p,cap,h2,_⟩:=h
  exact⟨_,h2,rfl⟩
 | .agg l,T,s,o,ht,h,j,hj=>by
  simp only[bE] at ht;obtain⟨fs,_,h2⟩:=ht
  simp only[M] at h;simp only[wid] at hj
  exact IY l fs.toList s o h2 h j hj
 | .jK E a,_,s,o,_,h,j,hj=>by
  simp only[wid] at hj;obtain rfl:j=0:=by omega
  simp only[M] at h;obtain⟨b,off,h2,_⟩:=h
  exact⟨_,h2,rfl⟩
 | .jT U a,_,s,o,_,h,j,hj=>by
  simp only[wid] at hj;obtain rfl:j=0:=by omega
  simp only[M] at h;obtain⟨u,h2,_⟩:=h
  exact⟨_,h2,rfl⟩
 | .fh K V ks vs,_,s,o,_,h,j,hj=>by
  simp only[wid] at hj;obtain rfl:j=0:=by omega
  simp only[M] at h;rcases h with⟨_,h,_⟩|⟨b,_,_,h,_⟩
  ·exact⟨_,h,rfl⟩
  ·exact⟨_,h,rfl⟩
 | .cP,_,_,_,h,_,_,_=>by simp[bE] at h
 | .aH _,_,_,_,h,_,_,_=>by simp[bE] at h
 | .ak _ _ _,_,_,_,h,_,_,_=>by simp[bE] at h
 | .ptr _ _ _ _,_,_,_,h,_,_,_=>by simp[bE] at h
 | .mp _,_,_,_,h,_,_,_=>by simp[bE] at h
 | .cn _,_,_,_,h,_,_,_=>by simp[bE] at h
 | .lZ _ _,_,_,_,h,_,_,_=>by simp[bE] at h
 | .bo _ _,_,_,_,h,_,_,_=>by simp[bE] at h
theorem IY{C:Ctx}: ∀(l:List AV) (fs:List Field) (s:Src) (o:Nat),eB C.P l fs->ML C l s o->∀j,j<fc l->∃v,s (o+j)=some v/\bj v=true
 |[],_,_,_,_,_,j,hj=>by simp[fc] at hj
 |_::_,[],_,_,h,_,_,_=>by simp[eB] at h
 | a::l,f::fs,s,o,ht,h,j,hj=>by
  simp only[eB] at ht;simp only[ML] at h;simp only[fc] at hj;rcases Nat.lt_or_ge j (wid a) with hlt|hge
  ·exact GH a f.type s o ht.1 h.1 j hlt
  ·obtain⟨v,h1,h2⟩:=IY l fs s (o+wid a) ht.2 h.2 (j - wid a) (by omega)
   exact⟨v,by rw[←h1];congr 1;omega,h2⟩
end
theorem kB{C a s s' o o'}(hI:Inv C)(hs: ∀j,j<wid a->s' (o'+j)=s (o+j))(h:M C a s o):M C a s' o':=
 M.gI (bW.refl C) hI.lay (fun _ _ hlt=>cj.refl C hlt) hs h
theorem iy{v}(h:e6 v=false):v.cells= #[v]:=by cases v<;>simp_all[Value.cells,e6]
theorem Fu{C}(c:Inv C){a s o v}(d:cg a=false)(h:M C a s o)(e:s o=some v)(b:e6 v=false):Rel C a v:=by
 have g:wid a=1:=by cases a<;>simp_all[cg,wid]
 have i:=iy b;refine⟨by grind,by grind,kB c (fun j f=>?_) h⟩
 grind
theorem nD{C}(c:Inv C){l s o a}(h:M C (.agg l) s o)(b:a.size=wid (.agg l))(e: ∀j,j<a.size->s (o+j)=a[j]?):Rel C (.agg l) (.agg a):=
 ⟨.inl rfl, .inl (by grind [Value.cells]),kB c fun j d=>by grind [Value.cells] h⟩
section
variable {P:Program} {w:World}
theorem eF b o i:(⟨b,o,none⟩:Addr).add i=⟨b,o+i,none⟩:=by
 grind [Addr.add]
theorem mz{b o v}(h:w.cell? ⟨b,o,none⟩=some v):(load ⟨b,o,none⟩).run P w= .ok v w:=by
 simp[h]
theorem run_loadCellsFrom b o: ∀n i a,(∀j,j<n->(w.cell? ⟨b,o+i+j,none⟩).isSome=true)->
  ∃c,c.size=n/\(∀j,j<n->w.cell? ⟨b,o+i+j,none⟩=c[j]?)/\(loadCellsFrom ⟨b,o,none⟩ i n a).run P w= .ok (a++c) w
 |0,i,a,_=>⟨#[],rfl,by simp,by simp[loadCellsFrom]⟩
 | n+1,i,a,h=>by
  have d:=h 0 (by omega);obtain⟨v,g⟩:=Option.isSome_iff_exists.1 d;obtain⟨c,e,k,l⟩:=run_loadCellsFrom b o n (i+1) (a.push v) (by grind);refine⟨#[v]++c,by simp[e];omega,fun j f=>?_,?_⟩
  ·grind
  ·simp only[loadCellsFrom,Sem.run_bind,eF]
   simp_all
theorem run_loadCells b o n(h: ∀j,j<n->(w.cell? ⟨b,o+j,none⟩).isSome=true):
  ∃a,a.size=n/\(∀j,j<n->w.cell? ⟨b,o+j,none⟩=a[j]?)/\(loadCells ⟨b,o,none⟩ n).run P w= .ok a w:=by
 obtain⟨a,d,e,c⟩:=run_loadCellsFrom (P:=P)  b o n 0 #[] (by omega)
 grind [loadCells]
end
theorem wu{P:Program}{T d}(h:P.underlying T=some d): ∃i,P.info? T=some i:=by
 grind [Program.underlying]
theorem run_sizeOf{P w T d}(h:P.underlying T=some d):(sizeOf T).run P w= .ok (P.cellsOf T) w:=by
 obtain⟨i,a⟩:=wu h;simp[sizeOf,typeInfo,a,Program.cellsOf]
theorem iC{P w T d}(h:P.underlying T=some d):(isAgg T).run P w= .ok (ec P T) w:=by
 simp[isAgg,run_underlying h];simp[ec,h];cases d<;>rfl
theorem oM{C}(i:Inv C){T d}(g:C.P.underlying T=some d){b o a}
  (m:M C a (cellAt C.w b) o) (e:ec C.P T=cg a) (r:wid a=C.P.cellsOf T) (h: ∀j,j<wid a->∃v,C.w.cell? ⟨b,o+j,none⟩=some v/\(cg a=false->bj v=true)):
  ∃v,(loadVar T ⟨b,o,none⟩).run C.P C.w= .ok v C.w/\Rel C a v:=by
 cases f:cg a with
 |false=>
  have q:wid a=1:=by cases a<;>simp_all[cg,wid]
  obtain⟨v,k,c⟩:=h 0 (by omega);refine⟨v,?_,Fu i f m k (yw (c f))⟩;simp only[loadVar,Sem.run_bind,iC g,Result.andThen_ok,e,f,Bool.false_eq_true,if_false];exact mz k
 |true=>
  obtain⟨s,n,p,t⟩:=run_loadCells (P:=C.P) (w:=C.w) b o (wid a) (by grind);cases a<;>simp[cg] at f
  rename_i l;refine⟨.agg s,?_,nD i m n (fun j u=>p j (by omega))⟩;simp only[loadVar,Sem.run_bind,iC g,Result.andThen_ok,e,cg,if_true,run_sizeOf g,←r,t,Sem.run_pure]
theorem DU{C}: ∀l j s o,j<l.length->ML C l s o->M C (nth l j) s (o+mP l j)
 |[],_,_,_,h,_=>by grind
 |a::l,0,s,o,_,h=>by grind [ML,nth,mP]
 |a::l,j+1,s,o,b,h=>by
  have:=DU l j s _ (by grind) h.2
  grind [nth,mP]
theorem sX: ∀l j,j<l.length->mP l j+wid (nth l j)<=fc l
 |[],_,h=>by grind
 |a::l,0,_=>by simp[nth,mP,fc]
 |a::l,j+1,h=>by
  have:=sX l j (by grind)
  grind [nth,mP,fc]
theorem Xz{C}: ∀p a s o,oU a p=true->M C a s o->M C (o5 a p) s (o+jJ a p)
 |[],a,s,o,_,h=>by grind [o5,jJ]
 |j::p, .agg l,s,o,b,h=>by
  simp only[oU,aC6,at3] at b;have:=Xz p _ s _ b.2 (DU l j s o b.1 h)
  grind [o5,af,jJ]
 |_::_, .cP,_,_,b,_|_::_, .lit _,_,_,b,_|_::_, .ah _ _,_,_,b,_|_::_, .aH _,_,_,b,_|_::_, .ak _ _ _,_,_,b,_
 |_::_, .ptr _ _ _ _,_,_,b,_|_::_, .jK _ _,_,_,b,_|_::_, .mp _,_,_,b,_|_::_, .cn _,_,_,b,_|_::_, .lZ _ _,_,_,b,_
 |_::_, .bo _ _,_,_,b,_|_::_, .jT _ _,_,_,b,_|_::_, .fh _ _ _ _,_,_,b,_=>by simp[oU] at b
theorem qx: ∀p a,oU a p=true->jJ a p+wid (o5 a p)<=wid a
 |[],a,_=>by grind [o5,jJ]
 |j::p, .agg l,b=>by
  simp[oU,aC6] at b;have c:=qx p _ b.2;have d:=sX l j b.1
  grind [o5,af,jJ,wid]
 |_::_, .cP,b|_::_, .lit _,b|_::_, .ah _ _,b|_::_, .aH _,b|_::_, .ak _ _ _,b
 |_::_, .ptr _ _ _ _,b|_::_, .jK _ _,b|_::_, .mp _,b|_::_, .cn _,b|_::_, .lZ _ _,b
 |_::_, .bo _ _,b|_::_, .jT _ _,b|_::_, .fh _ _ _ _,b=>by grind [oU]
theorem AP{P}: ∀l b j f,eB P l b->rI b j=some f->j<l.length/\bE P (nth l j) f.type
 |[],[],_,_,_,h=>by grind [rI]
 |[],_::_,_,_,h,_=>by grind [eB]
 |_::_,[],_,_,h,_=>by grind [eB]
 |a::l,g::b,0,f,c,h=>by
  grind [rI,eB,nth]
 |a::l,g::b,j+1,f,c,h=>by
  obtain⟨e,d⟩:=AP l _ j f c.2 h
  grind [nth]
theorem AH{C} g(j: ∀T a s o,bE C.P a T->M C a s o->M C (g T a) s o/\bE C.P (g T a) T)(i:ft C.P):
  ∀c l b s o,eB C.P l c->ML C l s o->
   ML C (L5 g c b.length (.agg (b++l))) s o/\eB C.P (L5 g c b.length (.agg (b++l))) c
 |[],[],_,_,_,_,_=>by simp[L5,ML,eB]
 |[],_::_,_,_,_,h,_=>by simp[eB] at h
 |_::_,[],_,_,_,h,_=>by simp[eB] at h
 | f::c,a::l,b,s,o,d,h=>by
  simp only[ML] at h;have k: ∀(b l:List AV) (a:AV),nth (b++a::l) b.length=a:=by
   intro b;induction b<;>simp_all[List.cons_append,List.length_cons,nth]
  have n:=AH g j i c l (b++[a]) s (o+wid a) d.2 h.2;have e:(b++[a]).length=b.length+1:=by simp
  rw[e] at n;simp only[L5,af,k,ML,eB];obtain⟨q,m⟩:=j f.type a s o d.1 h.1;have p:wid (g f.type a)=wid a:=by rw[dB i _ _ m,dB i _ _ d.1]
  grind
theorem mY{C}(m:ft C.P): ∀d T a s o,bE C.P a T->M C a s o->M C (expand C.P d T a) s o/\bE C.P (expand C.P d T a) T
 |0,T,a,s,o,c,h=>by simpa[expand] using⟨h,c⟩
 | d +1,T,a,s,o,c,h=>by
  simp only[expand];split
  ·rename_i k e
   cases a<;>simp only[bE,e] at c<;>try (first|exact c.elim|(obtain⟨b,_⟩:=c;simp at b;done)|(obtain⟨f,b,_⟩:=c;simp at b;done)|(obtain⟨⟨g,b⟩,_⟩:=c;simp at b;done))
   obtain⟨n,rfl⟩:=c;exact⟨h,by simp[toInt,bE,e]⟩
  ·rename_i e
   cases a<;>simp only[bE,e] at c<;>try (first|exact c.elim|(obtain⟨b,_⟩:=c;simp at b;done)|(obtain⟨f,b,_⟩:=c;simp at b;done)|(obtain⟨⟨g,b⟩,_⟩:=c;simp at b;done))
   obtain⟨n,rfl⟩:=c;exact⟨h,by simp[toBool,bE,e]⟩
  ·rename_i e
   cases a<;>simp only[bE,e] at c<;>try (first|exact c.elim|(obtain⟨b,_⟩:=c;simp at b;done)|(obtain⟨f,b,_⟩:=c;simp at b;done)|(obtain⟨⟨g,b⟩,_⟩:=c;simp at b;done))
   obtain⟨n,rfl⟩:=c;exact⟨h,by simp[toStr,bE,e]⟩
  ·rename_i E e
   cases a<;>simp only[bE,e] at c<;>try (first|exact c.elim|(obtain⟨f,b,_⟩:=c;simp at b;done)|(obtain⟨⟨g,b⟩,_⟩:=c;simp at b;done))
   ·subst c
    simp only[M] at h;refine⟨?_,by simp[ag,bE,cu,e]⟩;simp only[ag,M,cu,List.length_nil];exact⟨trivial,none,0,h.1,Nat.le_refl _,fun j=>absurd rfl j⟩
   ·obtain⟨b,i⟩:=c
    simp only[aC8,TypeDesc.slice.injEq] at b;subst b;exact⟨by simpa[ag] using h,by simpa[ag,bE,e] using i⟩
   ·obtain⟨b,_⟩:=c;simp at b
   ·obtain⟨b,_⟩:=c;simp at b
  ·rename_i K V e
   cases a<;>simp only[bE,e] at c<;>try (first|exact c.elim|(obtain⟨f,b,_⟩:=c;simp at b;done)|(obtain⟨⟨g,b⟩,_⟩:=c;simp at b;done)|(obtain⟨b,_⟩:=c;simp at b;done))
   ·subst c
    cases p:Qp C.P.toProgram V with
    |false=>exact⟨h,by simp[bE,e]⟩
    |true=>
     simp only[M] at h;refine⟨?_,by simp[zo,bE,cu,e]⟩;simp only[aD2,DD,zo,M];exact .inl ⟨p,h.1,trivial,trivial⟩
   ·obtain⟨b,i⟩:=c
    simp only[aC8,TypeDesc.map.injEq] at b;obtain⟨rfl,rfl⟩:=b;exact⟨by simpa[DD,zo] using h,by simpa[zo,bE,e] using i⟩
  ·rename_i f e
   cases a<;>simp only[bE,e] at c<;>try (first|exact c.elim|(obtain⟨b,_⟩:=c;simp at b;done)|(obtain⟨⟨g,b⟩,_⟩:=c;simp at b;done))
   rename_i l;obtain⟨q,⟨b,r⟩,i⟩:=c;simp only[aC8,TypeDesc.struct.injEq] at b;subst b;simp only[M] at h;have:=AH (expand C.P d) (fun T a s o=>mY m d T a s o) m f.toList l [] s o i h
   simp only[List.length_nil,List.nil_append] at this;refine⟨by simpa[M] using this.1,?_⟩;simp only[bE];exact⟨f,⟨e,r⟩,this.2⟩
  ·exact⟨h,c⟩
end Go.Dn
