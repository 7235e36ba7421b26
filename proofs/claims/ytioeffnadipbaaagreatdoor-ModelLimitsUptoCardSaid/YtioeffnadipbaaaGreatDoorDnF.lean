import Derived.Test.YtioeffnadipbaaaGreatDoorDnE
import Derived.WalkKit
namespace Go.Dn
open Go
mutual
theorem ED{C:Ctx}: ∀(a:AV) (T:TypeId) (s:Src) (o:Nat),bz C.P a T->M C a s o->∀j,j<wid a->∃v,s (o+j)=some v/\bf v=true
 | .lit v,_,s,o,_,h,j,hj=>by
  simp only[wid] at hj;obtain rfl:j=0:=by omega
  simp only[M] at h;exact⟨v,h⟩
 | .ah E l,_,s,o,_,h,j,hj=>by
  simp only[wid] at hj;obtain rfl:j=0:=by omega
  simp only[M] at h;obtain⟨_,p,cap,h2,_⟩:=h
  exact⟨_,h2,rfl⟩
 | .agg l,T,s,o,ht,h,j,hj=>by
  simp only[bz] at ht;obtain⟨fs,_,h2⟩:=ht
  simp only[M] at h;simp only[wid] at hj
  exact Jn l fs.toList s o h2 h j hj
 | .js E a,_,s,o,_,h,j,hj=>by
  simp only[wid] at hj;obtain rfl:j=0:=by omega
  simp only[M] at h;obtain⟨b,off,h2,_⟩:=h
  exact⟨_,h2,rfl⟩
 | .jz U a,_,s,o,_,h,j,hj=>by
  simp only[wid] at hj;obtain rfl:j=0:=by omega
  simp only[M] at h;obtain⟨u,h2,_⟩:=h
  exact⟨_,h2,rfl⟩
 | .eP K V ks vs,_,s,o,_,h,j,hj=>by
  simp only[wid] at hj;obtain rfl:j=0:=by omega
  simp only[M] at h;rcases h with⟨_,h,_⟩|⟨b,_,_,h,_⟩
  ·exact⟨_,h,rfl⟩
  ·exact⟨_,h,rfl⟩
 | .cB,_,_,_,h,_,_,_=>by simp[bz] at h
 | .aJ _,_,_,_,h,_,_,_=>by simp[bz] at h
 | .ak _ _ _,_,_,_,h,_,_,_=>by simp[bz] at h
 | .ptr _ _ _ _,_,_,_,h,_,_,_=>by simp[bz] at h
 | .mp _,_,_,_,h,_,_,_=>by simp[bz] at h
 | .cf _,_,_,_,h,_,_,_=>by simp[bz] at h
 | .lx _ _,_,_,_,h,_,_,_=>by simp[bz] at h
 | .bm _ _,_,_,_,h,_,_,_=>by simp[bz] at h
theorem Jn{C:Ctx}: ∀(l:List AV) (fs:List Field) (s:Src) (o:Nat),dT C.P l fs->ML C l s o->∀j,j<eu l->∃v,s (o+j)=some v/\bf v=true
 |[],_,_,_,_,_,j,hj=>by simp[eu] at hj
 |_::_,[],_,_,h,_,_,_=>by simp[dT] at h
 | a::l,f::fs,s,o,ht,h,j,hj=>by
  simp only[dT] at ht;simp only[ML] at h;simp only[eu] at hj;rcases Nat.lt_or_ge j (wid a) with hlt|hge
  ·exact ED a f.type s o ht.1 h.1 j hlt
  ·obtain⟨v,h1,h2⟩:=Jn l fs s (o+wid a) ht.2 h.2 (j - wid a) (by omega)
   exact⟨v,by rw[←h1];congr 1;omega,h2⟩
end
theorem ka{C a s s' o o'}(hI:Inv C)(hs: ∀j,j<wid a->s' (o'+j)=s (o+j))(h:M C a s o):M C a s' o':=
 M.eY (bQ.refl C) hI.lay (fun _ _ hlt=>b7.refl C hlt) hs h
theorem gU{v}(h:eD v=false):v.cells= #[v]:=by cases v<;>simp_all[Value.cells,eD]
theorem DN{C}(c:Inv C){a s o v}(d:bZ a=false)(h:M C a s o)(e:s o=some v)(b:eD v=false):Rel C a v:=by
 have g:wid a=1:=by cases a<;>simp_all[bZ,wid]
 have i:=gU b;refine⟨by grind,by grind,ka c (fun j f=>?_) h⟩
 grind
theorem qa{C}(c:Inv C){l s o a}(h:M C (.agg l) s o)(b:a.size=wid (.agg l))(e: ∀j,j<a.size->s (o+j)=a[j]?):Rel C (.agg l) (.agg a):=
 ⟨.inl rfl, .inl (by grind [Value.cells]),ka c fun j d=>by grind [Value.cells] h⟩
section
variable {P:Program} {w:World}
theorem dX b o i:(⟨b,o,none⟩:Addr).add i=⟨b,o+i,none⟩:=by
 grind [Addr.add]
theorem lJ{b o v}(h:w.cell? ⟨b,o,none⟩=some v):(load ⟨b,o,none⟩).run P w= .ok v w:=by
 simp[h]
theorem run_loadCellsFrom b o: ∀n i a,(∀j,j<n->(w.cell? ⟨b,o+i+j,none⟩).isSome=true)->
  ∃c,c.size=n/\(∀j,j<n->w.cell? ⟨b,o+i+j,none⟩=c[j]?)/\(loadCellsFrom ⟨b,o,none⟩ i n a).run P w= .ok (a++c) w
 |0,i,a,_=>⟨#[],rfl,by simp,by simp[loadCellsFrom]⟩
 | n+1,i,a,h=>by
  have d:=h 0 (by omega);obtain⟨v,g⟩:=Option.isSome_iff_exists.1 d;obtain⟨c,e,k,l⟩:=run_loadCellsFrom b o n (i+1) (a.push v) (by grind);refine⟨#[v]++c,by simp[e];omega,fun j f=>?_,?_⟩
  ·grind
  ·simp only[loadCellsFrom,Sem.run_bind,dX]
   simp_all
theorem run_loadCells b o n(h: ∀j,j<n->(w.cell? ⟨b,o+j,none⟩).isSome=true):
  ∃a,a.size=n/\(∀j,j<n->w.cell? ⟨b,o+j,none⟩=a[j]?)/\(loadCells ⟨b,o,none⟩ n).run P w= .ok a w:=by
 obtain⟨a,d,e,c⟩:=run_loadCellsFrom (P:=P)  b o n 0 #[] (by omega)
 grind [loadCells]
end
theorem uY{P:Program}{T d}(h:P.underlying T=some d): ∃i,P.info? T=some i:=by
 grind [Program.underlying]
theorem run_sizeOf{P w T d}(h:P.underlying T=some d):(sizeOf T).run P w= .ok (P.cellsOf T) w:=by
 obtain⟨i,a⟩:=uY h;simp[sizeOf,typeInfo,a,Program.cellsOf]
theorem gX{P w T d}(h:P.underlying T=some d):(isAgg T).run P w= .ok (dG P T) w:=by
 simp[isAgg,run_underlying h];simp[dG,h];cases d<;>rfl
theorem nQ{C}(i:Inv C){T d}(g:C.P.underlying T=some d){b o a}
  (m:M C a (cellAt C.w b) o) (e:dG C.P T=bZ a) (r:wid a=C.P.cellsOf T) (h: ∀j,j<wid a->∃v,C.w.cell? ⟨b,o+j,none⟩=some v/\(bZ a=false->bf v=true)):
  ∃v,(loadVar T ⟨b,o,none⟩).run C.P C.w= .ok v C.w/\Rel C a v:=by
 cases f:bZ a with
 |false=>
  have q:wid a=1:=by cases a<;>simp_all[bZ,wid]
  obtain⟨v,k,c⟩:=h 0 (by omega);refine⟨v,?_,DN i f m k (yq (c f))⟩;simp only[loadVar,Sem.run_bind,gX g,Result.andThen_ok,e,f,Bool.false_eq_true,if_false];exact lJ k
 |true=>
  obtain⟨s,n,p,t⟩:=run_loadCells (P:=C.P) (w:=C.w) b o (wid a) (by grind);cases a<;>simp[bZ] at f
  rename_i l;refine⟨.agg s,?_,qa i m n (fun j u=>p j (by omega))⟩;simp only[loadVar,Sem.run_bind,gX g,Result.andThen_ok,e,bZ,if_true,run_sizeOf g,←r,t,Sem.run_pure]
theorem CU{C}: ∀l j s o,j<l.length->ML C l s o->M C (nth l j) s (o+ml l j)
 |[],_,_,_,h,_=>by grind
 |a::l,0,s,o,_,h=>by grind [ML,nth,ml]
 |a::l,j+1,s,o,b,h=>by
  have:=CU l j s _ (by grind) h.2
  grind [nth,ml]
theorem sH: ∀l j,j<l.length->ml l j+wid (nth l j)<=eu l
 |[],_,h=>by grind
 |a::l,0,_=>by simp[nth,ml,eu]
 |a::l,j+1,h=>by
  have:=sH l j (by grind)
  grind [nth,ml,eu]
theorem Ui{C}: ∀p a s o,oa a p=true->M C a s o->M C (oJ a p) s (o+jv a p)
 |[],a,s,o,_,h=>by grind [oJ,jv]
 |j::p, .agg l,s,o,b,h=>by
  simp only[oa,an3,an2] at b;have:=Ui p _ s _ b.2 (CU l j s o b.1 h)
  grind [oJ,af,jv]
 |_::_, .cB,_,_,b,_|_::_, .lit _,_,_,b,_|_::_, .ah _ _,_,_,b,_|_::_, .aJ _,_,_,b,_|_::_, .ak _ _ _,_,_,b,_
 |_::_, .ptr _ _ _ _,_,_,b,_|_::_, .js _ _,_,_,b,_|_::_, .mp _,_,_,b,_|_::_, .cf _,_,_,b,_|_::_, .lx _ _,_,_,b,_
 |_::_, .bm _ _,_,_,b,_|_::_, .jz _ _,_,_,b,_|_::_, .eP _ _ _ _,_,_,b,_=>by simp[oa] at b
theorem pY: ∀p a,oa a p=true->jv a p+wid (oJ a p)<=wid a
 |[],a,_=>by grind [oJ,jv]
 |j::p, .agg l,b=>by
  simp[oa] at b;have c:=pY p _ b.2;have d:=sH l j b.1
  grind [oJ,af,jv,wid]
 |_::_, .cB,b|_::_, .lit _,b|_::_, .ah _ _,b|_::_, .aJ _,b|_::_, .ak _ _ _,b
 |_::_, .ptr _ _ _ _,b|_::_, .js _ _,b|_::_, .mp _,b|_::_, .cf _,b|_::_, .lx _ _,b
 |_::_, .bm _ _,b|_::_, .jz _ _,b|_::_, .eP _ _ _ _,b=>by grind [oa]
theorem zx{P}: ∀l b j f,dT P l b->qY b j=some f->j<l.length/\bz P (nth l j) f.type
 |[],[],_,_,_,h=>by grind [qY]
 |[],_::_,_,_,h,_=>by grind [dT]
 |_::_,[],_,_,h,_=>by grind [dT]
 |a::l,g::b,0,f,c,h=>by
  grind [qY,dT,nth]
 |a::l,g::b,j+1,f,c,h=>by
  obtain⟨e,d⟩:=zx l _ j f c.2 h
  grind [nth]
theorem zU{C} g(j: ∀T a s o,bz C.P a T->M C a s o->M C (g T a) s o/\bz C.P (g T a) T)(i:eU C.P):
  ∀c l b s o,dT C.P l c->ML C l s o->
   ML C (K5 g c b.length (.agg (b++l))) s o/\dT C.P (K5 g c b.length (.agg (b++l))) c
 |[],[],_,_,_,_,_=>by simp[K5,ML,dT]
 |[],_::_,_,_,_,h,_=>by simp[dT] at h
 |_::_,[],_,_,_,h,_=>by simp[dT] at h
 | f::c,a::l,b,s,o,d,h=>by
  simp only[ML] at h;have k: ∀(b l:List AV) (a:AV),nth (b++a::l) b.length=a:=by
   intro b;induction b<;>simp_all[List.cons_append,List.length_cons,nth]
  have n:=zU g j i c l (b++[a]) s (o+wid a) d.2 h.2;have e:(b++[a]).length=b.length+1:=by simp
  rw[e] at n;simp only[K5,af,k,ML,dT];obtain⟨q,m⟩:=j f.type a s o d.1 h.1;have p:wid (g f.type a)=wid a:=by rw[dq i _ _ m,dq i _ _ d.1]
  grind
theorem mB{C}(m:eU C.P): ∀d T a s o,bz C.P a T->M C a s o->M C (expand C.P d T a) s o/\bz C.P (expand C.P d T a) T
 |0,T,a,s,o,c,h=>by simpa[expand] using⟨h,c⟩
 | d +1,T,a,s,o,c,h=>by
  simp only[expand];split
  ·rename_i k e
   cases a<;>simp only[bz,e] at c<;>try (first|exact c.elim|(obtain⟨b,_⟩:=c;simp at b;done)|(obtain⟨f,b,_⟩:=c;simp at b;done)|(obtain⟨⟨g,b⟩,_⟩:=c;simp at b;done))
   obtain⟨n,rfl⟩:=c;exact⟨h,by simp[toInt,bz,e]⟩
  ·rename_i e
   cases a<;>simp only[bz,e] at c<;>try (first|exact c.elim|(obtain⟨b,_⟩:=c;simp at b;done)|(obtain⟨f,b,_⟩:=c;simp at b;done)|(obtain⟨⟨g,b⟩,_⟩:=c;simp at b;done))
   obtain⟨n,rfl⟩:=c;exact⟨h,by simp[toBool,bz,e]⟩
  ·rename_i e
   cases a<;>simp only[bz,e] at c<;>try (first|exact c.elim|(obtain⟨b,_⟩:=c;simp at b;done)|(obtain⟨f,b,_⟩:=c;simp at b;done)|(obtain⟨⟨g,b⟩,_⟩:=c;simp at b;done))
   obtain⟨n,rfl⟩:=c;exact⟨h,by simp[toStr,bz,e]⟩
  ·rename_i E e
   cases a<;>simp only[bz,e] at c<;>try (first|exact c.elim|(obtain⟨f,b,_⟩:=c;simp at b;done)|(obtain⟨⟨g,b⟩,_⟩:=c;simp at b;done))
   ·subst c
    simp only[M] at h;refine⟨?_,by simp[ag,bz,ck,e]⟩;simp only[ag,M,ck,List.length_nil];exact⟨trivial,none,0,h.1,Nat.le_refl _,fun j=>absurd rfl j⟩
   ·obtain⟨b,i⟩:=c
    simp only[an5,TypeDesc.slice.injEq] at b;subst b;exact⟨by simpa[ag] using h,by simpa[ag,bz,e] using i⟩
   ·obtain⟨b,_⟩:=c;simp at b
   ·obtain⟨b,_⟩:=c;simp at b
  ·rename_i K V e
   cases a<;>simp only[bz,e] at c<;>try (first|exact c.elim|(obtain⟨f,b,_⟩:=c;simp at b;done)|(obtain⟨⟨g,b⟩,_⟩:=c;simp at b;done)|(obtain⟨b,_⟩:=c;simp at b;done))
   ·subst c
    cases p:LV C.P.toProgram V with
    |false=>exact⟨h,by simp[bz,e]⟩
    |true=>
     simp only[M] at h;refine⟨?_,by simp[xO,bz,ck,e]⟩;simp only[an9,B7,xO,M];exact .inl ⟨p,h.1,trivial,trivial⟩
   ·obtain⟨b,i⟩:=c
    simp only[an5,TypeDesc.map.injEq] at b;obtain⟨rfl,rfl⟩:=b;exact⟨by simpa[B7,xO] using h,by simpa[xO,bz,e] using i⟩
  ·rename_i f e
   cases a<;>simp only[bz,e] at c<;>try (first|exact c.elim|(obtain⟨b,_⟩:=c;simp at b;done)|(obtain⟨⟨g,b⟩,_⟩:=c;simp at b;done))
   rename_i l;obtain⟨q,⟨b,r⟩,i⟩:=c;simp only[an5,TypeDesc.struct.injEq] at b;subst b;simp only[M] at h;have:=zU (expand C.P d) (fun T a s o=>mB m d T a s o) m f.toList l [] s o i h
   simp only[List.length_nil,List.nil_append] at this;refine⟨by simpa[M] using this.1,?_⟩;simp only[bz];exact⟨f,⟨e,r⟩,this.2⟩
  ·exact⟨h,c⟩
end Go.Dn
