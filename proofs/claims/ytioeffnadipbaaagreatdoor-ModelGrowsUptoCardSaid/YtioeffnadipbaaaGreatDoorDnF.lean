import Derived.Test.YtioeffnadipbaaaGreatDoorDnE
import Derived.WalkKit
namespace Go.Dn
open Go
mutual
theorem EV{C:Ctx}: ∀(a:AV) (T:TypeId) (s:Src) (o:Nat),bB C.P a T->M C a s o->∀j,j<wid a->∃v,s (o+j)=some v/\bg v=true
 | .lit v,_,s,o,_,h,j,hj=>by
  simp only[wid] at hj;obtain rfl:j=0:=by omega
  simp only[M] at h;exact⟨v,h⟩
 | .ah E l,_,s,o,_,h,j,hj=>by
  simp only[wid] at hj;obtain rfl:j=0:=by omega
  simp only[M] at h;obtain⟨_,p,cap,h2,_⟩:=h
  exact⟨_,h2,rfl⟩
 | .agg l,T,s,o,ht,h,j,hj=>by
  simp only[bB] at ht;obtain⟨fs,_,h2⟩:=ht
  simp only[M] at h;simp only[wid] at hj
  exact Hj l fs.toList s o h2 h j hj
 | .jj E a,_,s,o,_,h,j,hj=>by
  simp only[wid] at hj;obtain rfl:j=0:=by omega
  simp only[M] at h;obtain⟨b,off,h2,_⟩:=h
  exact⟨_,h2,rfl⟩
 | .jt U a,_,s,o,_,h,j,hj=>by
  simp only[wid] at hj;obtain rfl:j=0:=by omega
  simp only[M] at h;obtain⟨u,h2,_⟩:=h
  exact⟨_,h2,rfl⟩
 | .eO K V ks vs,_,s,o,_,h,j,hj=>by
  simp only[wid] at hj;obtain rfl:j=0:=by omega
  simp only[M] at h;rcases h with⟨_,h,_⟩|⟨b,_,_,h,_⟩
  ·exact⟨_,h,rfl⟩
  ·exact⟨_,h,rfl⟩
 | .cB,_,_,_,h,_,_,_=>by simp[bB] at h
 | .aH _,_,_,_,h,_,_,_=>by simp[bB] at h
 | .ak _ _ _,_,_,_,h,_,_,_=>by simp[bB] at h
 | .ptr _ _ _ _,_,_,_,h,_,_,_=>by simp[bB] at h
 | .mp _,_,_,_,h,_,_,_=>by simp[bB] at h
 | .cf _,_,_,_,h,_,_,_=>by simp[bB] at h
 | .lj _ _,_,_,_,h,_,_,_=>by simp[bB] at h
 | .bm _ _,_,_,_,h,_,_,_=>by simp[bB] at h
theorem Hj{C:Ctx}: ∀(l:List AV) (fs:List Field) (s:Src) (o:Nat),dW C.P l fs->ML C l s o->∀j,j<eF l->∃v,s (o+j)=some v/\bg v=true
 |[],_,_,_,_,_,j,hj=>by simp[eF] at hj
 |_::_,[],_,_,h,_,_,_=>by simp[dW] at h
 | a::l,f::fs,s,o,ht,h,j,hj=>by
  simp only[dW] at ht;simp only[ML] at h;simp only[eF] at hj;rcases Nat.lt_or_ge j (wid a) with hlt|hge
  ·exact EV a f.type s o ht.1 h.1 j hlt
  ·obtain⟨v,h1,h2⟩:=Hj l fs s (o+wid a) ht.2 h.2 (j - wid a) (by omega)
   exact⟨v,by rw[←h1];congr 1;omega,h2⟩
end
theorem j1{C a s s' o o'}(hI:Inv C)(hs: ∀j,j<wid a->s' (o'+j)=s (o+j))(h:M C a s o):M C a s' o':=
 M.gf (bP.refl C) hI.lay (fun _ _ hlt=>b8.refl C hlt) hs h
theorem gO{v}(h:ew v=false):v.cells= #[v]:=by cases v<;>simp_all[Value.cells,ew]
theorem DK{C}(c:Inv C){a s o v}(d:b6 a=false)(h:M C a s o)(e:s o=some v)(b:ew v=false):Rel C a v:=by
 have g:wid a=1:=by cases a<;>simp_all[b6,wid]
 have i:=gO b;refine⟨by grind,by grind,j1 c (fun j f=>?_) h⟩
 grind
theorem mD{C}(c:Inv C){l s o a}(h:M C (.agg l) s o)(b:a.size=wid (.agg l))(e: ∀j,j<a.size->s (o+j)=a[j]?):Rel C (.agg l) (.agg a):=
 ⟨.inl rfl, .inl (by grind [Value.cells]),j1 c fun j d=>by grind [Value.cells] h⟩
section
variable {P:Program} {w:World}
theorem ea b o i:(⟨b,o,none⟩:Addr).add i=⟨b,o+i,none⟩:=by
 grind [Addr.add]
theorem lQ{b o v}(h:w.cell? ⟨b,o,none⟩=some v):(load ⟨b,o,none⟩).run P w= .ok v w:=by
 simp[h]
theorem run_loadCellsFrom b o: ∀n i a,(∀j,j<n->(w.cell? ⟨b,o+i+j,none⟩).isSome=true)->
  ∃c,c.size=n/\(∀j,j<n->w.cell? ⟨b,o+i+j,none⟩=c[j]?)/\(loadCellsFrom ⟨b,o,none⟩ i n a).run P w= .ok (a++c) w
 |0,i,a,_=>⟨#[],rfl,by simp,by simp[loadCellsFrom]⟩
 | n+1,i,a,h=>by
  have d:=h 0 (by omega);obtain⟨v,g⟩:=Option.isSome_iff_exists.1 d;obtain⟨c,e,k,l⟩:=run_loadCellsFrom b o n (i+1) (a.push v) (by grind);refine⟨#[v]++c,by simp[e];omega,fun j f=>?_,?_⟩
  ·grind
  ·simp only[loadCellsFrom,Sem.run_bind,ea]
   simp_all
theorem run_loadCells b o n(h: ∀j,j<n->(w.cell? ⟨b,o+j,none⟩).isSome=true):
  ∃a,a.size=n/\(∀j,j<n->w.cell? ⟨b,o+j,none⟩=a[j]?)/\(loadCells ⟨b,o,none⟩ n).run P w= .ok a w:=by
 obtain⟨a,d,e,c⟩:=run_loadCellsFrom (P:=P)  b o n 0 #[] (by omega)
 grind [loadCells]
end
theorem uP{P:Program}{T d}(h:P.underlying T=some d): ∃i,P.info? T=some i:=by
 grind [Program.underlying]
theorem run_sizeOf{P w T d}(h:P.underlying T=some d):(sizeOf T).run P w= .ok (P.cellsOf T) w:=by
 obtain⟨i,a⟩:=uP h;simp[sizeOf,typeInfo,a,Program.cellsOf]
theorem gQ{P w T d}(h:P.underlying T=some d):(isAgg T).run P w= .ok (dH P T) w:=by
 simp[isAgg,run_underlying h];simp[dH,h];cases d<;>rfl
theorem nI{C}(i:Inv C){T d}(g:C.P.underlying T=some d){b o a}
  (m:M C a (cellAt C.w b) o) (e:dH C.P T=b6 a) (r:wid a=C.P.cellsOf T) (h: ∀j,j<wid a->∃v,C.w.cell? ⟨b,o+j,none⟩=some v/\(b6 a=false->bg v=true)):
  ∃v,(loadVar T ⟨b,o,none⟩).run C.P C.w= .ok v C.w/\Rel C a v:=by
 cases f:b6 a with
 |false=>
  have q:wid a=1:=by cases a<;>simp_all[b6,wid]
  obtain⟨v,k,c⟩:=h 0 (by omega);refine⟨v,?_,DK i f m k (xf (c f))⟩;simp only[loadVar,Sem.run_bind,gQ g,Result.andThen_ok,e,f,Bool.false_eq_true,if_false];exact lQ k
 |true=>
  obtain⟨s,n,p,t⟩:=run_loadCells (P:=C.P) (w:=C.w) b o (wid a) (by grind);cases a<;>simp[b6] at f
  rename_i l;refine⟨.agg s,?_,mD i m n (fun j u=>p j (by omega))⟩;simp only[loadVar,Sem.run_bind,gQ g,Result.andThen_ok,e,b6,if_true,run_sizeOf g,←r,t,Sem.run_pure]
theorem Cg{C}: ∀l j s o,j<l.length->ML C l s o->M C (nth l j) s (o+l6 l j)
 |[],_,_,_,h,_=>by grind
 |a::l,0,s,o,_,h=>by grind [ML,nth,l6]
 |a::l,j+1,s,o,b,h=>by
  have:=Cg l j s _ (by grind) h.2
  grind [nth,l6]
theorem rM: ∀l j,j<l.length->l6 l j+wid (nth l j)<=eF l
 |[],_,h=>by grind
 |a::l,0,_=>by simp[nth,l6,eF]
 |a::l,j+1,h=>by
  have:=rM l j (by grind)
  grind [nth,l6,eF]
theorem Vn{C}: ∀p a s o,nP a p=true->M C a s o->M C (nX a p) s (o+ji a p)
 |[],a,s,o,_,h=>by grind [nX,ji]
 |j::p, .agg l,s,o,b,h=>by
  simp only[nP,ar5,ar4] at b;have:=Vn p _ s _ b.2 (Cg l j s o b.1 h)
  grind [nX,ag,ji]
 |_::_, .cB,_,_,b,_|_::_, .lit _,_,_,b,_|_::_, .ah _ _,_,_,b,_|_::_, .aH _,_,_,b,_|_::_, .ak _ _ _,_,_,b,_
 |_::_, .ptr _ _ _ _,_,_,b,_|_::_, .jj _ _,_,_,b,_|_::_, .mp _,_,_,b,_|_::_, .cf _,_,_,b,_|_::_, .lj _ _,_,_,b,_
 |_::_, .bm _ _,_,_,b,_|_::_, .jt _ _,_,_,b,_|_::_, .eO _ _ _ _,_,_,b,_=>by simp[nP] at b
theorem pC: ∀p a,nP a p=true->ji a p+wid (nX a p)<=wid a
 |[],a,_=>by grind [nX,ji]
 |j::p, .agg l,b=>by
  simp[nP,ar5] at b;have c:=pC p _ b.2;have d:=rM l j b.1
  grind [nX,ag,ji,wid]
 |_::_, .cB,b|_::_, .lit _,b|_::_, .ah _ _,b|_::_, .aH _,b|_::_, .ak _ _ _,b
 |_::_, .ptr _ _ _ _,b|_::_, .jj _ _,b|_::_, .mp _,b|_::_, .cf _,b|_::_, .lj _ _,b
 |_::_, .bm _ _,b|_::_, .jt _ _,b|_::_, .eO _ _ _ _,b=>by grind [nP]
theorem zl{P}: ∀l b j f,dW P l b->qz b j=some f->j<l.length/\bB P (nth l j) f.type
 |[],[],_,_,_,h=>by grind [qz]
 |[],_::_,_,_,h,_=>by grind [dW]
 |_::_,[],_,_,h,_=>by grind [dW]
 |a::l,g::b,0,f,c,h=>by
  grind [qz,dW,nth]
 |a::l,g::b,j+1,f,c,h=>by
  obtain⟨e,d⟩:=zl l _ j f c.2 h
  grind [nth]
theorem zc{C} g(j: ∀T a s o,bB C.P a T->M C a s o->M C (g T a) s o/\bB C.P (g T a) T)(i:eV C.P):
  ∀c l b s o,dW C.P l c->ML C l s o->
   ML C (Kj g c b.length (.agg (b++l))) s o/\dW C.P (Kj g c b.length (.agg (b++l))) c
 |[],[],_,_,_,_,_=>by simp[Kj,ML,dW]
 |[],_::_,_,_,_,h,_=>by simp[dW] at h
 |_::_,[],_,_,_,h,_=>by simp[dW] at h
 | f::c,a::l,b,s,o,d,h=>by
  simp only[ML] at h;have k: ∀(b l:List AV) (a:AV),nth (b++a::l) b.length=a:=by
   intro b;induction b<;>simp_all[List.cons_append,List.length_cons,nth]
  have n:=zc g j i c l (b++[a]) s (o+wid a) d.2 h.2;have e:(b++[a]).length=b.length+1:=by simp
  rw[e] at n;simp only[Kj,ag,k,ML,dW];obtain⟨q,m⟩:=j f.type a s o d.1 h.1;have p:wid (g f.type a)=wid a:=by rw[dp i _ _ m,dp i _ _ d.1]
  grind
theorem mf{C}(m:eV C.P): ∀d T a s o,bB C.P a T->M C a s o->M C (expand C.P d T a) s o/\bB C.P (expand C.P d T a) T
 |0,T,a,s,o,c,h=>by simpa[expand] using⟨h,c⟩
 | d +1,T,a,s,o,c,h=>by
  simp only[expand];split
  ·rename_i k e
   cases a<;>simp only[bB,e] at c<;>try (first|exact c.elim|(obtain⟨b,_⟩:=c;simp at b;done)|(obtain⟨f,b,_⟩:=c;simp at b;done)|(obtain⟨⟨g,b⟩,_⟩:=c;simp at b;done))
   obtain⟨n,rfl⟩:=c;exact⟨h,by simp[toInt,bB,e]⟩
  ·rename_i e
   cases a<;>simp only[bB,e] at c<;>try (first|exact c.elim|(obtain⟨b,_⟩:=c;simp at b;done)|(obtain⟨f,b,_⟩:=c;simp at b;done)|(obtain⟨⟨g,b⟩,_⟩:=c;simp at b;done))
   obtain⟨n,rfl⟩:=c;exact⟨h,by simp[toBool,bB,e]⟩
  ·rename_i e
   cases a<;>simp only[bB,e] at c<;>try (first|exact c.elim|(obtain⟨b,_⟩:=c;simp at b;done)|(obtain⟨f,b,_⟩:=c;simp at b;done)|(obtain⟨⟨g,b⟩,_⟩:=c;simp at b;done))
   obtain⟨n,rfl⟩:=c;exact⟨h,by simp[toStr,bB,e]⟩
  ·rename_i E e
   cases a<;>simp only[bB,e] at c<;>try (first|exact c.elim|(obtain⟨f,b,_⟩:=c;simp at b;done)|(obtain⟨⟨g,b⟩,_⟩:=c;simp at b;done))
   ·subst c
    simp only[M] at h;refine⟨?_,by simp[af,bB,ck,e]⟩;simp only[af,M,ck,List.length_nil];exact⟨trivial,none,0,h.1,Nat.le_refl _,fun j=>absurd rfl j⟩
   ·obtain⟨b,i⟩:=c
    simp only[ar7,TypeDesc.slice.injEq] at b;subst b;exact⟨by simpa[af] using h,by simpa[af,bB,e] using i⟩
   ·obtain⟨b,_⟩:=c;simp at b
   ·obtain⟨b,_⟩:=c;simp at b
  ·rename_i K V e
   cases a<;>simp only[bB,e] at c<;>try (first|exact c.elim|(obtain⟨f,b,_⟩:=c;simp at b;done)|(obtain⟨⟨g,b⟩,_⟩:=c;simp at b;done)|(obtain⟨b,_⟩:=c;simp at b;done))
   ·subst c
    cases p:Oz C.P.toProgram V with
    |false=>exact⟨h,by simp[bB,e]⟩
    |true=>
     simp only[M] at h;refine⟨?_,by simp[x9,bB,ck,e]⟩;simp only[as1,B0,x9,M];exact .inl ⟨p,h.1,trivial,trivial⟩
   ·obtain⟨b,i⟩:=c
    simp only[ar7,TypeDesc.map.injEq] at b;obtain⟨rfl,rfl⟩:=b;exact⟨by simpa[B0,x9] using h,by simpa[x9,bB,e] using i⟩
  ·rename_i f e
   cases a<;>simp only[bB,e] at c<;>try (first|exact c.elim|(obtain⟨b,_⟩:=c;simp at b;done)|(obtain⟨⟨g,b⟩,_⟩:=c;simp at b;done))
   rename_i l;obtain⟨q,⟨b,r⟩,i⟩:=c;simp only[ar7,TypeDesc.struct.injEq] at b;subst b;simp only[M] at h;have:=zc (expand C.P d) (fun T a s o=>mf m d T a s o) m f.toList l [] s o i h
   simp only[List.length_nil,List.nil_append] at this;refine⟨by simpa[M] using this.1,?_⟩;simp only[bB];exact⟨f,⟨e,r⟩,this.2⟩
  ·exact⟨h,c⟩
end Go.Dn
