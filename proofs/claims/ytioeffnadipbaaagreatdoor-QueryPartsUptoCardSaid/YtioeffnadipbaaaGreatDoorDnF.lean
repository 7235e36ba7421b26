import Derived.Test.YtioeffnadipbaaaGreatDoorDnE
import Derived.WalkKit
namespace Go.Dn
open Go
mutual
theorem Ey{C:Ctx}: ∀(a:AV) (T:TypeId) (s:Src) (o:Nat),bu C.P a T->M C a s o->∀j,j<wid a->∃v,s (o+j)=some v/\bg v=true
 | .lit v,_,s,o,_,h,j,hj=>by
  simp only[wid] at hj;obtain rfl:j=0:=by omega
  simp only[M] at h;exact⟨v,h⟩
 | .ad E l,_,s,o,_,h,j,hj=>by
  simp only[wid] at hj;obtain rfl:j=0:=by omega
  simp only[M] at h;obtain⟨_,p,cap,h2,_⟩:=h
  exact⟨_,h2,rfl⟩
 | .agg l,T,s,o,ht,h,j,hj=>by
  simp only[bu] at ht;obtain⟨fs,_,h2⟩:=ht
  simp only[M] at h;simp only[wid] at hj
  exact Gt l fs.toList s o h2 h j hj
 | .jA E a,_,s,o,_,h,j,hj=>by
  simp only[wid] at hj;obtain rfl:j=0:=by omega
  simp only[M] at h;obtain⟨b,off,h2,_⟩:=h
  exact⟨_,h2,rfl⟩
 | .jz U a,_,s,o,_,h,j,hj=>by
  simp only[wid] at hj;obtain rfl:j=0:=by omega
  simp only[M] at h;obtain⟨u,h2,_⟩:=h
  exact⟨_,h2,rfl⟩
 | .eO K V ks vs,_,s,o,_,h,j,hj=>by
  simp only[wid] at hj;obtain rfl:j=0:=by omega
  simp only[M] at h;rcases h with⟨_,h,_⟩|⟨b,_,_,h,_⟩
  ·exact⟨_,h,rfl⟩
  ·exact⟨_,h,rfl⟩
 | .cK,_,_,_,h,_,_,_=>by simp[bu] at h
 | .aK _,_,_,_,h,_,_,_=>by simp[bu] at h
 | .ax _ _ _,_,_,_,h,_,_,_=>by simp[bu] at h
 | .ptr _ _ _ _,_,_,_,h,_,_,_=>by simp[bu] at h
 | .mp _,_,_,_,h,_,_,_=>by simp[bu] at h
 | .bJ _,_,_,_,h,_,_,_=>by simp[bu] at h
 | .lC _ _,_,_,_,h,_,_,_=>by simp[bu] at h
 | .bp _ _,_,_,_,h,_,_,_=>by simp[bu] at h
theorem Gt{C:Ctx}: ∀(l:List AV) (fs:List Field) (s:Src) (o:Nat),ea C.P l fs->ML C l s o->∀j,j<eL l->∃v,s (o+j)=some v/\bg v=true
 |[],_,_,_,_,_,j,hj=>by simp[eL] at hj
 |_::_,[],_,_,h,_,_,_=>by simp[ea] at h
 | a::l,f::fs,s,o,ht,h,j,hj=>by
  simp only[ea] at ht;simp only[ML] at h;simp only[eL] at hj;rcases Nat.lt_or_ge j (wid a) with hlt|hge
  ·exact Ey a f.type s o ht.1 h.1 j hlt
  ·obtain⟨v,h1,h2⟩:=Gt l fs s (o+wid a) ht.2 h.2 (j - wid a) (by omega)
   exact⟨v,by rw[←h1];congr 1;omega,h2⟩
end
theorem j5{C a s s' o o'}(hI:Inv C)(hs: ∀j,j<wid a->s' (o'+j)=s (o+j))(h:M C a s o):M C a s' o':=
 M.gr (bK.refl C) hI.lay (fun _ _ hlt=>bW.refl C hlt) hs h
theorem gZ{v}(h:eF v=false):v.cells= #[v]:=by cases v<;>simp_all[Value.cells,eF]
theorem Dq{C}(c:Inv C){a s o v}(d:bV a=false)(h:M C a s o)(e:s o=some v)(b:eF v=false):Rel C a v:=by
 have g:wid a=1:=by cases a<;>simp_all[bV,wid]
 have i:=gZ b;refine⟨by grind,by grind,j5 c (fun j f=>?_) h⟩
 grind
theorem mP{C}(c:Inv C){l s o a}(h:M C (.agg l) s o)(b:a.size=wid (.agg l))(e: ∀j,j<a.size->s (o+j)=a[j]?):Rel C (.agg l) (.agg a):=
 ⟨.inl rfl, .inl (by grind [Value.cells]),j5 c fun j d=>by grind [Value.cells] h⟩
section
variable {P:Program} {w:World}
theorem ec b o i:(⟨b,o,none⟩:Addr).add i=⟨b,o+i,none⟩:=by
 grind [Addr.add]
theorem lZ{b o v}(h:w.cell? ⟨b,o,none⟩=some v):(load ⟨b,o,none⟩).run P w= .ok v w:=by
 simp[h]
theorem run_loadCellsFrom b o: ∀n i a,(∀j,j<n->(w.cell? ⟨b,o+i+j,none⟩).isSome=true)->
  ∃c,c.size=n/\(∀j,j<n->w.cell? ⟨b,o+i+j,none⟩=c[j]?)/\(loadCellsFrom ⟨b,o,none⟩ i n a).run P w= .ok (a++c) w
 |0,i,a,_=>⟨#[],rfl,by simp,by simp[loadCellsFrom]⟩
 | n+1,i,a,h=>by
  have d:=h 0 (by omega);obtain⟨v,g⟩:=Option.isSome_iff_exists.1 d;obtain⟨c,e,k,l⟩:=run_loadCellsFrom b o n (i+1) (a.push v) (by grind);refine⟨#[v]++c,by simp[e];omega,fun j f=>?_,?_⟩
  ·grind
  ·simp only[loadCellsFrom,Sem.run_bind,ec]
   simp_all
theorem run_loadCells b o n(h: ∀j,j<n->(w.cell? ⟨b,o+j,none⟩).isSome=true):
  ∃a,a.size=n/\(∀j,j<n->w.cell? ⟨b,o+j,none⟩=a[j]?)/\(loadCells ⟨b,o,none⟩ n).run P w= .ok a w:=by
 obtain⟨a,d,e,c⟩:=run_loadCellsFrom (P:=P)  b o n 0 #[] (by omega)
 grind [loadCells]
end
theorem vf{P:Program}{T d}(h:P.underlying T=some d): ∃i,P.info? T=some i:=by
 grind [Program.underlying]
theorem run_sizeOf{P w T d}(h:P.underlying T=some d):(sizeOf T).run P w= .ok (P.cellsOf T) w:=by
 obtain⟨i,a⟩:=vf h;simp[sizeOf,typeInfo,a,Program.cellsOf]
theorem hG{P w T d}(h:P.underlying T=some d):(isAgg T).run P w= .ok (dJ P T) w:=by
 simp[isAgg,run_underlying h];simp[dJ,h];cases d<;>rfl
theorem n9{C}(i:Inv C){T d}(g:C.P.underlying T=some d){b o a}
  (m:M C a (cellAt C.w b) o) (e:dJ C.P T=bV a) (r:wid a=C.P.cellsOf T) (h: ∀j,j<wid a->∃v,C.w.cell? ⟨b,o+j,none⟩=some v/\(bV a=false->bg v=true)):
  ∃v,(loadVar T ⟨b,o,none⟩).run C.P C.w= .ok v C.w/\Rel C a v:=by
 cases f:bV a with
 |false=>
  have q:wid a=1:=by cases a<;>simp_all[bV,wid]
  obtain⟨v,k,c⟩:=h 0 (by omega);refine⟨v,?_,Dq i f m k (xj (c f))⟩;simp only[loadVar,Sem.run_bind,hG g,Result.andThen_ok,e,f,Bool.false_eq_true,if_false];exact lZ k
 |true=>
  obtain⟨s,n,p,t⟩:=run_loadCells (P:=C.P) (w:=C.w) b o (wid a) (by grind);cases a<;>simp[bV] at f
  rename_i l;refine⟨.agg s,?_,mP i m n (fun j u=>p j (by omega))⟩;simp only[loadVar,Sem.run_bind,hG g,Result.andThen_ok,e,bV,if_true,run_sizeOf g,←r,t,Sem.run_pure]
theorem Cb{C}: ∀l j s o,j<l.length->ML C l s o->M C (nth l j) s (o+mm l j)
 |[],_,_,_,h,_=>by grind
 |a::l,0,s,o,_,h=>by grind [ML,nth,mm]
 |a::l,j+1,s,o,b,h=>by
  have:=Cb l j s _ (by grind) h.2
  grind [nth,mm]
theorem sq: ∀l j,j<l.length->mm l j+wid (nth l j)<=eL l
 |[],_,h=>by grind
 |a::l,0,_=>by simp[nth,mm,eL]
 |a::l,j+1,h=>by
  have:=sq l j (by grind)
  grind [nth,mm,eL]
theorem PD{C}: ∀p a s o,oi a p=true->M C a s o->M C (og a p) s (o+jm a p)
 |[],a,s,o,_,h=>by grind [og,jm]
 |j::p, .agg l,s,o,b,h=>by
  simp only[oi,an3,an2] at b;have:=PD p _ s _ b.2 (Cb l j s o b.1 h)
  grind [og,af,jm]
 |_::_, .cK,_,_,b,_|_::_, .lit _,_,_,b,_|_::_, .ad _ _,_,_,b,_|_::_, .aK _,_,_,b,_|_::_, .ax _ _ _,_,_,b,_
 |_::_, .ptr _ _ _ _,_,_,b,_|_::_, .jA _ _,_,_,b,_|_::_, .mp _,_,_,b,_|_::_, .bJ _,_,_,b,_|_::_, .lC _ _,_,_,b,_
 |_::_, .bp _ _,_,_,b,_|_::_, .jz _ _,_,_,b,_|_::_, .eO _ _ _ _,_,_,b,_=>by simp[oi] at b
theorem pU: ∀p a,oi a p=true->jm a p+wid (og a p)<=wid a
 |[],a,_=>by grind [og,jm]
 |j::p, .agg l,b=>by
  simp[oi,an3] at b;have c:=pU p _ b.2;have d:=sq l j b.1
  grind [og,af,jm,wid]
 |_::_, .cK,b|_::_, .lit _,b|_::_, .ad _ _,b|_::_, .aK _,b|_::_, .ax _ _ _,b
 |_::_, .ptr _ _ _ _,b|_::_, .jA _ _,b|_::_, .mp _,b|_::_, .bJ _,b|_::_, .lC _ _,b
 |_::_, .bp _ _,b|_::_, .jz _ _,b|_::_, .eO _ _ _ _,b=>by grind [oi]
theorem zq{P}: ∀l b j f,ea P l b->qY b j=some f->j<l.length/\bu P (nth l j) f.type
 |[],[],_,_,_,h=>by grind [qY]
 |[],_::_,_,_,h,_=>by grind [ea]
 |_::_,[],_,_,h,_=>by grind [ea]
 |a::l,g::b,0,f,c,h=>by
  grind [qY,ea,nth]
 |a::l,g::b,j+1,f,c,h=>by
  obtain⟨e,d⟩:=zq l _ j f c.2 h
  grind [nth]
theorem zj{C} g(j: ∀T a s o,bu C.P a T->M C a s o->M C (g T a) s o/\bu C.P (g T a) T)(i:eU C.P):
  ∀c l b s o,ea C.P l c->ML C l s o->
   ML C (Jx g c b.length (.agg (b++l))) s o/\ea C.P (Jx g c b.length (.agg (b++l))) c
 |[],[],_,_,_,_,_=>by simp[Jx,ML,ea]
 |[],_::_,_,_,_,h,_=>by simp[ea] at h
 |_::_,[],_,_,_,h,_=>by simp[ea] at h
 | f::c,a::l,b,s,o,d,h=>by
  simp only[ML] at h;have k: ∀(b l:List AV) (a:AV),nth (b++a::l) b.length=a:=by
   intro b;induction b<;>simp_all[List.cons_append,List.length_cons,nth]
  have n:=zj g j i c l (b++[a]) s (o+wid a) d.2 h.2;have e:(b++[a]).length=b.length+1:=by simp
  rw[e] at n;simp only[Jx,af,k,ML,ea];obtain⟨q,m⟩:=j f.type a s o d.1 h.1;have p:wid (g f.type a)=wid a:=by rw[dw i _ _ m,dw i _ _ d.1]
  grind
theorem mw{C}(m:eU C.P): ∀d T a s o,bu C.P a T->M C a s o->M C (expand C.P d T a) s o/\bu C.P (expand C.P d T a) T
 |0,T,a,s,o,c,h=>by simpa[expand] using⟨h,c⟩
 | d +1,T,a,s,o,c,h=>by
  simp only[expand];split
  ·rename_i k e
   cases a<;>simp only[bu,e] at c<;>try (first|exact c.elim|(obtain⟨b,_⟩:=c;simp at b;done)|(obtain⟨f,b,_⟩:=c;simp at b;done)|(obtain⟨⟨g,b⟩,_⟩:=c;simp at b;done))
   obtain⟨n,rfl⟩:=c;exact⟨h,by simp[toInt,bu,e]⟩
  ·rename_i e
   cases a<;>simp only[bu,e] at c<;>try (first|exact c.elim|(obtain⟨b,_⟩:=c;simp at b;done)|(obtain⟨f,b,_⟩:=c;simp at b;done)|(obtain⟨⟨g,b⟩,_⟩:=c;simp at b;done))
   obtain⟨n,rfl⟩:=c;exact⟨h,by simp[toBool,bu,e]⟩
  ·rename_i e
   cases a<;>simp only[bu,e] at c<;>try (first|exact c.elim|(obtain⟨b,_⟩:=c;simp at b;done)|(obtain⟨f,b,_⟩:=c;simp at b;done)|(obtain⟨⟨g,b⟩,_⟩:=c;simp at b;done))
   obtain⟨n,rfl⟩:=c;exact⟨h,by simp[toStr,bu,e]⟩
  ·rename_i E e
   cases a<;>simp only[bu,e] at c<;>try (first|exact c.elim|(obtain⟨f,b,_⟩:=c;simp at b;done)|(obtain⟨⟨g,b⟩,_⟩:=c;simp at b;done))
   ·subst c
    simp only[M] at h;refine⟨?_,by simp[aa,bu,b8,e]⟩;simp only[aa,M,b8,List.length_nil];exact⟨trivial,none,0,h.1,Nat.le_refl _,fun j=>absurd rfl j⟩
   ·obtain⟨b,i⟩:=c
    simp only[an5,TypeDesc.slice.injEq] at b;subst b;exact⟨by simpa[aa] using h,by simpa[aa,bu,e] using i⟩
   ·obtain⟨b,_⟩:=c;simp at b
   ·obtain⟨b,_⟩:=c;simp at b
  ·rename_i K V e
   cases a<;>simp only[bu,e] at c<;>try (first|exact c.elim|(obtain⟨f,b,_⟩:=c;simp at b;done)|(obtain⟨⟨g,b⟩,_⟩:=c;simp at b;done)|(obtain⟨b,_⟩:=c;simp at b;done))
   ·subst c
    cases p:Nv C.P.toProgram V with
    |false=>exact⟨h,by simp[bu,e]⟩
    |true=>
     simp only[M] at h;refine⟨?_,by simp[Kx,bu,b8,e]⟩;simp only[an9,Rm,Kx,M];exact .inl ⟨p,h.1,trivial,trivial⟩
   ·obtain⟨b,i⟩:=c
    simp only[an5,TypeDesc.map.injEq] at b;obtain⟨rfl,rfl⟩:=b;exact⟨by simpa[Rm,Kx] using h,by simpa[Kx,bu,e] using i⟩
  ·rename_i f e
   cases a<;>simp only[bu,e] at c<;>try (first|exact c.elim|(obtain⟨b,_⟩:=c;simp at b;done)|(obtain⟨⟨g,b⟩,_⟩:=c;simp at b;done))
   rename_i l;obtain⟨q,⟨b,r⟩,i⟩:=c;simp only[an5,TypeDesc.struct.injEq] at b;subst b;simp only[M] at h;have:=zj (expand C.P d) (fun T a s o=>mw m d T a s o) m f.toList l [] s o i h
   simp only[List.length_nil,List.nil_append] at this;refine⟨by simpa[M] using this.1,?_⟩;simp only[bu];exact⟨f,⟨e,r⟩,this.2⟩
  ·exact⟨h,c⟩
end Go.Dn
namespace Go.Dn
open Go
theorem gU{C a v}(h:Rel C a v)(c:bV a=false)(b:a≠ .cK):v.cells= #[v]/\eF v=false:=by
 have d:=h.1.resolve_right b
 grind [gZ]
theorem aL{C u v}(h:Rel C (.lit u) v):v=u:=by
 have b:=gU h rfl (by simp);have a:=h.2.2
 grind [M]
theorem lW{C i k off p v}(h:Rel C (.ptr i k p off) v):i<C.st.length/\ql C i k off v:=by
 have b:=gU h rfl (by simp);have a:=h.2.2
 grind [M]
theorem gj{C i lo n v}(h:Rel C (.ax i lo n) v):i<C.st.length/\lH C i lo n v:=by
 have b:=gU h rfl (by simp);have a:=h.2.2
 grind [M]
theorem tP{C i v}(h:Rel C (.mp i) v):i<C.st.length/\Lh C i v:=by
 have b:=gU h rfl (by simp);have a:=h.2.2
 grind [M]
theorem QA{C T a v}(h:Rel C (.jz T a) v): ∃u,v= .iface T u:=by
 have b:=h.1.resolve_right (by simp);have d:=gZ  (by rw[b];rfl);have c:=h.2.2
 grind [M]
theorem Bx{C i v}(h:Rel C (.bJ i) v):i<C.st.length/\yK C i v:=by
 have b:=gU h rfl (by simp);have a:=h.2.2
 grind [M]
theorem QB{C i k v}(h:Rel C (.lC i k) v):i<C.st.length/\vM C i k v:=by
 have b:=gU h rfl (by simp);have a:=h.2.2
 grind [M]
theorem nM{C T l v}(h:Rel C (.ad T l) v):b8 C.P l T/\∃p cap,v= .slice p l.length cap/\l.length<=cap/\
  (l≠[]->∃b off,p=some ⟨b,off,none⟩/\C.X b/\MR C l (C.P.cellsOf T) (cellAt C.w b) off):=by
 have f:=gU h rfl (by simp);have a:=h.2.2;rw[f.1] at a;obtain⟨e,p,cap,c,d⟩:=a;simp at c;subst c
 exact⟨e,p,_,rfl,d⟩
theorem Bu{C T a v}(h:Rel C (.jA T a) v): ∃b off,v= .pointer (some ⟨b,off,none⟩)/\C.X b/\bu C.P a T/\M C a (cellAt C.w b) off:=by
 have f:=gU h rfl (by simp);have c:=h.2.2;rw[f.1] at c;obtain⟨b,off,d,e⟩:=c;simp at d;subst d
 exact⟨b,_,rfl,e⟩
theorem Bv{C l v}(h:Rel C (.aK l) v): ∃a,v= .tuple a/\MT C l a.toList:=by
 have c:=gU h rfl (by simp);have b:=h.2.2
 grind [M]
theorem vv{C f l v}(h:Rel C (.bp f l) v): ∃a,v= .func (.func f) #[] a/\MT C l a.toList:=by
 have c:=gU h rfl (by simp);have b:=h.2.2
 grind [M]
theorem sF{C l v}(h:Rel C (.agg l) v): ∃a,v= .agg a/\a.size=eL l/\ML C l (fun j=>a[j]?) 0:=by
 have c:=h.1.resolve_right (by simp);have d:=h.2.1.resolve_right (by simp);have b:=h.2.2
 simp_all[eF,bV]
 grind [Value.cells,wid,M]
theorem dX{C a v}(e:bV a=false)(b:eF v=false)(h:M C a (fun _=>some v) 0)(c:Inv C):Rel C a v:=by
 have f:wid a=1:=by cases a<;>simp_all[bV,wid]
 have g:=gZ b;refine⟨by grind,by grind,j5 c (fun j d=>?_) h⟩
 grind
theorem Cd{C}: ∀l k z s o,k<l.length->MR C l z s o->M C (nth l k) s (o+k*z)
 |[],_,_,_,_,h,_=>by grind
 |a::l,0,z,s,o,_,h=>by grind [MR,nth]
 |a::l,k+1,z,s,o,b,h=>by
  have:=Cd l k z s _ (by grind) h.2
  grind [nth]
theorem o5{P}: ∀l k T,k<l.length->b8 P l T->bu P (nth l k) T
 |[],_,_,h,_=>by grind
 |a::l,0,T,_,h=>by grind [b8,nth]
 |a::l,k+1,T,b,h=>by
  simpa[nth] using o5 l k T (by grind) h.2
theorem x3: ∀l j,j<l.length->dL l=true->cR (nth l j)=true
 |[],_,h,_=>by grind
 |a::l,0,_,h=>by
  simp[dL] at h;exact h.1
 |a::l,j+1,b,h=>by
  simp[dL] at h;simpa[nth] using x3 l j (by grind) h.2
theorem zO: ∀p a,oi a p=true->cR a=true->cR (og a p)=true
 |[],a,_,h=>by cases a<;>exact h
 |j::p, .agg l,b,h=>by
  simp[oi] at b;exact zO p _ b.2 (x3 l j b.1 h)
 |_::_, .cK,b,_|_::_, .lit _,b,_|_::_, .ad _ _,b,_|_::_, .aK _,b,_|_::_, .ax _ _ _,b,_
 |_::_, .ptr _ _ _ _,b,_|_::_, .jA _ _,b,_|_::_, .mp _,b,_|_::_, .bJ _,b,_|_::_, .lC _ _,b,_
 |_::_, .bp _ _,b,_|_::_, .jz _ _,b,_|_::_, .eO _ _ _ _,b,_=>by grind [oi]
theorem gX{C}: ∀{a s o},bV a=false->cR a=true->M C a s o->∃v,s o=some v/\bg v=true
 | .cK,_,_,_,d,_=>by simp[cR] at d
 | .aK _,_,_,_,d,_=>by simp[cR] at d
 | .agg _,_,_,e,_,_=>by simp[bV] at e
 | .lit _,_,_,_,_,h=>by grind [M]
 | .ad _ _,_,_,_,_,h=>by simp only[M] at h;obtain⟨_,p,cap,c,_⟩:=h;exact⟨_,c,rfl⟩
 | .ax _ _ _,_,_,_,_,h=>by grind [M]
 | .ptr _ _ _ _,_,_,_,_,h=>by grind [M]
 | .jA _ _,_,_,_,_,h=>by obtain⟨b,off,c,_⟩:=h;exact⟨_,c,rfl⟩
 | .mp _,_,_,_,_,h=>by grind [M]
 | .bJ _,_,_,_,_,h=>by grind [M]
 | .lC _ _,_,_,_,_,h=>by grind [M]
 | .bp _ _,_,_,_,_,h=>by simp only[M] at h;obtain⟨f,c,_⟩:=h;exact⟨_,c,rfl⟩
 | .jz _ _,_,_,_,_,h=>by obtain⟨u,c,_⟩:=h;exact⟨_,c,rfl⟩
 | .eO _ _ _ _,_,_,_,_,h=>by
  simp only[M] at h;rcases h with⟨_,h,_⟩|⟨b,_,_,h,_⟩
  ·exact⟨_,h,rfl⟩
  ·exact⟨_,h,rfl⟩
theorem ze{C}(l:Inv C){T b o a h p}(i:bu C.P a h)(e:M C a (cellAt C.w b) o)
  (f:oi a p=true) (c:dJ C.P T=bV (og a p)) (k:wid (og a p)=C.P.cellsOf T) (g:(C.P.underlying T).isSome=true):
  ∃v,(loadVar T ⟨b,o+jm a p,none⟩).run C.P C.w= .ok v C.w/\Rel C (og a p) v:=by
 obtain⟨d,hd⟩:=Option.isSome_iff_exists.1 g;refine n9 l hd (PD p a _ o f e) c k fun j q=>?_
 have m:=pU p a f;obtain⟨v,r,n⟩:=Ey a _ _ o i e (jm a p+j) (by omega)
 grind [cellAt]
theorem wZ{C}(H:Inv C){T p x c vp}(h:n8 C.P C.st T p=some (c,x))(hr:Rel C p vp):
  ∃v,(Instr.loadAt T vp).run C.P C.w= .ok v C.w/\Rel C x v:=by
 cases p<;>simp only[n8] at h<;>try (simp at h;done)
 ·rename_i i k f off
  obtain⟨hi,U⟩:=lW hr;have m:=H.obj i hi;split at h
  ·rename_i Tb a l
   split at h
   ·rename_i n
    simp only[an3,beq_iff_eq] at n;obtain⟨⟨⟨⟨z,L⟩,J⟩,I⟩,B⟩:=n;simp only[an5,ao1] at h;obtain⟨_,rfl⟩:=h;obtain⟨rfl,rfl⟩:=U.2.1 Tb a l;rw[l] at m;obtain⟨_,K,cc,e,V,R,Z⟩:=m;obtain⟨d,hd⟩:=Option.isSome_iff_exists.1 B;have N:=PD f a _ 0 z Z;have:=n9 H hd (b:=(C.ι i).block) N J I (fun j hj=>by
     have hle:=pU f a z;cases O:bV (og a f) with
     |false=>
      have hw1:wid (og a f)=1:=by cases r:og a f<;>simp_all[bV,wid]
      obtain rfl:j=0:=by omega
      obtain⟨v,h6,h7⟩:=gX O (zO f a z K) N;exact⟨v,h6,fun _=>h7⟩
     |true=>
      have:(C.w.cell? ⟨(C.ι i).block,0+jm a f+j,none⟩)=cc[0+jm a f+j]? :=by simp[World.cell?,V]
      rw[this,Array.getElem?_eq_getElem (by omega)];exact⟨_,rfl,fun e=>by cases e⟩)
    simp only[Nat.zero_add,L] at this;simpa[Instr.loadAt,Instr.sureAddr] using this
   ·simp at h
  ·rename_i t E ls l
   split at h
   ·split at h
    ·rename_i n
     simp only[an3,beq_iff_eq] at n;obtain⟨⟨⟨z,L⟩,rfl⟩,B⟩:=n;simp only[an5,ao1] at h;obtain⟨_,rfl⟩:=h;obtain⟨A,_,rfl⟩:=U.2.2.2.2.2 T E ls none l;rw[l] at m;obtain⟨_,hU,_,_,c,V,R,n⟩:=m;obtain⟨v,hv,s⟩:=n k A (by simp);obtain⟨d,hd⟩:=Option.isSome_iff_exists.1 B;have F:C.w.cell? ⟨(C.ι i).block,k,none⟩=some v:=by simp only[World.cell?,V];exact hv
     have q:bg v=true/\eF v=false:=by
      rcases s.2 with⟨rfl,_⟩|⟨b,cap,c,rfl,_⟩<;>exact⟨rfl,rfl⟩
     refine⟨v,?_, .inl q.2, .inl (by rw[gZ q.2];rfl),?_⟩
     ·simp only[Instr.loadAt,Instr.sureAddr,Sem.run_bind,Sem.run_pure,Result.andThen_ok,loadVar,hG hd,z,Bool.false_eq_true,if_false]
      exact lZ F
     ·rw[gZ q.2]
      simp only[M];refine⟨hi,v,rfl,q.1,fun T' xs r=>by rw[l] at r;simp[ib] at r,fun T' E' ls' pd r=>?_⟩;rw[l] at r;cases r;exact⟨A,s⟩
    ·simp at h
   ·simp at h
  ·rename_i hno hno2
   split at h
   ·rename_i t xs o
    split at h
    ·rename_i n
     simp only[an3,beq_iff_eq] at n;obtain⟨⟨⟨⟨z,L⟩,J⟩,I⟩,B⟩:=n;simp only[an5,ao1] at h;obtain⟨_,rfl⟩:=h;obtain⟨A,rfl⟩:=U.1 t xs o;have u:b8 C.P xs t/\MR C xs (C.P.cellsOf t) (cellAt C.w (C.ι i).block) 0:=by
      cases r:au C.st i<;>rw[r] at o m<;>simp[ib] at o
      ·obtain⟨rfl,rfl⟩:=o
       obtain⟨Q,⟨_,X⟩|⟨_,_,cc,_,_,_,_,W⟩⟩:=m
       ·subst X;simp at A
       ·exact⟨Q,W⟩
      ·obtain⟨rfl,rfl⟩:=o
       obtain⟨Q,⟨_,X⟩|⟨_,_,W⟩⟩:=m
       ·subst X;simp at A
       ·exact⟨Q,W⟩
     have N:=Cd xs k _ _ _ A u.2;have hT:=o5 xs k t A u.1;obtain⟨Y,D⟩:=mw H.lay cd t _ _ _ hT N;have:=ze H D Y z J I B
     simp only[Nat.zero_add,L] at this;simpa[Instr.loadAt,Instr.sureAddr] using this
    ·simp at h
   ·simp at h
 ·rename_i t a
  split at h
  ·rename_i n
   simp only[an3,beq_iff_eq] at n;obtain⟨⟨J,I⟩,B⟩:=n;simp only[an5,ao1] at h;obtain⟨_,rfl⟩:=h;obtain⟨b,off,rfl,hX,ht,Z⟩:=Bu hr;obtain⟨Y,D⟩:=mw H.lay cd t _ _ _ ht Z;have g: ∀y:AV,oi y []=true/\jm y []=0/\og y []=y:=fun y=>by cases y<;>simp[oi,jm,og]
   have:=ze H (p:=[]) D Y (g _).1 (by rw[(g _).2.2];exact J) (by rw[(g _).2.2];exact I) B
   rw[(g _).2.1,(g _).2.2,Nat.add_zero] at this;simpa[Instr.loadAt,Instr.sureAddr] using this
  ·simp at h
end Go.Dn
