import Derived.Test.YtioeffnadipbaaaGreatDoorDnE
import Derived.WalkKit
namespace Go.Dn
open Go
mutual
theorem E1{C:Ctx}: ∀(a:AV) (T:TypeId) (s:Src) (o:Nat),bB C.P a T->M C a s o->∀j,j<wid a->∃v,s (o+j)=some v/\bh v=true
 | .lit v,_,s,o,_,h,j,hj=>by
  simp only[wid] at hj;obtain rfl:j=0:=by omega
  simp only[M] at h;exact⟨v,h⟩
 | .ah E l,_,s,o,_,h,j,hj=>by
  simp only[wid] at hj;obtain rfl:j=0:=by omega
  simp only[M] at h;obtain⟨_,p,cap,h2,_⟩:=h
  exact⟨_,h2,rfl⟩
 | .agg l,T,s,o,ht,h,j,hj=>by
  simp only[bB] at ht;obtain⟨fs,_,h2⟩:=ht
  simp only[M] at h;simp only[wid] at hj
  exact IV l fs.toList s o h2 h j hj
 | .jh E a,_,s,o,_,h,j,hj=>by
  simp only[wid] at hj;obtain rfl:j=0:=by omega
  simp only[M] at h;obtain⟨b,off,h2,_⟩:=h
  exact⟨_,h2,rfl⟩
 | .jx U a,_,s,o,_,h,j,hj=>by
  simp only[wid] at hj;obtain rfl:j=0:=by omega
  simp only[M] at h;obtain⟨u,h2,_⟩:=h
  exact⟨_,h2,rfl⟩
 | .eQ K V ks vs,_,s,o,_,h,j,hj=>by
  simp only[wid] at hj;obtain rfl:j=0:=by omega
  simp only[M] at h;rcases h with⟨_,h,_⟩|⟨b,_,_,h,_⟩
  ·exact⟨_,h,rfl⟩
  ·exact⟨_,h,rfl⟩
 | .cC,_,_,_,h,_,_,_=>by simp[bB] at h
 | .aJ _,_,_,_,h,_,_,_=>by simp[bB] at h
 | .an _ _ _,_,_,_,h,_,_,_=>by simp[bB] at h
 | .ptr _ _ _ _,_,_,_,h,_,_,_=>by simp[bB] at h
 | .mp _,_,_,_,h,_,_,_=>by simp[bB] at h
 | .cf _,_,_,_,h,_,_,_=>by simp[bB] at h
 | .lv _ _,_,_,_,h,_,_,_=>by simp[bB] at h
 | .bn _ _,_,_,_,h,_,_,_=>by simp[bB] at h
theorem IV{C:Ctx}: ∀(l:List AV) (fs:List Field) (s:Src) (o:Nat),dY C.P l fs->ML C l s o->∀j,j<eC l->∃v,s (o+j)=some v/\bh v=true
 |[],_,_,_,_,_,j,hj=>by simp[eC] at hj
 |_::_,[],_,_,h,_,_,_=>by simp[dY] at h
 | a::l,f::fs,s,o,ht,h,j,hj=>by
  simp only[dY] at ht;simp only[ML] at h;simp only[eC] at hj;rcases Nat.lt_or_ge j (wid a) with hlt|hge
  ·exact E1 a f.type s o ht.1 h.1 j hlt
  ·obtain⟨v,h1,h2⟩:=IV l fs s (o+wid a) ht.2 h.2 (j - wid a) (by omega)
   exact⟨v,by rw[←h1];congr 1;omega,h2⟩
end
theorem kg{C a s s' o o'}(hI:Inv C)(hs: ∀j,j<wid a->s' (o'+j)=s (o+j))(h:M C a s o):M C a s' o':=
 M.fV (bP.refl C) hI.lay (fun _ _ hlt=>b7.refl C hlt) hs h
theorem gY{v}(h:eH v=false):v.cells= #[v]:=by cases v<;>simp_all[Value.cells,eH]
theorem D5{C}(c:Inv C){a s o v}(d:bX a=false)(h:M C a s o)(e:s o=some v)(b:eH v=false):Rel C a v:=by
 have g:wid a=1:=by cases a<;>simp_all[bX,wid]
 have i:=gY b;refine⟨by grind,by grind,kg c (fun j f=>?_) h⟩
 grind
theorem pH{C}(c:Inv C){l s o a}(h:M C (.agg l) s o)(b:a.size=wid (.agg l))(e: ∀j,j<a.size->s (o+j)=a[j]?):Rel C (.agg l) (.agg a):=
 ⟨.inl rfl, .inl (by grind [Value.cells]),kg c fun j d=>by grind [Value.cells] h⟩
section
variable {P:Program} {w:World}
theorem ee b o i:(⟨b,o,none⟩:Addr).add i=⟨b,o+i,none⟩:=by
 grind [Addr.add]
theorem lH{b o v}(h:w.cell? ⟨b,o,none⟩=some v):(load ⟨b,o,none⟩).run P w= .ok v w:=by
 simp[h]
theorem run_loadCellsFrom b o: ∀n i a,(∀j,j<n->(w.cell? ⟨b,o+i+j,none⟩).isSome=true)->
  ∃c,c.size=n/\(∀j,j<n->w.cell? ⟨b,o+i+j,none⟩=c[j]?)/\(loadCellsFrom ⟨b,o,none⟩ i n a).run P w= .ok (a++c) w
 |0,i,a,_=>⟨#[],rfl,by simp,by simp[loadCellsFrom]⟩
 | n+1,i,a,h=>by
  have d:=h 0 (by omega);obtain⟨v,g⟩:=Option.isSome_iff_exists.1 d;obtain⟨c,e,k,l⟩:=run_loadCellsFrom b o n (i+1) (a.push v) (by grind);refine⟨#[v]++c,by simp[e];omega,fun j f=>?_,?_⟩
  ·grind
  ·simp only[loadCellsFrom,Sem.run_bind,ee]
   simp_all
theorem run_loadCells b o n(h: ∀j,j<n->(w.cell? ⟨b,o+j,none⟩).isSome=true):
  ∃a,a.size=n/\(∀j,j<n->w.cell? ⟨b,o+j,none⟩=a[j]?)/\(loadCells ⟨b,o,none⟩ n).run P w= .ok a w:=by
 obtain⟨a,d,e,c⟩:=run_loadCellsFrom (P:=P)  b o n 0 #[] (by omega)
 grind [loadCells]
end
theorem uF{P:Program}{T d}(h:P.underlying T=some d): ∃i,P.info? T=some i:=by
 grind [Program.underlying]
theorem run_sizeOf{P w T d}(h:P.underlying T=some d):(sizeOf T).run P w= .ok (P.cellsOf T) w:=by
 obtain⟨i,a⟩:=uF h;simp[sizeOf,typeInfo,a,Program.cellsOf]
theorem gV{P w T d}(h:P.underlying T=some d):(isAgg T).run P w= .ok (dH P T) w:=by
 simp[isAgg,run_underlying h];simp[dH,h];cases d<;>rfl
theorem nH{C}(i:Inv C){T d}(g:C.P.underlying T=some d){b o a}
  (m:M C a (cellAt C.w b) o) (e:dH C.P T=bX a) (r:wid a=C.P.cellsOf T) (h: ∀j,j<wid a->∃v,C.w.cell? ⟨b,o+j,none⟩=some v/\(bX a=false->bh v=true)):
  ∃v,(loadVar T ⟨b,o,none⟩).run C.P C.w= .ok v C.w/\Rel C a v:=by
 cases f:bX a with
 |false=>
  have q:wid a=1:=by cases a<;>simp_all[bX,wid]
  obtain⟨v,k,c⟩:=h 0 (by omega);refine⟨v,?_,D5 i f m k (wQ (c f))⟩;simp only[loadVar,Sem.run_bind,gV g,Result.andThen_ok,e,f,Bool.false_eq_true,if_false];exact lH k
 |true=>
  obtain⟨s,n,p,t⟩:=run_loadCells (P:=C.P) (w:=C.w) b o (wid a) (by grind);cases a<;>simp[bX] at f
  rename_i l;refine⟨.agg s,?_,pH i m n (fun j u=>p j (by omega))⟩;simp only[loadVar,Sem.run_bind,gV g,Result.andThen_ok,e,bX,if_true,run_sizeOf g,←r,t,Sem.run_pure]
theorem Ck{C}: ∀l j s o,j<l.length->ML C l s o->M C (nth l j) s (o+ma l j)
 |[],_,_,_,h,_=>by grind
 |a::l,0,s,o,_,h=>by grind [ML,nth,ma]
 |a::l,j+1,s,o,b,h=>by
  have:=Ck l j s _ (by grind) h.2
  grind [nth,ma]
theorem r4: ∀l j,j<l.length->ma l j+wid (nth l j)<=eC l
 |[],_,h=>by grind
 |a::l,0,_=>by simp[nth,ma,eC]
 |a::l,j+1,h=>by
  have:=r4 l j (by grind)
  grind [nth,ma,eC]
theorem VN{C}: ∀p a s o,nO a p=true->M C a s o->M C (oF a p) s (o+js a p)
 |[],a,s,o,_,h=>by grind [oF,js]
 |j::p, .agg l,s,o,b,h=>by
  simp only[nO,ao0,an9] at b;have:=VN p _ s _ b.2 (Ck l j s o b.1 h)
  grind [oF,af,js]
 |_::_, .cC,_,_,b,_|_::_, .lit _,_,_,b,_|_::_, .ah _ _,_,_,b,_|_::_, .aJ _,_,_,b,_|_::_, .an _ _ _,_,_,b,_
 |_::_, .ptr _ _ _ _,_,_,b,_|_::_, .jh _ _,_,_,b,_|_::_, .mp _,_,_,b,_|_::_, .cf _,_,_,b,_|_::_, .lv _ _,_,_,b,_
 |_::_, .bn _ _,_,_,b,_|_::_, .jx _ _,_,_,b,_|_::_, .eQ _ _ _ _,_,_,b,_=>by simp[nO] at b
theorem pn: ∀p a,nO a p=true->js a p+wid (oF a p)<=wid a
 |[],a,_=>by grind [oF,js]
 |j::p, .agg l,b=>by
  simp[nO,ao0] at b;have c:=pn p _ b.2;have d:=r4 l j b.1
  grind [oF,af,js,wid]
 |_::_, .cC,b|_::_, .lit _,b|_::_, .ah _ _,b|_::_, .aJ _,b|_::_, .an _ _ _,b
 |_::_, .ptr _ _ _ _,b|_::_, .jh _ _,b|_::_, .mp _,b|_::_, .cf _,b|_::_, .lv _ _,b
 |_::_, .bn _ _,b|_::_, .jx _ _,b|_::_, .eQ _ _ _ _,b=>by grind [nO]
theorem zH{P}: ∀l b j f,dY P l b->qp b j=some f->j<l.length/\bB P (nth l j) f.type
 |[],[],_,_,_,h=>by grind [qp]
 |[],_::_,_,_,h,_=>by grind [dY]
 |_::_,[],_,_,h,_=>by grind [dY]
 |a::l,g::b,0,f,c,h=>by
  grind [qp,dY,nth]
 |a::l,g::b,j+1,f,c,h=>by
  obtain⟨e,d⟩:=zH l _ j f c.2 h
  grind [nth]
theorem yV{C} g(j: ∀T a s o,bB C.P a T->M C a s o->M C (g T a) s o/\bB C.P (g T a) T)(i:eX C.P):
  ∀c l b s o,dY C.P l c->ML C l s o->
   ML C (Ke g c b.length (.agg (b++l))) s o/\dY C.P (Ke g c b.length (.agg (b++l))) c
 |[],[],_,_,_,_,_=>by simp[Ke,ML,dY]
 |[],_::_,_,_,_,h,_=>by simp[dY] at h
 |_::_,[],_,_,_,h,_=>by simp[dY] at h
 | f::c,a::l,b,s,o,d,h=>by
  simp only[ML] at h;have k: ∀(b l:List AV) (a:AV),nth (b++a::l) b.length=a:=by
   intro b;induction b<;>simp_all[List.cons_append,List.length_cons,nth]
  have n:=yV g j i c l (b++[a]) s (o+wid a) d.2 h.2;have e:(b++[a]).length=b.length+1:=by simp
  rw[e] at n;simp only[Ke,af,k,ML,dY];obtain⟨q,m⟩:=j f.type a s o d.1 h.1;have p:wid (g f.type a)=wid a:=by rw[dp i _ _ m,dp i _ _ d.1]
  grind
theorem mF{C}(m:eX C.P): ∀d T a s o,bB C.P a T->M C a s o->M C (expand C.P d T a) s o/\bB C.P (expand C.P d T a) T
 |0,T,a,s,o,c,h=>by simpa[expand] using⟨h,c⟩
 | d +1,T,a,s,o,c,h=>by
  simp only[expand];split
  ·rename_i k e
   cases a<;>simp only[bB,e] at c<;>try (first|exact c.elim|(obtain⟨b,_⟩:=c;simp at b;done)|(obtain⟨f,b,_⟩:=c;simp at b;done)|(obtain⟨⟨g,b⟩,_⟩:=c;simp at b;done))
   obtain⟨n,rfl⟩:=c;exact⟨h,by simp[toInt,bB,e]⟩
  ·rename_i e
   cases a<;>simp only[bB,e] at c<;>try (first|exact c.elim|(obtain⟨b,_⟩:=c;simp at b;done)|(obtain⟨f,b,_⟩:=c;simp at b;done)|(obtain⟨⟨g,b⟩,_⟩:=c;simp at b;done))
   obtain⟨n,rfl⟩:=c;exact⟨h,by simp[toBool,bB,e]⟩
  ·rename_i e
   cases a<;>simp only[bB,e] at c<;>try (first|exact c.elim|(obtain⟨b,_⟩:=c;simp at b;done)|(obtain⟨f,b,_⟩:=c;simp at b;done)|(obtain⟨⟨g,b⟩,_⟩:=c;simp at b;done))
   obtain⟨n,rfl⟩:=c;exact⟨h,by simp[toStr,bB,e]⟩
  ·rename_i E e
   cases a<;>simp only[bB,e] at c<;>try (first|exact c.elim|(obtain⟨f,b,_⟩:=c;simp at b;done)|(obtain⟨⟨g,b⟩,_⟩:=c;simp at b;done))
   ·subst c
    simp only[M] at h;refine⟨?_,by simp[ag,bB,ck,e]⟩;simp only[ag,M,ck,List.length_nil];exact⟨trivial,none,0,h.1,Nat.le_refl _,fun j=>absurd rfl j⟩
   ·obtain⟨b,i⟩:=c
    simp only[ao2,TypeDesc.slice.injEq] at b;subst b;exact⟨by simpa[ag] using h,by simpa[ag,bB,e] using i⟩
   ·obtain⟨b,_⟩:=c;simp at b
   ·obtain⟨b,_⟩:=c;simp at b
  ·rename_i K V e
   cases a<;>simp only[bB,e] at c<;>try (first|exact c.elim|(obtain⟨f,b,_⟩:=c;simp at b;done)|(obtain⟨⟨g,b⟩,_⟩:=c;simp at b;done)|(obtain⟨b,_⟩:=c;simp at b;done))
   ·subst c
    cases p:Ph C.P.toProgram V with
    |false=>exact⟨h,by simp[bB,e]⟩
    |true=>
     simp only[M] at h;refine⟨?_,by simp[yf,bB,ck,e]⟩;simp only[ao6,Cb,yf,M];exact .inl ⟨p,h.1,trivial,trivial⟩
   ·obtain⟨b,i⟩:=c
    simp only[ao2,TypeDesc.map.injEq] at b;obtain⟨rfl,rfl⟩:=b;exact⟨by simpa[Cb,yf] using h,by simpa[yf,bB,e] using i⟩
  ·rename_i f e
   cases a<;>simp only[bB,e] at c<;>try (first|exact c.elim|(obtain⟨b,_⟩:=c;simp at b;done)|(obtain⟨⟨g,b⟩,_⟩:=c;simp at b;done))
   rename_i l;obtain⟨q,⟨b,r⟩,i⟩:=c;simp only[ao2,TypeDesc.struct.injEq] at b;subst b;simp only[M] at h;have:=yV (expand C.P d) (fun T a s o=>mF m d T a s o) m f.toList l [] s o i h
   simp only[List.length_nil,List.nil_append] at this;refine⟨by simpa[M] using this.1,?_⟩;simp only[bB];exact⟨f,⟨e,r⟩,this.2⟩
  ·exact⟨h,c⟩
end Go.Dn
