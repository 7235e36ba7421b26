import Derived.Test.YtioeffnadipbaaaGreatDoorDoH
namespace Go.Dn
open Go
def w7(E:Env)(f k base:Nat)(Q:S->Prop)(K:Exit->S->Prop):Exit->S->Prop
 | .normal,s=>aG (jN E.P (E.live f k) base s) (CA (canon E.P (E.live f k) base s) Q)
 |e,s=>aG (jN E.P (E.live f (lM k e)) base s) (CA (canon E.P (E.live f (lM k e)) base s) fun s'=>K e s')
def lA(E:Env)(N f k:Nat):Nat->jS
 |0=>fun _ _ _ _=>False
 |n+1=>fun rd base s K=>vc E N f rd base (ah E.P f k) s (w7 E f k base (fun s'=>lA E N f k n rd base s' K) K)
theorem w8{E f k base Q b K a}(d: ∀s,Q s->b s)(c: ∀e s,K e s->a e s): ∀e s,w7 E f k base Q K e s->w7 E f k base b a e s:=by
 intro e s h;cases e<;>simp[w7,jO] at h⊢ <;>refine cj (fun h=>?_) h<;>grind
theorem mc{E}(b:aj E){N f k}: ∀n,(lA E N f k n).gA
 |0=>fun _ _ _ _ _ _ h=>h
 |n+1=>fun g a j l e c h=>qf b N _ _ _ _ _ _ _ (w8 (fun i d=>mc b n _ _ _ _ _ c d) c) h
theorem uj{E}(hM:aj E){N f k} n:aP E N f k (lA E N f k n):=by
 intro rd base s K h;refine⟨fun m s'=>lA E N f k m _ _ s' K,n,h,?_⟩;intro m s' hs;cases m with
 |zero=>exact hs.elim
 |succ m=>
  refine qf hM N _ _ _ _ _ _ _ ?_ hs;intro e s2 h2;cases e<;>simp[w7,bh,jO] at h2⊢ <;>refine cj (fun h=>?_) h2<;>grind
end Go.Dn
namespace Go.Dn
open Go
theorem Dz{P f args st K} l(h:bt P f args (sj l st) K):bt P f args st K:=by
 refine⟨h.1,fun C vs hP hI hst hm=>?_⟩;obtain⟨C1,a1,a2,a3,a4,a5⟩:=sk l hI;have hlen:C.st.length<=C1.st.length:=by
  rcases Nat.eq_zero_or_pos C.st.length with e|e
  ·omega
  ·have:=(a5.refs (C.st.length - 1) (by omega)).lt;omega
 have hm1:=by
  have:=kr a5.keeps hI.lay _ _ _ (fun i hi hil=>⟨i,rfl,a5.refs i hil⟩) hm
  rwa [fQ] at this
 have:=h.2 C1 _ (a2.trans hP) a3 (by grind) hm1
 rw[a1] at this;refine this.mono ?_;rintro e w' ⟨v,r,C',rfl,rfl,b1,b2,b3,b4,b5⟩;rw[←hst];rw[←hst,←a4] at b4;exact⟨v,r,_,rfl,rfl,b1.trans a2,b2,b3,a5.trans b4 hlen,b5⟩
def T9(i:Nat)(p:List Nat)(T:TypeId)(st:List Obj):List Obj:=
 match au st i with
 | .box b a=>
  match og a p with
  | .lit (.slice none 0 0)=>bif oi a p then dj st i (.box b (gD a p (.ad T []))) else st
  |_=>st
 |_=>st
def Mq:List (Nat×List Nat×TypeId)->List Obj->List Obj
 |[],st=>st
 |(i,p,T)::l,st=>Mq l (T9 i p T st)
theorem Qn{C}(hI:Inv C) i p T: ∃C',C'.w=C.w/\C'.P=C.P/\Inv C'/\C'.st=T9 i p T C.st/\Ext C.st.length C C':=by
 have same: ∃C',C'.w=C.w/\C'.P=C.P/\Inv C'/\C'.st=C.st/\Ext C.st.length C C':=⟨C,rfl,rfl,hI,rfl,Ext.refl C (Nat.le_refl _)⟩
 unfold T9;split
 ·rename_i Tb a hst
  split
  ·rename_i hf
   cases hp:oi a p with
   |false=>exact same
   | true=>
    rw[an9];have hi:i<C.st.length:=by
     rcases Nat.lt_or_ge i C.st.length with h|h
     ·exact h
     ·rw[eC _ _ h] at hst;cases hst
    have hob:=hI.obj i hi;rw[hst] at hob;obtain⟨g1,g2,c,e,g3,g4,g5⟩:=hob;have hw:wid (AV.ad T [])=wid (og a p):=by rw[hf];rfl
    have hr:bW C (C.dR i (.box Tb (gD a p (.ad T []))) C.w) i i:=kz hi hst Tb _ rfl rfl;have hk:bK C (C.dR i (.box Tb (gD a p (.ad T []))) C.w):=⟨rfl,fun _ h=>h,fun _ _=>rfl⟩
    have hlen:(C.dR i (.box Tb (gD a p (.ad T []))) C.w).st.length=C.st.length:=a9 _ _ _;have hrefs: ∀q,q<C.st.length->bW C (C.dR i (.box Tb (gD a p (.ad T []))) C.w) q q:=fun q hq=>by
     by_cases hqi:i=q
     ·subst hqi;exact hr
     ·exact dW hI hq (by omega) (bw _ _ _ _ hqi) rfl (fun _ _ _=>⟨rfl,rfl,rfl⟩)
    have hupd:=hJ hI (i:=i) hi (o:= .box Tb (gD a p (.ad T []))) (w:=C.w) (by rw[hst];rfl) rfl ⟨rfl,rfl,rfl⟩ (fun _ _=>rfl) hr (by
     refine⟨g1,ru p a _ hp g2 rfl,c,e,g3,by rw[mY p a _ hp hw];exact g4,?_⟩;have hx:=PD p a _ _ hp g5;rw[hf] at hx;have hm:=Ah hI (x:= .ad T []) p a _ _ _ hp hw g5 (by grind [M,b8]) (fun _ _ _=>rfl);have:=qG hk hI.lay some _ _ _ 0 0 (fun q hq hql=>⟨q,rfl,hrefs q hql⟩) (fun _ _=>rfl) hm
     rwa [jZ] at this)
    exact⟨C.dR i (.box Tb (gD a p (.ad T []))) C.w,rfl,rfl,hupd.1,rfl,hupd.2⟩
  ·exact same
 ·exact same
theorem CR: ∀l {C},Inv C->∃C',C'.w=C.w/\C'.P=C.P/\Inv C'/\C'.st=Mq l C.st/\Ext C.st.length C C'
 |[],C,hI=>⟨C,rfl,rfl,hI,rfl,Ext.refl C (Nat.le_refl _)⟩
 |(i,p,T)::l,C,hI=>by
  obtain⟨C1,a1,a2,a3,a4,a5⟩:=Qn hI i p T;obtain⟨C2,b1,b2,b3,b4,b5⟩:=CR l a3;refine⟨_,b1.trans a1,b2.trans a2,b3,by rw[b4,a4];rfl,a5.trans b5 ?_⟩;rcases Nat.eq_zero_or_pos C.st.length with h|h
  ·omega
  ·have:=(a5.refs (C.st.length - 1) (by omega)).lt;omega
theorem QI{P f args st K} l(h:bt P f args (Mq l st) K):bt P f args st K:=by
 refine⟨h.1,fun C vs hP hI hst hm=>?_⟩;obtain⟨C1,a1,a2,a3,a4,a5⟩:=CR l hI;have hlen:C.st.length<=C1.st.length:=by
  rcases Nat.eq_zero_or_pos C.st.length with e|e
  ·omega
  ·have:=(a5.refs (C.st.length - 1) (by omega)).lt;omega
 have hm1:=by
  have:=kr a5.keeps hI.lay _ _ _ (fun i hi hil=>⟨i,rfl,a5.refs i hil⟩) hm
  rwa [fQ] at this
 have:=h.2 _ _ (a2.trans hP) a3 (by grind) hm1
 rw[a1] at this;refine this.mono ?_;rintro e w' ⟨v,r,C',rfl,rfl,b1,b2,b3,b4,b5⟩;rw[←hst];rw[←hst,←a4] at b4;exact⟨v,r,_,rfl,rfl,b1.trans a2,b2,b3,a5.trans b4 hlen,b5⟩
structure EB where
 E:Env
 ok:aF E
 mono:aj E
def EB.loop(b:EB){N f k base α}{st:α->S}{a c}(h:aP b.E N f k (aI base st a c)):EB:=
 ⟨_,b.ok.aq b.mono h,b.mono.aq a0⟩
def EB.call(b:EB){N f α st}{a:α->Prop}{c}(h:bq b.E N f (aX st a c)):EB:=
 ⟨_,b.ok.aB b.mono h,b.mono.aB aZ⟩
def EB.pure(b:EB){N f g}(h:cg b.E N f g):EB:=⟨_,b.ok.aV b.mono h,b.mono.aV⟩
def EB.fresh(b:EB){N f g}(h:Gp b.E N f g):EB:=⟨_,b.ok.kO b.mono h,b.mono.kO⟩
def EB.range(b:EB){N g}(f k:Nat){sp}(c:sp.gA)(h:nc b.E N g sp)(a:FuncId->Bool):EB:=
 ⟨(b.E.addRange f k g _).dO a,(b.ok.addRange b.mono h).dO _,(b.mono.addRange c).dO _⟩
def EB.Uw(b:EB){N g}(f k:Nat){sp c}(d:sp.gA)(h:vL b.E N g c sp)(a:FuncId->Bool):EB:=
 ⟨(b.E.addRange f k g _).dO a,(b.ok.II b.mono h).dO _,(b.mono.addRange d).dO _⟩
def EB.calm(b:EB)(l:List Nat):EB:=⟨b.E.jx fun f=>ic f l||b.E.calm f,b.ok.jx _,⟨b.mono.call,b.mono.loop,b.mono.lB⟩⟩
def EB.narrow(b:EB){f:Nat}{α β st}{side:α->Prop}{out st'}{side':β->Prop}{out'}
  (h: ∀args s K,aX st side out args s K->b.E.call f args s K) (k: ∀args s K,aX st' side' out' args s K->aX st side out args s K):EB:=
 ⟨_,b.ok.eX fun _ _ _ hh=>b.ok.call _ _ _ _ (h _ _ _ (k _ _ _ hh)),b.mono.aB aZ⟩
def XD(f k:Nat):List (Nat×Nat×List (Nat×Option TypeId))->List (Nat×Option TypeId)
 |[]=>[]
 |(g,j,l)::r=>bif Nat.beq g f&&Nat.beq j k then l else XD f k r
def EB.opens(b:EB)(t:List (Nat×Nat×List (Nat×Option TypeId))):EB:=⟨{b.E with live:=fun f k=>b.E.live f k++XD f k t},⟨b.ok.prog,b.ok.fN,b.ok.call,b.ok.lB,b.ok.loop⟩,⟨b.mono.call,b.mono.loop,b.mono.lB⟩⟩
def EB.CV(b:EB)(l:List Nat):EB:=⟨{b.E with inl:=fun f=>!ic f l&&b.E.inl f},⟨b.ok.prog,b.ok.fN,b.ok.call,b.ok.lB,b.ok.loop⟩,⟨b.mono.call,b.mono.loop,b.mono.lB⟩⟩
def EB.opened(b:EB){N f α st}{a:α->Prop}{c}(m:List (Nat×List Nat×TypeId))(l:List (Nat×Nat×TypeId))(h:bq b.E N f (aX st a c)):EB:=
 ⟨b.E.aB f fun e s K=>aX _ _ _ _ _ K,b.ok.eX fun _ _ _ d=>QI m (Dz l (cZ b.ok b.mono (h _ _ _ d))),
  b.mono.aB fun _ _ _ _ g d=>aZ _ _ _ _ g d⟩
end Go.Dn
