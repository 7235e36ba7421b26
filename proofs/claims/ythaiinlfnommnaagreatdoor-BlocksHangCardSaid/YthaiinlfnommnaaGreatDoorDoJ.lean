import Derived.Test.YthaiinlfnommnaaGreatDoorDoI
namespace Go.Dn
open Go
theorem MJ{P:Pg}{f:FuncId}{args:List AV}{st:List Obj}{K:AV->List Obj->Prop}(l:List (Nat×Nat×TypeId))(h:cM P f args (pC l st) K):cM P f args st K:=by
 refine⟨h.1,fun C vs hP hI hst hm=>?_⟩
 obtain⟨C1,a1,a2,a3,a4,a5⟩:=rf l hI
 have hlen:C.st.length<=C1.st.length:=by
  rcases Nat.eq_zero_or_pos C.st.length with e|e
  ·omega
  ·have:=(a5.refs (C.st.length - 1) (by omega)).lt;omega
 have hm1:MT C1 args vs.toList:=by
  have:=ki a5.keeps hI.lay some args vs.toList (fun i hi hil=>⟨i,rfl,a5.refs i hil⟩) hm
  rwa [fD] at this
 have:=h.2 C1 vs (a2.trans hP) a3 (by rw[a4,hst]) hm1
 rw[a1] at this
 refine this.mono ?_
 rintro e w' ⟨v,r,C',rfl,rfl,b1,b2,b3,b4,b5⟩
 rw[←hst]
 rw[←hst,←a4] at b4
 exact⟨v,r,C',rfl,rfl,b1.trans a2,b2,b3,a5.trans b4 hlen,b5⟩
def QO(i:Nat)(p:List Nat)(T:TypeId)(st:List Obj):List Obj:=
 match aw st i with
 | .box Tb a=>
  match mC a p with
  | .lit (.slice none 0 0)=>bif nk a p then db st i (.box Tb (fS a p (.ad T []))) else st
  |_=>st
 |_=>st
def FA:List (Nat×List Nat×TypeId)->List Obj->List Obj
 |[],st=>st
 |(i,p,T)::l,st=>FA l (QO i p T st)
theorem OM{C:Ctx}(hI:Inv C)(i:Nat)(p:List Nat)(T:TypeId): ∃C',C'.w=C.w/\C'.P=C.P/\Inv C'/\C'.st=QO i p T C.st/\Ext C.st.length C C':=by
 have same: ∃C',C'.w=C.w/\C'.P=C.P/\Inv C'/\C'.st=C.st/\Ext C.st.length C C':=⟨C,rfl,rfl,hI,rfl,Ext.refl C (Nat.le_refl _)⟩
 unfold QO
 split
 ·rename_i Tb a hst
  split
  ·rename_i hf
   cases hp:nk a p with
   |false=>exact same
   | true=>
    rw[aa8]
    have hi:i<C.st.length:=by
     rcases Nat.lt_or_ge i C.st.length with h|h
     ·exact h
     ·rw[eo _ _ h] at hst;cases hst
    have hob:=hI.obj i hi
    rw[hst] at hob
    obtain⟨g1,g2,c,e,g3,g4,g5⟩:=hob
    have hw:wid (AV.ad T [])=wid (mC a p):=by rw[hf];rfl
    have hr:cd C (C.dA i (.box Tb (fS a p (.ad T []))) C.w) i i:=kg hi hst Tb _ rfl rfl
    have hk:bQ C (C.dA i (.box Tb (fS a p (.ad T []))) C.w):=⟨rfl,fun _ h=>h,fun _ _=>rfl⟩
    have hlen:(C.dA i (.box Tb (fS a p (.ad T []))) C.w).st.length=C.st.length:=aU _ _ _
    have hrefs: ∀q,q<C.st.length->cd C (C.dA i (.box Tb (fS a p (.ad T []))) C.w) q q:=fun q hq=>by
     by_cases hqi:i=q
     ·subst hqi;exact hr
     ·exact ee hI hq (by omega) (bz _ _ _ _ hqi) rfl (fun _ _ _=>⟨rfl,rfl,rfl⟩)
    have hupd:=gp hI (i:=i) hi (o:= .box Tb (fS a p (.ad T []))) (w:=C.w) (by rw[hst];rfl) rfl ⟨rfl,rfl,rfl⟩ (fun _ _=>rfl) hr (by
     refine⟨g1,qm p a _ hp g2 rfl,c,e,g3,by rw[lX p a _ hp hw];exact g4,?_⟩
     have hx:=O4 p a _ _ hp g5
     rw[hf] at hx
     have hm:=AS hI (x:= .ad T []) p a _ _ _ hp hw g5 (by simp only[M] at hx⊢;exact⟨by simp[bI],none,0,hx.1,by simp,fun h=>absurd rfl h⟩) (fun _ _ _=>rfl)
     have:=qb hk hI.lay some _ _ _ 0 0 (fun q hq hql=>⟨q,rfl,hrefs q hql⟩) (fun _ _=>rfl) hm
     rwa [kH] at this)
    exact⟨C.dA i (.box Tb (fS a p (.ad T []))) C.w,rfl,rfl,hupd.1,rfl,hupd.2⟩
  ·exact same
 ·exact same
theorem Bs: ∀(l:List (Nat×List Nat×TypeId)) {C:Ctx},Inv C->∃C',C'.w=C.w/\C'.P=C.P/\Inv C'/\C'.st=FA l C.st/\Ext C.st.length C C'
 |[],C,hI=>⟨C,rfl,rfl,hI,rfl,Ext.refl C (Nat.le_refl _)⟩
 |(i,p,T)::l,C,hI=>by
  obtain⟨C1,a1,a2,a3,a4,a5⟩:=OM hI i p T
  obtain⟨C2,b1,b2,b3,b4,b5⟩:=Bs l a3
  refine⟨C2,b1.trans a1,b2.trans a2,b3,by rw[b4,a4];rfl,a5.trans b5 ?_⟩
  rcases Nat.eq_zero_or_pos C.st.length with h|h
  ·omega
  ·have:=(a5.refs (C.st.length - 1) (by omega)).lt;omega
theorem N7{P:Pg}{f:FuncId}{args:List AV}{st:List Obj}{K:AV->List Obj->Prop}(l:List (Nat×List Nat×TypeId))(h:cM P f args (FA l st) K):cM P f args st K:=by
 refine⟨h.1,fun C vs hP hI hst hm=>?_⟩
 obtain⟨C1,a1,a2,a3,a4,a5⟩:=Bs l hI
 have hlen:C.st.length<=C1.st.length:=by
  rcases Nat.eq_zero_or_pos C.st.length with e|e
  ·omega
  ·have:=(a5.refs (C.st.length - 1) (by omega)).lt;omega
 have hm1:MT C1 args vs.toList:=by
  have:=ki a5.keeps hI.lay some args vs.toList (fun i hi hil=>⟨i,rfl,a5.refs i hil⟩) hm
  rwa [fD] at this
 have:=h.2 C1 vs (a2.trans hP) a3 (by rw[a4,hst]) hm1
 rw[a1] at this
 refine this.mono ?_
 rintro e w' ⟨v,r,C',rfl,rfl,b1,b2,b3,b4,b5⟩
 rw[←hst]
 rw[←hst,←a4] at b4
 exact⟨v,r,C',rfl,rfl,b1.trans a2,b2,b3,a5.trans b4 hlen,b5⟩
structure EB where
 E:Env
 ok:aB E
 mono:aj E
def EB.loop(b:EB){N f k base:Nat}{α:Type}{st:α->S}{side:α->Prop}{out:α->Out (Exit×S)}(h:bj b.E N f k (aO base st side out)):EB:=
 ⟨b.E.ak f k (aO base st side out),b.ok.ak b.mono h,b.mono.ak aG⟩
def EB.call(b:EB){N f:Nat}{α:Type}{st:α->List AV×List Obj}{side:α->Prop}{out:α->Out (AV×List Obj)}(h:bt b.E N f (aL st side out)):EB:=
 ⟨b.E.ax f (aL st side out),b.ok.ax b.mono h,b.mono.ax aJ⟩
def EB.pure(b:EB){N f:Nat}{g:List AV->Option (Bool×AV)}(h:cU b.E N f g):EB:=⟨b.E.aH f g,b.ok.aH b.mono h,b.mono.aH⟩
def EB.fresh(b:EB){N f:Nat}{g:List AV->Option (Bool×AV)}(h:re b.E N f g):EB:=⟨b.E.fe f g,b.ok.fe b.mono h,b.mono.fe⟩
def EB.range(b:EB){N g:Nat}(f k:Nat){sp:dC}(hm:sp.ji)(h:lq b.E N g sp)(gen:FuncId->Bool):EB:=
 ⟨(b.E.addRange f k g sp).dv gen,(b.ok.addRange b.mono h).dv _,(b.mono.addRange hm).dv _⟩
def EB.RR(b:EB){N g:Nat}(f k:Nat){sp:dC}{fl:List (Nat×Nat×TypeId)}(hm:sp.ji)(h:wN b.E N g fl sp)(gen:FuncId->Bool):EB:=
 ⟨(b.E.addRange f k g sp).dv gen,(b.ok.HL b.mono h).dv _,(b.mono.addRange hm).dv _⟩
def EB.calm(b:EB)(l:List Nat):EB:=⟨b.E.iX fun f=>jm f l||b.E.calm f,b.ok.iX _,⟨b.mono.call,b.mono.loop,b.mono.ke⟩⟩
def EB.narrow(b:EB){f:Nat}{α β:Type}{st:α->List AV×List Obj}{side:α->Prop}{out:α->Out (AV×List Obj)}{st':β->List AV×List Obj}{side':β->Prop}{out':β->Out (AV×List Obj)}
  (h: ∀args s K,aL st side out args s K->b.E.call f args s K) (k: ∀args s K,aL st' side' out' args s K->aL st side out args s K):EB:=
 ⟨b.E.ax f (aL st' side' out'),b.ok.gZ fun _ _ _ hh=>b.ok.call _ _ _ _ (h _ _ _ (k _ _ _ hh)),b.mono.ax aJ⟩
def S0(f k:Nat):List (Nat×Nat×List (Nat×Option TypeId))->List (Nat×Option TypeId)
 |[]=>[]
 |(g,j,l)::r=>bif Nat.beq g f&&Nat.beq j k then l else S0 f k r
def EB.opens(b:EB)(t:List (Nat×Nat×List (Nat×Option TypeId))):EB:=⟨{b.E with live:=fun f k=>b.E.live f k++S0 f k t},⟨b.ok.prog,b.ok.gR,b.ok.call,b.ok.ke,b.ok.loop⟩,⟨b.mono.call,b.mono.loop,b.mono.ke⟩⟩
def EB.Tu(b:EB)(l:List Nat):EB:=⟨{b.E with inl:=fun f=>!jm f l&&b.E.inl f},⟨b.ok.prog,b.ok.gR,b.ok.call,b.ok.ke,b.ok.loop⟩,⟨b.mono.call,b.mono.loop,b.mono.ke⟩⟩
def EB.opened(b:EB){N f:Nat}{α:Type}{st:α->List AV×List Obj}{side:α->Prop}{out:α->Out (AV×List Obj)}(m:List (Nat×List Nat×TypeId))(l:List (Nat×Nat×TypeId))(h:bt b.E N f (aL st side out)):EB:=
 ⟨b.E.ax f (fun args s K=>aL st side out args (pC l (FA m s)) K),b.ok.gZ fun _ _ _ hh=>N7 m (MJ l (iK b.ok b.mono (h _ _ _ hh))),
  b.mono.ax fun _ _ _ _ hK hh=>aJ _ _ _ _ hK hh⟩
end Go.Dn
