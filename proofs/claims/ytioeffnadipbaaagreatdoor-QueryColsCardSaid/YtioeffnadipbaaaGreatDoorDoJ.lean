import Derived.Test.YtioeffnadipbaaaGreatDoorDoI
namespace Go.Dn
open Go
theorem I3{P:Pg}{f:FuncId}{args:List AV}{st:List Obj}{K:AV->List Obj->Prop}(l:List (Nat×Nat×TypeId))(h:bD P f args (o5 l st) K):bD P f args st K:=by
 refine⟨h.1,fun C vs hP hI hst hm=>?_⟩
 obtain⟨C1,a1,a2,a3,a4,a5⟩:=qT l hI
 have hlen:C.st.length<=C1.st.length:=by
  rcases Nat.eq_zero_or_pos C.st.length with e|e
  ·omega
  ·have:=(a5.refs (C.st.length - 1) (by omega)).lt;omega
 have hm1:MT C1 args vs.toList:=by
  have:=jL a5.keeps hI.lay some args vs.toList (fun i hi hil=>⟨i,rfl,a5.refs i hil⟩) hm
  rwa [fq] at this
 have:=h.2 C1 vs (a2.trans hP) a3 (by rw[a4,hst]) hm1
 rw[a1] at this
 refine this.mono ?_
 rintro e w' ⟨v,r,C',rfl,rfl,b1,b2,b3,b4,b5⟩
 rw[←hst]
 rw[←hst,←a4] at b4
 exact⟨v,r,C',rfl,rfl,b1.trans a2,b2,b3,a5.trans b4 hlen,b5⟩
def OZ(i:Nat)(p:List Nat)(T:TypeId)(st:List Obj):List Obj:=
 match an st i with
 | .box Tb a=>
  match lT a p with
  | .lit (.slice none 0 0)=>bif mL a p then c9 st i (.box Tb (fF a p (.ad T []))) else st
  |_=>st
 |_=>st
def DZ:List (Nat×List Nat×TypeId)->List Obj->List Obj
 |[],st=>st
 |(i,p,T)::l,st=>DZ l (OZ i p T st)
theorem LJ{C:Ctx}(hI:Inv C)(i:Nat)(p:List Nat)(T:TypeId): ∃C',C'.w=C.w/\C'.P=C.P/\Inv C'/\C'.st=OZ i p T C.st/\Ext C.st.length C C':=by
 have same: ∃C',C'.w=C.w/\C'.P=C.P/\Inv C'/\C'.st=C.st/\Ext C.st.length C C':=⟨C,rfl,rfl,hI,rfl,Ext.refl C (Nat.le_refl _)⟩
 unfold OZ
 split
 ·rename_i Tb a hst
  split
  ·rename_i hf
   cases hp:mL a p with
   |false=>exact same
   | true=>
    rw[aa7]
    have hi:i<C.st.length:=by
     rcases Nat.lt_or_ge i C.st.length with h|h
     ·exact h
     ·rw[eh _ _ h] at hst;cases hst
    have hob:=hI.obj i hi
    rw[hst] at hob
    obtain⟨g1,g2,c,e,g3,g4,g5⟩:=hob
    have hw:wid (AV.ad T [])=wid (lT a p):=by rw[hf];rfl
    have hr:bU C (C.dC i (.box Tb (fF a p (.ad T []))) C.w) i i:=jT hi hst Tb _ rfl rfl
    have hk:bH C (C.dC i (.box Tb (fF a p (.ad T []))) C.w):=⟨rfl,fun _ h=>h,fun _ _=>rfl⟩
    have hlen:(C.dC i (.box Tb (fF a p (.ad T []))) C.w).st.length=C.st.length:=aU _ _ _
    have hrefs: ∀q,q<C.st.length->bU C (C.dC i (.box Tb (fF a p (.ad T []))) C.w) q q:=fun q hq=>by
     by_cases hqi:i=q
     ·subst hqi;exact hr
     ·exact dM hI hq (by omega) (bt _ _ _ _ hqi) rfl (fun _ _ _=>⟨rfl,rfl,rfl⟩)
    have hupd:=gz hI (i:=i) hi (o:= .box Tb (fF a p (.ad T []))) (w:=C.w) (by rw[hst];rfl) rfl ⟨rfl,rfl,rfl⟩ (fun _ _=>rfl) hr (by
     refine⟨g1,pS p a _ hp g2 rfl,c,e,g3,by rw[lJ p a _ hp hw];exact g4,?_⟩
     have hx:=LN p a _ _ hp g5
     rw[hf] at hx
     have hm:=zV hI (x:= .ad T []) p a _ _ _ hp hw g5 (by simp only[M] at hx⊢;exact⟨by simp[bC],none,0,hx.1,by simp,fun h=>absurd rfl h⟩) (fun _ _ _=>rfl)
     have:=pN hk hI.lay some _ _ _ 0 0 (fun q hq hql=>⟨q,rfl,hrefs q hql⟩) (fun _ _=>rfl) hm
     rwa [jk] at this)
    exact⟨C.dC i (.box Tb (fF a p (.ad T []))) C.w,rfl,rfl,hupd.1,rfl,hupd.2⟩
  ·exact same
 ·exact same
theorem BA: ∀(l:List (Nat×List Nat×TypeId)) {C:Ctx},Inv C->∃C',C'.w=C.w/\C'.P=C.P/\Inv C'/\C'.st=DZ l C.st/\Ext C.st.length C C'
 |[],C,hI=>⟨C,rfl,rfl,hI,rfl,Ext.refl C (Nat.le_refl _)⟩
 |(i,p,T)::l,C,hI=>by
  obtain⟨C1,a1,a2,a3,a4,a5⟩:=LJ hI i p T
  obtain⟨C2,b1,b2,b3,b4,b5⟩:=BA l a3
  refine⟨C2,b1.trans a1,b2.trans a2,b3,by rw[b4,a4];rfl,a5.trans b5 ?_⟩
  rcases Nat.eq_zero_or_pos C.st.length with h|h
  ·omega
  ·have:=(a5.refs (C.st.length - 1) (by omega)).lt;omega
theorem LK{P:Pg}{f:FuncId}{args:List AV}{st:List Obj}{K:AV->List Obj->Prop}(l:List (Nat×List Nat×TypeId))(h:bD P f args (DZ l st) K):bD P f args st K:=by
 refine⟨h.1,fun C vs hP hI hst hm=>?_⟩
 obtain⟨C1,a1,a2,a3,a4,a5⟩:=BA l hI
 have hlen:C.st.length<=C1.st.length:=by
  rcases Nat.eq_zero_or_pos C.st.length with e|e
  ·omega
  ·have:=(a5.refs (C.st.length - 1) (by omega)).lt;omega
 have hm1:MT C1 args vs.toList:=by
  have:=jL a5.keeps hI.lay some args vs.toList (fun i hi hil=>⟨i,rfl,a5.refs i hil⟩) hm
  rwa [fq] at this
 have:=h.2 C1 vs (a2.trans hP) a3 (by rw[a4,hst]) hm1
 rw[a1] at this
 refine this.mono ?_
 rintro e w' ⟨v,r,C',rfl,rfl,b1,b2,b3,b4,b5⟩
 rw[←hst]
 rw[←hst,←a4] at b4
 exact⟨v,r,C',rfl,rfl,b1.trans a2,b2,b3,a5.trans b4 hlen,b5⟩
structure EB where
 E:Env
 ok:aE E
 mono:aj E
def EB.loop(b:EB){N f k base:Nat}{α:Type}{st:α->S}{side:α->Prop}{out:α->Out (Exit×S)}(h:bf b.E N f k (aR base st side out)):EB:=
 ⟨b.E.ar f k (aR base st side out),b.ok.ar b.mono h,b.mono.ar aW⟩
def EB.call(b:EB){N f:Nat}{α:Type}{st:α->List AV×List Obj}{side:α->Prop}{out:α->Out (AV×List Obj)}(h:bG b.E N f (a0 st side out)):EB:=
 ⟨b.E.az f (a0 st side out),b.ok.az b.mono h,b.mono.az aZ⟩
def EB.pure(b:EB){N f:Nat}{g:List AV->Option (Bool×AV)}(h:cj b.E N f g):EB:=⟨b.E.aK f g,b.ok.aK b.mono h,b.mono.aK⟩
def EB.fresh(b:EB){N f:Nat}{g:List AV->Option (Bool×AV)}(h:El b.E N f g):EB:=⟨b.E.jn f g,b.ok.jn b.mono h,b.mono.jn⟩
def EB.range(b:EB){N g:Nat}(f k:Nat){sp:dJ}(hm:sp.ib)(h:ou b.E N g sp)(gen:FuncId->Bool):EB:=
 ⟨(b.E.addRange f k g sp).dG gen,(b.ok.addRange b.mono h).dG _,(b.mono.addRange hm).dG _⟩
def EB.Pp(b:EB){N g:Nat}(f k:Nat){sp:dJ}{fl:List (Nat×Nat×TypeId)}(hm:sp.ib)(h:u7 b.E N g fl sp)(gen:FuncId->Bool):EB:=
 ⟨(b.E.addRange f k g sp).dG gen,(b.ok.G5 b.mono h).dG _,(b.mono.addRange hm).dG _⟩
def EB.calm(b:EB)(l:List Nat):EB:=⟨b.E.iB fun f=>gL f l||b.E.calm f,b.ok.iB _,⟨b.mono.call,b.mono.loop,b.mono.kW⟩⟩
def EB.narrow(b:EB){f:Nat}{α β:Type}{st:α->List AV×List Obj}{side:α->Prop}{out:α->Out (AV×List Obj)}{st':β->List AV×List Obj}{side':β->Prop}{out':β->Out (AV×List Obj)}
  (h: ∀args s K,a0 st side out args s K->b.E.call f args s K) (k: ∀args s K,a0 st' side' out' args s K->a0 st side out args s K):EB:=
 ⟨b.E.az f (a0 st' side' out'),b.ok.fT fun _ _ _ hh=>b.ok.call _ _ _ _ (h _ _ _ (k _ _ _ hh)),b.mono.az aZ⟩
def Ss(f k:Nat):List (Nat×Nat×List (Nat×Option TypeId))->List (Nat×Option TypeId)
 |[]=>[]
 |(g,j,l)::r=>bif Nat.beq g f&&Nat.beq j k then l else Ss f k r
def EB.opens(b:EB)(t:List (Nat×Nat×List (Nat×Option TypeId))):EB:=⟨{b.E with live:=fun f k=>b.E.live f k++Ss f k t},⟨b.ok.prog,b.ok.fu,b.ok.call,b.ok.kW,b.ok.loop⟩,⟨b.mono.call,b.mono.loop,b.mono.kW⟩⟩
def EB.Fm(b:EB)(l:List Nat):EB:=⟨{b.E with inl:=fun f=>!gL f l&&b.E.inl f},⟨b.ok.prog,b.ok.fu,b.ok.call,b.ok.kW,b.ok.loop⟩,⟨b.mono.call,b.mono.loop,b.mono.kW⟩⟩
def EB.opened(b:EB){N f:Nat}{α:Type}{st:α->List AV×List Obj}{side:α->Prop}{out:α->Out (AV×List Obj)}(m:List (Nat×List Nat×TypeId))(l:List (Nat×Nat×TypeId))(h:bG b.E N f (a0 st side out)):EB:=
 ⟨b.E.az f (fun args s K=>a0 st side out args (o5 l (DZ m s)) K),b.ok.fT fun _ _ _ hh=>LK m (I3 l (cZ b.ok b.mono (h _ _ _ hh))),
  b.mono.az fun _ _ _ _ hK hh=>aZ _ _ _ _ hK hh⟩
end Go.Dn
