import Derived.Test.YthaiinlfnommnaaGreatDoorDoI
namespace Go.Dn
open Go
theorem IZ{P:Pg}{f:FuncId}{args:List AV}{st:List Obj}{K:AV->List Obj->Prop}(l:List (Nat×Nat×TypeId))(h:dp P f args (oR l st) K):dp P f args st K:=by
 refine⟨h.1,fun C vs hP hI hst hm=>?_⟩
 obtain⟨C1,a1,a2,a3,a4,a5⟩:=qw l hI
 have hlen:C.st.length<=C1.st.length:=by
  rcases Nat.eq_zero_or_pos C.st.length with e|e
  ·omega
  ·have:=(a5.refs (C.st.length - 1) (by omega)).lt;omega
 have hm1:MT C1 args vs.toList:=by
  have:=jX a5.keeps hI.lay some args vs.toList (fun i hi hil=>⟨i,rfl,a5.refs i hil⟩) hm
  rwa [fg] at this
 have:=h.2 C1 vs (a2.trans hP) a3 (by rw[a4,hst]) hm1
 rw[a1] at this
 refine this.mono ?_
 rintro e w' ⟨v,r,C',rfl,rfl,b1,b2,b3,b4,b5⟩
 rw[←hst]
 rw[←hst,←a4] at b4
 exact⟨v,r,C',rfl,rfl,b1.trans a2,b2,b3,a5.trans b4 hlen,b5⟩
def OY(i:Nat)(p:List Nat)(T:TypeId)(st:List Obj):List Obj:=
 match ax st i with
 | .box Tb a=>
  match me a p with
  | .lit (.slice none 0 0)=>bif mN a p then db st i (.box Tb (fv a p (.ad T []))) else st
  |_=>st
 |_=>st
def E5:List (Nat×List Nat×TypeId)->List Obj->List Obj
 |[],st=>st
 |(i,p,T)::l,st=>E5 l (OY i p T st)
theorem Nk{C:Ctx}(hI:Inv C)(i:Nat)(p:List Nat)(T:TypeId): ∃C',C'.w=C.w/\C'.P=C.P/\Inv C'/\C'.st=OY i p T C.st/\Ext C.st.length C C':=by
 have same: ∃C',C'.w=C.w/\C'.P=C.P/\Inv C'/\C'.st=C.st/\Ext C.st.length C C':=⟨C,rfl,rfl,hI,rfl,Ext.refl C (Nat.le_refl _)⟩
 unfold OY
 split
 ·rename_i Tb a hst
  split
  ·rename_i hf
   cases hp:mN a p with
   |false=>exact same
   | true=>
    rw[aa8]
    have hi:i<C.st.length:=by
     rcases Nat.lt_or_ge i C.st.length with h|h
     ·exact h
     ·rw[dZ _ _ h] at hst;cases hst
    have hob:=hI.obj i hi
    rw[hst] at hob
    obtain⟨g1,g2,c,e,g3,g4,g5⟩:=hob
    have hw:wid (AV.ad T [])=wid (me a p):=by rw[hf];rfl
    have hr:b7 C (C.dE i (.box Tb (fv a p (.ad T []))) C.w) i i:=jY hi hst Tb _ rfl rfl
    have hk:bO C (C.dE i (.box Tb (fv a p (.ad T []))) C.w):=⟨rfl,fun _ h=>h,fun _ _=>rfl⟩
    have hlen:(C.dE i (.box Tb (fv a p (.ad T []))) C.w).st.length=C.st.length:=aV _ _ _
    have hrefs: ∀q,q<C.st.length->b7 C (C.dE i (.box Tb (fv a p (.ad T []))) C.w) q q:=fun q hq=>by
     by_cases hqi:i=q
     ·subst hqi;exact hr
     ·exact dV hI hq (by omega) (bu _ _ _ _ hqi) rfl (fun _ _ _=>⟨rfl,rfl,rfl⟩)
    have hupd:=gy hI (i:=i) hi (o:= .box Tb (fv a p (.ad T []))) (w:=C.w) (by rw[hst];rfl) rfl ⟨rfl,rfl,rfl⟩ (fun _ _=>rfl) hr (by
     refine⟨g1,pN p a _ hp g2 rfl,c,e,g3,by rw[lG p a _ hp hw];exact g4,?_⟩
     have hx:=No p a _ _ hp g5
     rw[hf] at hx
     have hm:=yg hI (x:= .ad T []) p a _ _ _ hp hw g5 (by simp only[M] at hx⊢;exact⟨by simp[bF],none,0,hx.1,by simp,fun h=>absurd rfl h⟩) (fun _ _ _=>rfl)
     have:=pw hk hI.lay some _ _ _ 0 0 (fun q hq hql=>⟨q,rfl,hrefs q hql⟩) (fun _ _=>rfl) hm
     rwa [kL] at this)
    exact⟨C.dE i (.box Tb (fv a p (.ad T []))) C.w,rfl,rfl,hupd.1,rfl,hupd.2⟩
  ·exact same
 ·exact same
theorem AB: ∀(l:List (Nat×List Nat×TypeId)) {C:Ctx},Inv C->∃C',C'.w=C.w/\C'.P=C.P/\Inv C'/\C'.st=E5 l C.st/\Ext C.st.length C C'
 |[],C,hI=>⟨C,rfl,rfl,hI,rfl,Ext.refl C (Nat.le_refl _)⟩
 |(i,p,T)::l,C,hI=>by
  obtain⟨C1,a1,a2,a3,a4,a5⟩:=Nk hI i p T
  obtain⟨C2,b1,b2,b3,b4,b5⟩:=AB l a3
  refine⟨C2,b1.trans a1,b2.trans a2,b3,by rw[b4,a4];rfl,a5.trans b5 ?_⟩
  rcases Nat.eq_zero_or_pos C.st.length with h|h
  ·omega
  ·have:=(a5.refs (C.st.length - 1) (by omega)).lt;omega
theorem Nm{P:Pg}{f:FuncId}{args:List AV}{st:List Obj}{K:AV->List Obj->Prop}(l:List (Nat×List Nat×TypeId))(h:dp P f args (E5 l st) K):dp P f args st K:=by
 refine⟨h.1,fun C vs hP hI hst hm=>?_⟩
 obtain⟨C1,a1,a2,a3,a4,a5⟩:=AB l hI
 have hlen:C.st.length<=C1.st.length:=by
  rcases Nat.eq_zero_or_pos C.st.length with e|e
  ·omega
  ·have:=(a5.refs (C.st.length - 1) (by omega)).lt;omega
 have hm1:MT C1 args vs.toList:=by
  have:=jX a5.keeps hI.lay some args vs.toList (fun i hi hil=>⟨i,rfl,a5.refs i hil⟩) hm
  rwa [fg] at this
 have:=h.2 C1 vs (a2.trans hP) a3 (by rw[a4,hst]) hm1
 rw[a1] at this
 refine this.mono ?_
 rintro e w' ⟨v,r,C',rfl,rfl,b1,b2,b3,b4,b5⟩
 rw[←hst]
 rw[←hst,←a4] at b4
 exact⟨v,r,C',rfl,rfl,b1.trans a2,b2,b3,a5.trans b4 hlen,b5⟩
structure EB where
 E:Env
 ok:aB E
 mono:aj E
def EB.loop(b:EB){N f k base:Nat}{α:Type}{st:α->S}{side:α->Prop}{out:α->Out (Exit×S)}(h:bh b.E N f k (aP base st side out)):EB:=
 ⟨b.E.ak f k (aP base st side out),b.ok.ak b.mono h,b.mono.ak aF⟩
def EB.call(b:EB){N f:Nat}{α:Type}{st:α->List AV×List Obj}{side:α->Prop}{out:α->Out (AV×List Obj)}(h:bq b.E N f (aM st side out)):EB:=
 ⟨b.E.ay f (aM st side out),b.ok.ay b.mono h,b.mono.ay aJ⟩
def EB.pure(b:EB){N f:Nat}{g:List AV->Option (Bool×AV)}(h:c9 b.E N f g):EB:=⟨b.E.aH f g,b.ok.aH b.mono h,b.mono.aH⟩
def EB.fresh(b:EB){N f:Nat}{g:List AV->Option (Bool×AV)}(h:pY b.E N f g):EB:=⟨b.E.eW f g,b.ok.eW b.mono h,b.mono.eW⟩
def EB.range(b:EB){N g:Nat}(f k:Nat){sp:dv}(hm:sp.iT)(h:kP b.E N g sp)(gen:FuncId->Bool):EB:=
 ⟨(b.E.addRange f k g sp).dn gen,(b.ok.addRange b.mono h).dn _,(b.mono.addRange hm).dn _⟩
def EB.Pd(b:EB){N g:Nat}(f k:Nat){sp:dv}{fl:List (Nat×Nat×TypeId)}(hm:sp.iT)(h:tH b.E N g fl sp)(gen:FuncId->Bool):EB:=
 ⟨(b.E.addRange f k g sp).dn gen,(b.ok.HV b.mono h).dn _,(b.mono.addRange hm).dn _⟩
def EB.calm(b:EB)(l:List Nat):EB:=⟨b.E.iF fun f=>jM f l||b.E.calm f,b.ok.iF _,⟨b.mono.call,b.mono.loop,b.mono.lF⟩⟩
def EB.narrow(b:EB){f:Nat}{α β:Type}{st:α->List AV×List Obj}{side:α->Prop}{out:α->Out (AV×List Obj)}{st':β->List AV×List Obj}{side':β->Prop}{out':β->Out (AV×List Obj)}
  (h: ∀args s K,aM st side out args s K->b.E.call f args s K) (k: ∀args s K,aM st' side' out' args s K->aM st side out args s K):EB:=
 ⟨b.E.ay f (aM st' side' out'),b.ok.iz fun _ _ _ hh=>b.ok.call _ _ _ _ (h _ _ _ (k _ _ _ hh)),b.mono.ay aJ⟩
def S6(f k:Nat):List (Nat×Nat×List (Nat×Option TypeId))->List (Nat×Option TypeId)
 |[]=>[]
 |(g,j,l)::r=>bif Nat.beq g f&&Nat.beq j k then l else S6 f k r
def EB.opens(b:EB)(t:List (Nat×Nat×List (Nat×Option TypeId))):EB:=⟨{b.E with live:=fun f k=>b.E.live f k++S6 f k t},⟨b.ok.prog,b.ok.ik,b.ok.call,b.ok.lF,b.ok.loop⟩,⟨b.mono.call,b.mono.loop,b.mono.lF⟩⟩
def EB.Q4(b:EB)(l:List Nat):EB:=⟨{b.E with inl:=fun f=>!jM f l&&b.E.inl f},⟨b.ok.prog,b.ok.ik,b.ok.call,b.ok.lF,b.ok.loop⟩,⟨b.mono.call,b.mono.loop,b.mono.lF⟩⟩
def EB.opened(b:EB){N f:Nat}{α:Type}{st:α->List AV×List Obj}{side:α->Prop}{out:α->Out (AV×List Obj)}(m:List (Nat×List Nat×TypeId))(l:List (Nat×Nat×TypeId))(h:bq b.E N f (aM st side out)):EB:=
 ⟨b.E.ay f (fun args s K=>aM st side out args (oR l (E5 m s)) K),b.ok.iz fun _ _ _ hh=>Nm m (IZ l (il b.ok b.mono (h _ _ _ hh))),
  b.mono.ay fun _ _ _ _ hK hh=>aJ _ _ _ _ hK hh⟩
end Go.Dn
