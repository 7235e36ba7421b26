import Derived.Test.YthaiinlfnommnaaGreatDoorDoI
namespace Go.Dn
open Go
theorem LY{P:Pg}{f:FuncId}{args:List AV}{st:List Obj}{K:AV->List Obj->Prop}(l:List (Nat×Nat×TypeId))(h:dq P f args (pC l st) K):dq P f args st K:=by
 refine⟨h.1,fun C vs hP hI hst hm=>?_⟩
 obtain⟨C1,a1,a2,a3,a4,a5⟩:=rp l hI
 have hlen:C.st.length<=C1.st.length:=by
  rcases Nat.eq_zero_or_pos C.st.length with e|e
  ·omega
  ·have:=(a5.refs (C.st.length - 1) (by omega)).lt;omega
 have hm1:MT C1 args vs.toList:=by
  have:=kk a5.keeps hI.lay some args vs.toList (fun i hi hil=>⟨i,rfl,a5.refs i hil⟩) hm
  rwa [fC] at this
 have:=h.2 C1 vs (a2.trans hP) a3 (by rw[a4,hst]) hm1
 rw[a1] at this
 refine this.mono ?_
 rintro e w' ⟨v,r,C',rfl,rfl,b1,b2,b3,b4,b5⟩
 rw[←hst]
 rw[←hst,←a4] at b4
 exact⟨v,r,C',rfl,rfl,b1.trans a2,b2,b3,a5.trans b4 hlen,b5⟩
def Ru(i:Nat)(p:List Nat)(T:TypeId)(st:List Obj):List Obj:=
 match az st i with
 | .box Tb a=>
  match nb a p with
  | .lit (.slice none 0 0)=>bif nr a p then dj st i (.box Tb (fN a p (.ad T []))) else st
  |_=>st
 |_=>st
def GD:List (Nat×List Nat×TypeId)->List Obj->List Obj
 |[],st=>st
 |(i,p,T)::l,st=>GD l (Ru i p T st)
theorem Oo{C:Ctx}(hI:Inv C)(i:Nat)(p:List Nat)(T:TypeId): ∃C',C'.w=C.w/\C'.P=C.P/\Inv C'/\C'.st=Ru i p T C.st/\Ext C.st.length C C':=by
 have same: ∃C',C'.w=C.w/\C'.P=C.P/\Inv C'/\C'.st=C.st/\Ext C.st.length C C':=⟨C,rfl,rfl,hI,rfl,Ext.refl C (Nat.le_refl _)⟩
 unfold Ru
 split
 ·rename_i Tb a hst
  split
  ·rename_i hf
   cases hp:nr a p with
   |false=>exact same
   | true=>
    rw[aa9]
    have hi:i<C.st.length:=by
     rcases Nat.lt_or_ge i C.st.length with h|h
     ·exact h
     ·rw[eD _ _ h] at hst;cases hst
    have hob:=hI.obj i hi
    rw[hst] at hob
    obtain⟨g1,g2,c,e,g3,g4,g5⟩:=hob
    have hw:wid (AV.ad T [])=wid (nb a p):=by rw[hf];rfl
    have hr:ck C (C.dO i (.box Tb (fN a p (.ad T []))) C.w) i i:=ke hi hst Tb _ rfl rfl
    have hk:b8 C (C.dO i (.box Tb (fN a p (.ad T []))) C.w):=⟨rfl,fun _ h=>h,fun _ _=>rfl⟩
    have hlen:(C.dO i (.box Tb (fN a p (.ad T []))) C.w).st.length=C.st.length:=a0 _ _ _
    have hrefs: ∀q,q<C.st.length->ck C (C.dO i (.box Tb (fN a p (.ad T []))) C.w) q q:=fun q hq=>by
     by_cases hqi:i=q
     ·subst hqi;exact hr
     ·exact ej hI hq (by omega) (bF _ _ _ _ hqi) rfl (fun _ _ _=>⟨rfl,rfl,rfl⟩)
    have hupd:=gR hI (i:=i) hi (o:= .box Tb (fN a p (.ad T []))) (w:=C.w) (by rw[hst];rfl) rfl ⟨rfl,rfl,rfl⟩ (fun _ _=>rfl) hr (by
     refine⟨g1,qe p a _ hp g2 rfl,c,e,g3,by rw[lX p a _ hp hw];exact g4,?_⟩
     have hx:=OR p a _ _ hp g5
     rw[hf] at hx
     have hm:=Ac hI (x:= .ad T []) p a _ _ _ hp hw g5 (by simp only[M] at hx⊢;exact⟨by simp[bM],none,0,hx.1,by simp,fun h=>absurd rfl h⟩) (fun _ _ _=>rfl)
     have:=pS hk hI.lay some _ _ _ 0 0 (fun q hq hql=>⟨q,rfl,hrefs q hql⟩) (fun _ _=>rfl) hm
     rwa [lh] at this)
    exact⟨C.dO i (.box Tb (fN a p (.ad T []))) C.w,rfl,rfl,hupd.1,rfl,hupd.2⟩
  ·exact same
 ·exact same
theorem Br: ∀(l:List (Nat×List Nat×TypeId)) {C:Ctx},Inv C->∃C',C'.w=C.w/\C'.P=C.P/\Inv C'/\C'.st=GD l C.st/\Ext C.st.length C C'
 |[],C,hI=>⟨C,rfl,rfl,hI,rfl,Ext.refl C (Nat.le_refl _)⟩
 |(i,p,T)::l,C,hI=>by
  obtain⟨C1,a1,a2,a3,a4,a5⟩:=Oo hI i p T
  obtain⟨C2,b1,b2,b3,b4,b5⟩:=Br l a3
  refine⟨C2,b1.trans a1,b2.trans a2,b3,by rw[b4,a4];rfl,a5.trans b5 ?_⟩
  rcases Nat.eq_zero_or_pos C.st.length with h|h
  ·omega
  ·have:=(a5.refs (C.st.length - 1) (by omega)).lt;omega
theorem NO{P:Pg}{f:FuncId}{args:List AV}{st:List Obj}{K:AV->List Obj->Prop}(l:List (Nat×List Nat×TypeId))(h:dq P f args (GD l st) K):dq P f args st K:=by
 refine⟨h.1,fun C vs hP hI hst hm=>?_⟩
 obtain⟨C1,a1,a2,a3,a4,a5⟩:=Br l hI
 have hlen:C.st.length<=C1.st.length:=by
  rcases Nat.eq_zero_or_pos C.st.length with e|e
  ·omega
  ·have:=(a5.refs (C.st.length - 1) (by omega)).lt;omega
 have hm1:MT C1 args vs.toList:=by
  have:=kk a5.keeps hI.lay some args vs.toList (fun i hi hil=>⟨i,rfl,a5.refs i hil⟩) hm
  rwa [fC] at this
 have:=h.2 C1 vs (a2.trans hP) a3 (by rw[a4,hst]) hm1
 rw[a1] at this
 refine this.mono ?_
 rintro e w' ⟨v,r,C',rfl,rfl,b1,b2,b3,b4,b5⟩
 rw[←hst]
 rw[←hst,←a4] at b4
 exact⟨v,r,C',rfl,rfl,b1.trans a2,b2,b3,a5.trans b4 hlen,b5⟩
structure EB where
 E:Env
 ok:aD E
 mono:aj E
def EB.loop(b:EB){N f k base:Nat}{α:Type}{st:α->S}{side:α->Prop}{out:α->Out (Exit×S)}(h:bk b.E N f k (aP base st side out)):EB:=
 ⟨b.E.ak f k (aP base st side out),b.ok.ak b.mono h,b.mono.ak aI⟩
def EB.call(b:EB){N f:Nat}{α:Type}{st:α->List AV×List Obj}{side:α->Prop}{out:α->Out (AV×List Obj)}(h:bz b.E N f (aR st side out)):EB:=
 ⟨b.E.ay f (aR st side out),b.ok.ay b.mono h,b.mono.ay aK⟩
def EB.pure(b:EB){N f:Nat}{g:List AV->Option (Bool×AV)}(h:cy b.E N f g):EB:=⟨b.E.aG f g,b.ok.aG b.mono h,b.mono.aG⟩
def EB.fresh(b:EB){N f:Nat}{g:List AV->Option (Bool×AV)}(h:qq b.E N f g):EB:=⟨b.E.fp f g,b.ok.fp b.mono h,b.mono.fp⟩
def EB.range(b:EB){N g:Nat}(f k:Nat){sp:dG}(hm:sp.jk)(h:lq b.E N g sp)(gen:FuncId->Bool):EB:=
 ⟨(b.E.addRange f k g sp).dy gen,(b.ok.addRange b.mono h).dy _,(b.mono.addRange hm).dy _⟩
def EB.RD(b:EB){N g:Nat}(f k:Nat){sp:dG}{fl:List (Nat×Nat×TypeId)}(hm:sp.jk)(h:wm b.E N g fl sp)(gen:FuncId->Bool):EB:=
 ⟨(b.E.addRange f k g sp).dy gen,(b.ok.Ia b.mono h).dy _,(b.mono.addRange hm).dy _⟩
def EB.calm(b:EB)(l:List Nat):EB:=⟨b.E.iZ fun f=>jH f l||b.E.calm f,b.ok.iZ _,⟨b.mono.call,b.mono.loop,b.mono.lk⟩⟩
def EB.narrow(b:EB){f:Nat}{α β:Type}{st:α->List AV×List Obj}{side:α->Prop}{out:α->Out (AV×List Obj)}{st':β->List AV×List Obj}{side':β->Prop}{out':β->Out (AV×List Obj)}
  (h: ∀args s K,aR st side out args s K->b.E.call f args s K) (k: ∀args s K,aR st' side' out' args s K->aR st side out args s K):EB:=
 ⟨b.E.ay f (aR st' side' out'),b.ok.iE fun _ _ _ hh=>b.ok.call _ _ _ _ (h _ _ _ (k _ _ _ hh)),b.mono.ay aK⟩
def Vc(f k:Nat):List (Nat×Nat×List (Nat×Option TypeId))->List (Nat×Option TypeId)
 |[]=>[]
 |(g,j,l)::r=>bif Nat.beq g f&&Nat.beq j k then l else Vc f k r
def EB.opens(b:EB)(t:List (Nat×Nat×List (Nat×Option TypeId))):EB:=⟨{b.E with live:=fun f k=>b.E.live f k++Vc f k t},⟨b.ok.prog,b.ok.il,b.ok.call,b.ok.lk,b.ok.loop⟩,⟨b.mono.call,b.mono.loop,b.mono.lk⟩⟩
def EB.Ur(b:EB)(l:List Nat):EB:=⟨{b.E with inl:=fun f=>!jH f l&&b.E.inl f},⟨b.ok.prog,b.ok.il,b.ok.call,b.ok.lk,b.ok.loop⟩,⟨b.mono.call,b.mono.loop,b.mono.lk⟩⟩
def EB.opened(b:EB){N f:Nat}{α:Type}{st:α->List AV×List Obj}{side:α->Prop}{out:α->Out (AV×List Obj)}(m:List (Nat×List Nat×TypeId))(l:List (Nat×Nat×TypeId))(h:bz b.E N f (aR st side out)):EB:=
 ⟨b.E.ay f (fun args s K=>aR st side out args (pC l (GD m s)) K),b.ok.iE fun _ _ _ hh=>NO m (LY l (iK b.ok b.mono (h _ _ _ hh))),
  b.mono.ay fun _ _ _ _ hK hh=>aK _ _ _ _ hK hh⟩
end Go.Dn
