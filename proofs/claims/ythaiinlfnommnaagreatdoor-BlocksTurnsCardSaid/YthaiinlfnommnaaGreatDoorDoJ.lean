import Derived.Test.YthaiinlfnommnaaGreatDoorDoI
namespace Go.Dn
open Go
theorem Mt{P:Pg}{f:FuncId}{args:List AV}{st:List Obj}{K:AV->List Obj->Prop}(l:List (Nat×Nat×TypeId))(h:cM P f args (o6 l st) K):cM P f args st K:=by
 refine⟨h.1,fun C vs hP hI hst hm=>?_⟩
 obtain⟨C1,a1,a2,a3,a4,a5⟩:=qw l hI
 have hlen:C.st.length<=C1.st.length:=by
  rcases Nat.eq_zero_or_pos C.st.length with e|e
  ·omega
  ·have:=(a5.refs (C.st.length - 1) (by omega)).lt;omega
 have hm1:MT C1 args vs.toList:=by
  have:=kc a5.keeps hI.lay some args vs.toList (fun i hi hil=>⟨i,rfl,a5.refs i hil⟩) hm
  rwa [fq] at this
 have:=h.2 C1 vs (a2.trans hP) a3 (by rw[a4,hst]) hm1
 rw[a1] at this
 refine this.mono ?_
 rintro e w' ⟨v,r,C',rfl,rfl,b1,b2,b3,b4,b5⟩
 rw[←hst]
 rw[←hst,←a4] at b4
 exact⟨v,r,C',rfl,rfl,b1.trans a2,b2,b3,a5.trans b4 hlen,b5⟩
def Rj(i:Nat)(p:List Nat)(T:TypeId)(st:List Obj):List Obj:=
 match ax st i with
 | .box Tb a=>
  match mz a p with
  | .lit (.slice none 0 0)=>bif mY a p then df st i (.box Tb (fJ a p (.ad T []))) else st
  |_=>st
 |_=>st
def GS:List (Nat×List Nat×TypeId)->List Obj->List Obj
 |[],st=>st
 |(i,p,T)::l,st=>GS l (Rj i p T st)
theorem NF{C:Ctx}(hI:Inv C)(i:Nat)(p:List Nat)(T:TypeId): ∃C',C'.w=C.w/\C'.P=C.P/\Inv C'/\C'.st=Rj i p T C.st/\Ext C.st.length C C':=by
 have same: ∃C',C'.w=C.w/\C'.P=C.P/\Inv C'/\C'.st=C.st/\Ext C.st.length C C':=⟨C,rfl,rfl,hI,rfl,Ext.refl C (Nat.le_refl _)⟩
 unfold Rj
 split
 ·rename_i Tb a hst
  split
  ·rename_i hf
   cases hp:mY a p with
   |false=>exact same
   | true=>
    rw[aa8]
    have hi:i<C.st.length:=by
     rcases Nat.lt_or_ge i C.st.length with h|h
     ·exact h
     ·rw[eg _ _ h] at hst;cases hst
    have hob:=hI.obj i hi
    rw[hst] at hob
    obtain⟨g1,g2,c,e,g3,g4,g5⟩:=hob
    have hw:wid (AV.ad T [])=wid (mz a p):=by rw[hf];rfl
    have hr:b9 C (C.dE i (.box Tb (fJ a p (.ad T []))) C.w) i i:=j6 hi hst Tb _ rfl rfl
    have hk:bR C (C.dE i (.box Tb (fJ a p (.ad T []))) C.w):=⟨rfl,fun _ h=>h,fun _ _=>rfl⟩
    have hlen:(C.dE i (.box Tb (fJ a p (.ad T []))) C.w).st.length=C.st.length:=aU _ _ _
    have hrefs: ∀q,q<C.st.length->b9 C (C.dE i (.box Tb (fJ a p (.ad T []))) C.w) q q:=fun q hq=>by
     by_cases hqi:i=q
     ·subst hqi;exact hr
     ·exact ea hI hq (by omega) (bz _ _ _ _ hqi) rfl (fun _ _ _=>⟨rfl,rfl,rfl⟩)
    have hupd:=gi hI (i:=i) hi (o:= .box Tb (fJ a p (.ad T []))) (w:=C.w) (by rw[hst];rfl) rfl ⟨rfl,rfl,rfl⟩ (fun _ _=>rfl) hr (by
     refine⟨g1,pN p a _ hp g2 rfl,c,e,g3,by rw[l7 p a _ hp hw];exact g4,?_⟩
     have hx:=Of p a _ _ hp g5
     rw[hf] at hx
     have hm:=zI hI (x:= .ad T []) p a _ _ _ hp hw g5 (by simp only[M] at hx⊢;exact⟨by simp[bI],none,0,hx.1,by simp,fun h=>absurd rfl h⟩) (fun _ _ _=>rfl)
     have:=pM hk hI.lay some _ _ _ 0 0 (fun q hq hql=>⟨q,rfl,hrefs q hql⟩) (fun _ _=>rfl) hm
     rwa [kL] at this)
    exact⟨C.dE i (.box Tb (fJ a p (.ad T []))) C.w,rfl,rfl,hupd.1,rfl,hupd.2⟩
  ·exact same
 ·exact same
theorem CY: ∀(l:List (Nat×List Nat×TypeId)) {C:Ctx},Inv C->∃C',C'.w=C.w/\C'.P=C.P/\Inv C'/\C'.st=GS l C.st/\Ext C.st.length C C'
 |[],C,hI=>⟨C,rfl,rfl,hI,rfl,Ext.refl C (Nat.le_refl _)⟩
 |(i,p,T)::l,C,hI=>by
  obtain⟨C1,a1,a2,a3,a4,a5⟩:=NF hI i p T
  obtain⟨C2,b1,b2,b3,b4,b5⟩:=CY l a3
  refine⟨C2,b1.trans a1,b2.trans a2,b3,by rw[b4,a4];rfl,a5.trans b5 ?_⟩
  rcases Nat.eq_zero_or_pos C.st.length with h|h
  ·omega
  ·have:=(a5.refs (C.st.length - 1) (by omega)).lt;omega
theorem OW{P:Pg}{f:FuncId}{args:List AV}{st:List Obj}{K:AV->List Obj->Prop}(l:List (Nat×List Nat×TypeId))(h:cM P f args (GS l st) K):cM P f args st K:=by
 refine⟨h.1,fun C vs hP hI hst hm=>?_⟩
 obtain⟨C1,a1,a2,a3,a4,a5⟩:=CY l hI
 have hlen:C.st.length<=C1.st.length:=by
  rcases Nat.eq_zero_or_pos C.st.length with e|e
  ·omega
  ·have:=(a5.refs (C.st.length - 1) (by omega)).lt;omega
 have hm1:MT C1 args vs.toList:=by
  have:=kc a5.keeps hI.lay some args vs.toList (fun i hi hil=>⟨i,rfl,a5.refs i hil⟩) hm
  rwa [fq] at this
 have:=h.2 C1 vs (a2.trans hP) a3 (by rw[a4,hst]) hm1
 rw[a1] at this
 refine this.mono ?_
 rintro e w' ⟨v,r,C',rfl,rfl,b1,b2,b3,b4,b5⟩
 rw[←hst]
 rw[←hst,←a4] at b4
 exact⟨v,r,C',rfl,rfl,b1.trans a2,b2,b3,a5.trans b4 hlen,b5⟩
structure EB where
 E:Env
 ok:aB E
 mono:aj E
def EB.loop(b:EB){N f k base:Nat}{α:Type}{st:α->S}{side:α->Prop}{out:α->Out (Exit×S)}(h:bj b.E N f k (aO base st side out)):EB:=
 ⟨b.E.ak f k (aO base st side out),b.ok.ak b.mono h,b.mono.ak aG⟩
def EB.call(b:EB){N f:Nat}{α:Type}{st:α->List AV×List Obj}{side:α->Prop}{out:α->Out (AV×List Obj)}(h:bu b.E N f (aL st side out)):EB:=
 ⟨b.E.aw f (aL st side out),b.ok.aw b.mono h,b.mono.aw aJ⟩
def EB.pure(b:EB){N f:Nat}{g:List AV->Option (Bool×AV)}(h:cQ b.E N f g):EB:=⟨b.E.aH f g,b.ok.aH b.mono h,b.mono.aH⟩
def EB.fresh(b:EB){N f:Nat}{g:List AV->Option (Bool×AV)}(h:qP b.E N f g):EB:=⟨b.E.fe f g,b.ok.fe b.mono h,b.mono.fe⟩
def EB.range(b:EB){N g:Nat}(f k:Nat){sp:dB}(hm:sp.jf)(h:ll b.E N g sp)(gen:FuncId->Bool):EB:=
 ⟨(b.E.addRange f k g sp).dv gen,(b.ok.addRange b.mono h).dv _,(b.mono.addRange hm).dv _⟩
def EB.RV(b:EB){N g:Nat}(f k:Nat){sp:dB}{fl:List (Nat×Nat×TypeId)}(hm:sp.jf)(h:tW b.E N g fl sp)(gen:FuncId->Bool):EB:=
 ⟨(b.E.addRange f k g sp).dv gen,(b.ok.Io b.mono h).dv _,(b.mono.addRange hm).dv _⟩
def EB.calm(b:EB)(l:List Nat):EB:=⟨b.E.iM fun f=>jk f l||b.E.calm f,b.ok.iM _,⟨b.mono.call,b.mono.loop,b.mono.kZ⟩⟩
def EB.narrow(b:EB){f:Nat}{α β:Type}{st:α->List AV×List Obj}{side:α->Prop}{out:α->Out (AV×List Obj)}{st':β->List AV×List Obj}{side':β->Prop}{out':β->Out (AV×List Obj)}
  (h: ∀args s K,aL st side out args s K->b.E.call f args s K) (k: ∀args s K,aL st' side' out' args s K->aL st side out args s K):EB:=
 ⟨b.E.aw f (aL st' side' out'),b.ok.gU fun _ _ _ hh=>b.ok.call _ _ _ _ (h _ _ _ (k _ _ _ hh)),b.mono.aw aJ⟩
def Ue(f k:Nat):List (Nat×Nat×List (Nat×Option TypeId))->List (Nat×Option TypeId)
 |[]=>[]
 |(g,j,l)::r=>bif Nat.beq g f&&Nat.beq j k then l else Ue f k r
def EB.opens(b:EB)(t:List (Nat×Nat×List (Nat×Option TypeId))):EB:=⟨{b.E with live:=fun f k=>b.E.live f k++Ue f k t},⟨b.ok.prog,b.ok.gQ,b.ok.call,b.ok.kZ,b.ok.loop⟩,⟨b.mono.call,b.mono.loop,b.mono.kZ⟩⟩
def EB.Ss(b:EB)(l:List Nat):EB:=⟨{b.E with inl:=fun f=>!jk f l&&b.E.inl f},⟨b.ok.prog,b.ok.gQ,b.ok.call,b.ok.kZ,b.ok.loop⟩,⟨b.mono.call,b.mono.loop,b.mono.kZ⟩⟩
def EB.opened(b:EB){N f:Nat}{α:Type}{st:α->List AV×List Obj}{side:α->Prop}{out:α->Out (AV×List Obj)}(m:List (Nat×List Nat×TypeId))(l:List (Nat×Nat×TypeId))(h:bu b.E N f (aL st side out)):EB:=
 ⟨b.E.aw f (fun args s K=>aL st side out args (o6 l (GS m s)) K),b.ok.gU fun _ _ _ hh=>OW m (Mt l (iB b.ok b.mono (h _ _ _ hh))),
  b.mono.aw fun _ _ _ _ hK hh=>aJ _ _ _ _ hK hh⟩
end Go.Dn
