import Derived.Test.YthaiinlfnommnaaGreatDoorDoC
import Derived.Sort.LoopGhostIn
namespace Go.Dn
open Go
def km(k:Nat):Exit->Nat
 | .exit id=>1000*(k+1)+2+id
 |_=>1000*(k+1)+1
def bL(E:Env)(f k base:Nat)(I:Nat->S->Prop)(n:Nat)(K:Exit->S->Prop):Exit->S->Prop
 | .normal,s=>ba (jF E.P (E.live f k) base s) (BL (canon E.P (E.live f k) base s) fun s'=>∃m,m<n/\I m s')
 |e,s=>ba (jF E.P (E.live f (km k e)) base s) (BL (canon E.P (E.live f (km k e)) base s) fun s'=>K e s')
def MO(E:Env)(f k base:Nat)(I:Nat->S->Prop)(n:Nat)(K:Exit->S->Prop):Exit->S->Prop
 | .normal,s=>ba (jF E.P (E.live f k) base s) (∃m,m<n/\I m (canon E.P (E.live f k) base s))
 |e,s=>ba (jF E.P (E.live f (km k e)) base s) (K e (canon E.P (E.live f (km k e)) base s))
theorem K7{E:Env}{f k base:Nat}{I:Nat->S->Prop}{n:Nat}{K:Exit->S->Prop}:bL E f k base I n K=MO E f k base I n K:=by
 funext e s
 cases e<;>simp only[bL,MO,lL]
theorem Fj{E:Env}(hE:aD E)(hM:aj E){N f k:Nat}{c:Code}{rd:Option Nat}{base:Nat}{s:S}{K:Exit->S->Prop}(I:Nat->S->Prop)(n0:Nat)(h0:I n0 s)
  (h: ∀n s',I n s'->vc E N f rd base c s' (bL E f k base I n K)):Sound E.P rd base (.loop c) s K:=by
 simp only[K7] at h
 intro C a F n lo hC hI hs hd hlo hb hF
 refine wpIn_loop_ghost (fun m a w=>∃C' s',C'.w=w/\C'.P=C.P/\Inv C'/\dv C' s' a/\ig lo C' a.defers/\base<=s'.st.length/\Ext base C C'/\I m s') n0
  ⟨C,s,rfl,rfl,hI,hs,hd,hb,Ext.refl C (by rw[hs.st];exact hb),h0⟩ ?_
 rintro m a w ⟨C',s',rfl,hP',hI',hs',hd',hb',he',hm⟩
 refine wpIn_mono (x2 hE hM N _ _ _ _ _ _ (h m s' hm) C' a F n lo (hP'.trans hC) hI' hs' hd' (Nat.le_trans hlo he'.size) hb' (hF.ext he')) ?_
 intro e a2 w2 hp
 have out: ∀{e:Exit},eV lo base C' (fun e s=>ba (jF E.P (E.live f (km k e)) base s) (K e (canon E.P (E.live f (km k e)) base s))) e a2 w2->eV lo base C K e a2 w2:=by
  rintro e ⟨C2,s2,rfl,hP2,hI2,hs2,hd2,hb2,he2,hk⟩
  obtain⟨hk1,hk2⟩:=an.1 hk
  obtain⟨C3,k1,k2,k3,k4,k5⟩:=wF E.P (E.live f (km k e)) hI2 hs2 hb2 hk1
  exact⟨C3,_,k1,k4.P.trans (hP2.trans hP'),k2,k3,hd2.ext k4,k5,(he'.trans he2 (Nat.le_refl _)).trans k4 (Nat.le_refl _),hk2⟩
 cases e with
 |normal=>
  obtain⟨C2,s2,rfl,hP2,hI2,hs2,hd2,hb2,he2,hk⟩:=hp
  obtain⟨hk1,m',hlt,hi⟩:=an.1 hk
  obtain⟨C3,k1,k2,k3,k4,k5⟩:=wF E.P (E.live f k) hI2 hs2 hb2 hk1
  exact⟨m',hlt,C3,_,k1,k4.P.trans (hP2.trans hP'),k2,k3,hd2.ext k4,k5,(he'.trans he2 (Nat.le_refl _)).trans k4 (Nat.le_refl _),hi⟩
 |exit id=>exact out hp
 |goto l=>exact out hp
 |ret=>exact out hp
 |panic ch=>exact out hp
 |outgrown=>exact out hp
def zx:Option Code->Option Code->Option Code
 |some c,_=>some c
 |none,d=>d
def ic(k:Nat):Code->Option Code
 | .loop c=>(match lN c with|some n=>(bif Nat.beq n k then some c else ic k c)|none=>ic k c)
 | .seq a b=>zx (ic k a) (ic k b)
 | .cond _ a b=>zx (ic k a) (ic k b)
 | .block _ c| .scope c=>ic k c
 | .rangeFunc _ _ a b=>zx (ic k a) (ic k b)
 |_=>none
def ah(P:Program)(f k:Nat):Code:=
 match P.funcs[f]? with
 |some fn=>(match fn.body with|some c=>(match ic k c with|some d=>d|none=> .skip)|none=> .skip)
 |none=> .skip
abbrev fY:=Option Nat->Nat->S->(Exit->S->Prop)->Prop
abbrev dw:=List AV->List Obj->(AV->List Obj->Prop)->Prop
def fY.jk(sp:fY):Prop:=∀rd base s (K K':Exit->S->Prop),(∀e s,K e s->K' e s)->sp rd base s K->sp rd base s K'
def dw.jk(sp:dw):Prop:=∀args st (K K':AV->List Obj->Prop),(∀a st,K a st->K' a st)->sp args st K->sp args st K'
def bk(E:Env)(N f k:Nat)(sp:fY):Prop:=
 ∀rd base s K,sp rd base s K->∃(I:Nat->S->Prop) (n0:Nat),I n0 s/\∀n s',I n s'->vc E N f rd base (ah E.P f k) s' (bL E f k base I n K)
def Env.ak(E:Env)(f k:Nat)(sp:fY):Env:=
 {E with loop:=fun g j c rd base s K=>bif Nat.beq g f&&Nat.beq j k then c=ah E.P f k/\sp rd base s K else E.loop g j c rd base s K}
theorem aj.ak{E:Env}(hM:aj E){f k:Nat}{sp:fY}(hs:sp.jk):aj (E.ak f k sp):=by
 refine⟨hM.call,fun g j c rd base s K K' hK h=>?_,hM.lk⟩
 simp only[Env.ak] at h⊢
 cases hb:(Nat.beq g f&&Nat.beq j k) with
 |true=>rw[hb] at h;exact⟨h.1,hs _ _ _ _ _ hK h.2⟩
 |false=>rw[hb] at h;exact hM.loop _ _ _ _ _ _ _ _ hK h
theorem aD.ak{E:Env}(hE:aD E)(hM:aj E){N f k:Nat}{sp:fY}(h:bk E N f k sp):aD (E.ak f k sp):=by
 refine⟨hE.prog,hE.il,hE.call,hE.lk,fun g j c rd base s K hh=>?_⟩
 simp only[Env.ak] at hh
 cases hb:(Nat.beq g f&&Nat.beq j k) with
 |true=>
  rw[hb] at hh
  obtain⟨rfl,hsp⟩:=hh
  obtain⟨I,n0,h0,hI⟩:=h _ _ _ _ hsp
  exact Fj hE hM I n0 h0 hI
 |false=>rw[hb] at hh;exact hE.loop _ _ _ _ _ _ _ hh
def GH(n:Nat)(r:AV)(st:List Obj)(K:AV->List Obj->Prop):Prop:=
 ba (pt n st (refs r) (ib n st (refs r))) (vQ (lP (fun i=>jU i (ib n st (refs r)) 0) r) fun r'=>vh (gH (fun i=>jU i (ib n st (refs r)) 0) (gU st (ib n st (refs r)))) fun st'=>K r' st')
def Vw(P:Program)(Ts:List TypeId)(n:Nat)(r:AV)(st:List Obj)(K:AV->List Obj->Prop):Prop:=
 match cr st r with
 |some r'=>GH n (Mj P Ts r') (cX st (rowsOf r)) K
 |none=>GH n r st K
def NU(P:Program)(own:Bool)(Ts:List TypeId)(n:Nat)(r:AV)(st:List Obj)(K:AV->List Obj->Prop):Prop:=
 match own with
 |true=>GH n r st K
 |false=>Vw P Ts n r st K
def bf(E:Env)(N:Nat)(f:FuncId)(args:List AV)(st:List Obj)(K:AV->List Obj->Prop):Prop:=
 match E.P.funcs[f]? with
 | some fn=>
  (match fn.body with
   | some c=>
    vc E N f none st.length c {bt:=args++bJ (fn.ntmps - args.length),st} fun e s=>
     match e with
     | .normal| .ret=>(match wO E.P s fn.results.toList with|some l=>NU E.P (E.fresh f) fn.resultTypes.toList st.length (mB l) s.st K|none=>False)
     |_=>False
   |none=>False)
 |none=>False
theorem sv{C C':Ctx}{n:Nat}{r:AV}{v:Value}{K:AV->List Obj->Prop}(hI:Inv C')(hP:C'.P=C.P)(he:Ext n C C')(hr:Rel C' r v)(h:GH n r C'.st K):eL C n K (.returned v) C'.w:=by
 obtain⟨h1,h2⟩:=an.1 h
 simp only[mI,kQ] at h2
 obtain⟨g1,g2,g3⟩:=uN hI h1
 refine⟨v,_,C'.by (ib n C'.st (refs r)),rfl,rfl,hP,g1,hr.move g2.keeps hI.lay _ (fun i hi _=>?_),he.trans g2 (Nat.le_refl _),h2⟩
 obtain⟨j,hj⟩:=g3 i hi
 exact⟨j,hj,mi hj⟩
theorem JE{C:Ctx}{n:Nat}{P:Pg}(hPC:C.P=P){own:Bool}{Ts:List TypeId}{K:AV->List Obj->Prop}{e:Ending}{w:World}(h:eL C n (fun r st=>NU P own Ts n r st K) e w):eL C n K e w:=by
 obtain⟨v,r,C',rfl,rfl,hP,hI,hr,he,hK⟩:=h
 unfold NU at hK
 cases own with
 |true=>exact sv hI hP he hr hK
 |false=>
 unfold Vw at hK
 simp only at hK
 split at hK
 ·rename_i r' hp
  obtain⟨C1,f1,f2,f3,f4,f5,f6,f7⟩:=oY hI hp hr
  rw[←f1] at hK
  have f6:=HG f4 (Ts:=Ts) f6
  rw[(f5.P.trans hP).trans hPC] at f6
  have:=sv f4 (f5.P.trans hP) (he.trans (f5.mono he.len) (Nat.le_refl _)) f6 hK
  rw[f2] at this;exact this
 ·exact sv hI hP he hr hK
theorem iK{E:Env}(hE:aD E)(hM:aj E){N:Nat}{f:FuncId}{args:List AV}{st:List Obj}{K:AV->List Obj->Prop}(h:bf E N f args st K):dq E.P f args st K:=by
 unfold bf at h
 split at h<;>try exact h.elim
 rename_i fn hf
 split at h<;>try exact h.elim
 rename_i c hc
 refine⟨⟨fn,hf,by rw[hc];rfl⟩,fun C vs hC hI hst hm=>?_⟩
 subst hst
 have:=ve (K:=fun r st=>NU E.P (E.fresh f) fn.resultTypes.toList C.st.length r st K) hf hc hC hI hm (x2 hE hM N _ _ _ _ _ _ h) 0
 exact this.mono (fun e w' he=>JE hC he)
def bz(E:Env)(N f:Nat)(sp:dw):Prop:=∀args st K,sp args st K->bf E N f args st K
def Env.ay(E:Env)(f:Nat)(sp:dw):Env:=
 {E with call:=fun g args st K=>bif Nat.beq g f then sp args st K else E.call g args st K}
theorem aj.ay{E:Env}(hM:aj E){f:Nat}{sp:dw}(hs:sp.jk):aj (E.ay f sp):=by
 refine⟨fun g args st K K' hK h=>?_,hM.loop,hM.lk⟩
 simp only[Env.ay] at h⊢
 cases hb:Nat.beq g f with
 |true=>rw[hb] at h;exact hs _ _ _ _ hK h
 |false=>rw[hb] at h;exact hM.call _ _ _ _ _ hK h
theorem aD.iE{E:Env}(hE:aD E){f:Nat}{sp:dw}(h: ∀args st K,sp args st K->dq E.P f args st K):aD (E.ay f sp):=by
 refine⟨hE.prog,hE.il,fun g args st K hh=>?_,hE.lk,hE.loop⟩
 simp only[Env.ay] at hh
 cases hb:Nat.beq g f with
 |true=>
  rw[hb] at hh
  obtain rfl:=Nat.eq_of_beq_eq_true hb
  exact h _ _ _ hh
 |false=>rw[hb] at hh;exact hE.call _ _ _ _ hh
theorem aD.ay{E:Env}(hE:aD E)(hM:aj E){N f:Nat}{sp:dw}(h:bz E N f sp):aD (E.ay f sp):=
 hE.iE fun _ _ _ hh=>iK hE hM (h _ _ _ hh)
def yX(l:List AV):Bool:=match de l with|[]=>true|_=>false
def Env.aG(E:Env)(f:Nat)(g:List AV->Option (Bool×AV)):Env:=
 {E with il:=fun h as=>bif Nat.beq h f then(bif yX as then g as else none) else E.il h as}
def cy(E:Env)(N f:Nat)(g:List AV->Option (Bool×AV)):Prop:=
 ∀as x,g as=some (true,x)->∃u,x= .lit u/\bm u=true/\bf E N f as [] (fun r _=>r= .lit u)
theorem aj.aG{E:Env}(hM:aj E){f:Nat}{g:List AV->Option (Bool×AV)}:aj (E.aG f g):=⟨hM.call,hM.loop,hM.lk⟩
def gm(P:Pg)(f:Nat)(g:List AV->Option (Bool×AV)):Prop:=
 ∀as x,yX as=true->g as=some (true,x)->∃fn u,P.funcs[f]? =some fn/\fn.body.isSome=true/\x= .lit u/\bm u=true/\
  ∀(C:Ctx) (vs:Array Value),C.P=P->Inv C->MT C as vs.toList->CallsIn Fence.wide 0 P f vs C.w (fun e w'=>e= .returned u/\ir C.w w')
theorem oq{E:Env}(hE:aD E)(hM:aj E){N f:Nat}{g:List AV->Option (Bool×AV)}(h:cy E N f g):gm E.P f g:=by
 intro as x hn hh
 obtain⟨u,rfl,hu,hf⟩:=h as x hh
 obtain⟨⟨fn,k1,k2⟩,k3⟩:=iK hE hM hf
 refine⟨fn,u,k1,k2,rfl,hu,fun C vs hC hI hm=>?_⟩
 have hrefs:de as=[]:=by
  unfold yX at hn
  split at hn
  ·assumption
  ·cases hn
 have hk:b8 C {C with st:=[]}:=⟨rfl,fun _ h=>h,fun _ _=>rfl⟩
 have hI0:Inv {C with st:=[]}:=⟨hI.lay,fun i hi=>by simp at hi,fun i j hi=>by simp at hi,hI.xs,fun i hi=>by simp at hi,hI.pb,hI.kept⟩
 have hm0:=kk (C':={C with st:=[]}) hk hI.lay some as vs.toList (fun i hi=>by rw[hrefs] at hi;simp at hi) hm
 rw[fC] at hm0
 refine(k3 {C with st:=[]} vs hC hI0 rfl hm0).mono ?_
 rintro e w' ⟨v,r,C',rfl,rfl,hP,hI',hr,he,rfl⟩
 have:=aV hr
 subst this
 exact⟨rfl,he.size,he.os,he.tape,he.output,fun b hb=>he.frame b hb (fun⟨i,hi,_⟩=>by simp at hi)⟩
theorem aD.eo{E:Env}(hE:aD E){f:Nat}{g:List AV->Option (Bool×AV)}(h:gm E.P f g):aD (E.aG f g):=by
 refine⟨hE.prog,fun k as x hh=>?_,hE.call,hE.lk,hE.loop⟩
 simp only[Env.aG] at hh
 cases hb:Nat.beq k f with
 |false=>rw[hb] at hh;exact hE.il k as x hh
 | true=>
  obtain rfl:=Nat.eq_of_beq_eq_true hb
  rw[hb] at hh
  cases hn:yX as with
  |false=>rw[hn] at hh;simp at hh
  |true=>
   rw[hn] at hh
   obtain⟨fn,u,h1,h2,h3,h4,h5⟩:=h as x hn hh
   exact⟨fn,h1,h2, .inl ⟨u,h3,h4,h5⟩⟩
def Env.fp(E:Env)(f:Nat)(g:List AV->Option (Bool×AV)):Env:=
 {E with il:=fun h as=>bif Nat.beq h f then(bif vE as then g as else none) else E.il h as}
def qq(E:Env)(N f:Nat)(g:List AV->Option (Bool×AV)):Prop:=
 ∀as x,g as=some (true,x)->refs x=[]/\bf E N f as [] (fun r _=>r=x)
theorem aj.fp{E:Env}(hM:aj E){f:Nat}{g:List AV->Option (Bool×AV)}:aj (E.fp f g):=⟨hM.call,hM.loop,hM.lk⟩
theorem aD.fp{E:Env}(hE:aD E)(hM:aj E){N f:Nat}{g:List AV->Option (Bool×AV)}(h:qq E N f g):aD (E.fp f g):=by
 refine⟨hE.prog,fun k as x hh=>?_,hE.call,hE.lk,hE.loop⟩
 simp only[Env.fp] at hh
 cases hb:Nat.beq k f with
 |false=>rw[hb] at hh;exact hE.il k as x hh
 | true=>
  obtain rfl:=Nat.eq_of_beq_eq_true hb
  rw[hb] at hh
  cases hn:vE as with
  |false=>rw[hn] at hh;simp at hh
  |true=>
   rw[hn] at hh
   obtain⟨hx,hf⟩:=h as x hh
   obtain⟨⟨fn,k1,k2⟩,k3⟩:=iK hE hM hf
   refine⟨fn,k1,k2, .inr ⟨rfl,hx,fun C vs hC hI hm=>?_⟩⟩
   refine(k3 C.bare vs hC (LI hI) rfl (zt _ _ hn hm)).mono ?_
   rintro e w' ⟨v,r,C',rfl,rfl,hP,hI',hr,he,rfl⟩
   exact⟨v,C',rfl,rfl,hP,hI',hr,he⟩
theorem aD.aG{E:Env}(hE:aD E)(hM:aj E){N f:Nat}{g:List AV->Option (Bool×AV)}(h:cy E N f g):aD (E.aG f g):=
 hE.eo (oq hE hM h)
def below(g:List AV->Option (Bool×AV))(μ:List AV->Nat)(n:Nat)(as:List AV):Option (Bool×AV):=
 match g as with
 |some (c,x)=>some (c&&Nat.blt (μ as) n,x)
 |none=>none
theorem aD.pZ{P:Pg}{f:Nat}(g:List AV->Option (Bool×AV))(μ:List AV->Nat){N:Nat}(ext:Nat->Env)
  (hext: ∀n,gm P f (below g μ n)->aD (ext n)/\aj (ext n)/\(ext n).P=P) (h: ∀n,cy (ext n) N f (fun as=>bif Nat.beq (μ as) n then g as else none)):gm P f g:=by
 have key: ∀n,gm P f (fun as=>bif Nat.beq (μ as) n then g as else none):=by
  intro n
  induction n using Nat.strongRecOn with
  | _ n ih=>
   have hb:gm P f (below g μ n):=by
    intro as x hn hh
    unfold below at hh
    split at hh
    ·rename_i c y hg
     simp only[aa5,ab1,aa3] at hh
     obtain⟨⟨rfl,hlt⟩,rfl⟩:=hh
     refine ih (μ as) (by simpa[Nat.blt_eq] using hlt) as _ hn ?_
     simp only
     rw[show Nat.beq (μ as) (μ as)=true from Nat.beq_refl _]
     exact hg
    ·cases hh
   obtain⟨h1,h2,h3⟩:=hext n hb
   have:=oq h1 h2 (h n)
   rwa [h3] at this
 intro as x hn hh
 refine key (μ as) as x hn ?_
 simp only
 rw[show Nat.beq (μ as) (μ as)=true from Nat.beq_refl _]
 exact hh
def Env.none(P:Pg)(live:FuncId->Nat->List (Nat×Option TypeId))(inl own quiet:FuncId->Bool):Env:=
 {P,call:=fun _ _ _ _=>False,il:=fun _ _=>Option.none,loop:=fun _ _ _ _ _ _ _=>False,lk:=fun _ _ _ _ _ _=>False,gen:=fun _=>false,inl,live,own,quiet}
def Env.jt(E:Env)(fresh:FuncId->Bool):Env:={E with fresh:=fresh}
def Env.iZ(E:Env)(calm:FuncId->Bool):Env:={E with calm:=calm}
theorem aD.iZ{E:Env}(hE:aD E)(calm:FuncId->Bool):aD (E.iZ calm):=⟨hE.prog,hE.il,hE.call,hE.lk,hE.loop⟩
theorem aj.iZ{E:Env}(hM:aj E)(calm:FuncId->Bool):aj (E.iZ calm):=⟨hM.call,hM.loop,hM.lk⟩
theorem aD.jt{E:Env}(hE:aD E)(fresh:FuncId->Bool):aD (E.jt fresh):=⟨hE.prog,hE.il,hE.call,hE.lk,hE.loop⟩
theorem aj.jt{E:Env}(hM:aj E)(fresh:FuncId->Bool):aj (E.jt fresh):=⟨hM.call,hM.loop,hM.lk⟩
theorem aD.none{P:Pg}(hP:pX P){live:FuncId->Nat->List (Nat×Option TypeId)}{inl own quiet:FuncId->Bool}:aD (Env.none P live inl own quiet):=
 ⟨hP,fun _ _ _ h=>by simp[Env.none] at h,fun _ _ _ _ h=>h.elim,fun _ _ _ _ _ _ h=>h.elim,fun _ _ _ _ _ _ _ h=>h.elim⟩
theorem aj.none{P:Pg}{live:FuncId->Nat->List (Nat×Option TypeId)}{inl own quiet:FuncId->Bool}:aj (Env.none P live inl own quiet):=
 ⟨fun _ _ _ _ _ _ h=>h,fun _ _ _ _ _ _ _ _ _ h=>h,fun _ _ _ _ _ _ _ _ h=>h⟩
end Go.Dn
