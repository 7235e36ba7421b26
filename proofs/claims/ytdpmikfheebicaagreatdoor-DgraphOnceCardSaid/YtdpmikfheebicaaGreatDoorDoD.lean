import Derived.Test.YtdpmikfheebicaaGreatDoorDoC
import Derived.Sort.LoopGhostIn
namespace Go.Dn
open Go
def jG(k:Nat):Exit->Nat
 | .exit id=>1000*(k+1)+2+id
 |_=>1000*(k+1)+1
def bI(E:Env)(f k base:Nat)(I:Nat->S->Prop)(n:Nat)(K:Exit->S->Prop):Exit->S->Prop
 | .normal,s=>aO (iL E.P (E.live f k) base s) (zZ (canon E.P (E.live f k) base s) fun s'=>∃m,m<n/\I m s')
 |e,s=>aO (iL E.P (E.live f (jG k e)) base s) (zZ (canon E.P (E.live f (jG k e)) base s) fun s'=>K e s')
def IA(E:Env)(f k base:Nat)(I:Nat->S->Prop)(n:Nat)(K:Exit->S->Prop):Exit->S->Prop
 | .normal,s=>aO (iL E.P (E.live f k) base s) (∃m,m<n/\I m (canon E.P (E.live f k) base s))
 |e,s=>aO (iL E.P (E.live f (jG k e)) base s) (K e (canon E.P (E.live f (jG k e)) base s))
theorem HH{E:Env}{f k base:Nat}{I:Nat->S->Prop}{n:Nat}{K:Exit->S->Prop}:bI E f k base I n K=IA E f k base I n K:=by
 funext e s
 cases e<;>simp only[bI,IA,mc]
theorem Br{E:Env}(hE:aC E)(hM:ai E){N f k:Nat}{c:Code}{rd:Option Nat}{base:Nat}{s:S}{K:Exit->S->Prop}(I:Nat->S->Prop)(n0:Nat)(h0:I n0 s)
  (h: ∀n s',I n s'->vc E N f rd base c s' (bI E f k base I n K)):Sound E.P rd base (.loop c) s K:=by
 simp only[HH] at h
 intro C a F n lo hC hI hs hd hlo hb hF
 refine wpIn_loop_ghost (fun m a w=>∃C' s',C'.w=w/\C'.P=C.P/\Inv C'/\cW C' s' a/\gn lo C' a.defers/\base<=s'.st.length/\Ext base C C'/\I m s') n0
  ⟨C,s,rfl,rfl,hI,hs,hd,hb,Ext.refl C (by rw[hs.st];exact hb),h0⟩ ?_
 rintro m a w ⟨C',s',rfl,hP',hI',hs',hd',hb',he',hm⟩
 refine wpIn_mono (wV hE hM N _ _ _ _ _ _ (h m s' hm) C' a F n lo (hP'.trans hC) hI' hs' hd' (Nat.le_trans hlo he'.size) hb' (hF.ext he')) ?_
 intro e a2 w2 hp
 have out: ∀{e:Exit},eb lo base C' (fun e s=>aO (iL E.P (E.live f (jG k e)) base s) (K e (canon E.P (E.live f (jG k e)) base s))) e a2 w2->eb lo base C K e a2 w2:=by
  rintro e ⟨C2,s2,rfl,hP2,hI2,hs2,hd2,hb2,he2,hk⟩
  obtain⟨hk1,hk2⟩:=au.1 hk
  obtain⟨C3,k1,k2,k3,k4,k5⟩:=te E.P (E.live f (jG k e)) hI2 hs2 hb2 hk1
  exact⟨C3,_,k1,k4.P.trans (hP2.trans hP'),k2,k3,hd2.ext k4,k5,(he'.trans he2 (Nat.le_refl _)).trans k4 (Nat.le_refl _),hk2⟩
 cases e with
 |normal=>
  obtain⟨C2,s2,rfl,hP2,hI2,hs2,hd2,hb2,he2,hk⟩:=hp
  obtain⟨hk1,m',hlt,hi⟩:=au.1 hk
  obtain⟨C3,k1,k2,k3,k4,k5⟩:=te E.P (E.live f k) hI2 hs2 hb2 hk1
  exact⟨m',hlt,C3,_,k1,k4.P.trans (hP2.trans hP'),k2,k3,hd2.ext k4,k5,(he'.trans he2 (Nat.le_refl _)).trans k4 (Nat.le_refl _),hi⟩
 |exit id=>exact out hp
 |goto l=>exact out hp
 |ret=>exact out hp
 |panic ch=>exact out hp
 |outgrown=>exact out hp
def yL:Option Code->Option Code->Option Code
 |some c,_=>some c
 |none,d=>d
def fZ(k:Nat):Code->Option Code
 | .loop c=>(match kG c with|some n=>(bif Nat.beq n k then some c else fZ k c)|none=>fZ k c)
 | .seq a b=>yL (fZ k a) (fZ k b)
 | .cond _ a b=>yL (fZ k a) (fZ k b)
 | .block _ c| .scope c=>fZ k c
 | .rangeFunc _ _ a b=>yL (fZ k a) (fZ k b)
 |_=>none
def ag(P:Program)(f k:Nat):Code:=
 match P.funcs[f]? with
 |some fn=>(match fn.body with|some c=>(match fZ k c with|some d=>d|none=> .skip)|none=> .skip)
 |none=> .skip
abbrev fj:=Option Nat->Nat->S->(Exit->S->Prop)->Prop
abbrev cX:=List AV->List Obj->(AV->List Obj->Prop)->Prop
def fj.jI(sp:fj):Prop:=∀rd base s (K K':Exit->S->Prop),(∀e s,K e s->K' e s)->sp rd base s K->sp rd base s K'
def cX.jI(sp:cX):Prop:=∀args st (K K':AV->List Obj->Prop),(∀a st,K a st->K' a st)->sp args st K->sp args st K'
def bn(E:Env)(N f k:Nat)(sp:fj):Prop:=
 ∀rd base s K,sp rd base s K->∃(I:Nat->S->Prop) (n0:Nat),I n0 s/\∀n s',I n s'->vc E N f rd base (ag E.P f k) s' (bI E f k base I n K)
def Env.aj(E:Env)(f k:Nat)(sp:fj):Env:=
 {E with loop:=fun g j c rd base s K=>bif Nat.beq g f&&Nat.beq j k then c=ag E.P f k/\sp rd base s K else E.loop g j c rd base s K}
theorem ai.aj{E:Env}(hM:ai E){f k:Nat}{sp:fj}(hs:sp.jI):ai (E.aj f k sp):=by
 refine⟨hM.call,fun g j c rd base s K K' hK h=>?_,hM.jO⟩
 simp only[Env.aj] at h⊢
 cases hb:(Nat.beq g f&&Nat.beq j k) with
 |true=>rw[hb] at h;exact⟨h.1,hs _ _ _ _ _ hK h.2⟩
 |false=>rw[hb] at h;exact hM.loop _ _ _ _ _ _ _ _ hK h
theorem aC.aj{E:Env}(hE:aC E)(hM:ai E){N f k:Nat}{sp:fj}(h:bn E N f k sp):aC (E.aj f k sp):=by
 refine⟨hE.prog,hE.gY,hE.call,hE.jO,fun g j c rd base s K hh=>?_⟩
 simp only[Env.aj] at hh
 cases hb:(Nat.beq g f&&Nat.beq j k) with
 |true=>
  rw[hb] at hh
  obtain⟨rfl,hsp⟩:=hh
  obtain⟨I,n0,h0,hI⟩:=h _ _ _ _ hsp
  exact Br hE hM I n0 h0 hI
 |false=>rw[hb] at hh;exact hE.loop _ _ _ _ _ _ _ hh
def Dq(n:Nat)(r:AV)(st:List Obj)(K:AV->List Obj->Prop):Prop:=
 aO (oz n st (refs r) (gf n st (refs r))) (uD (kD (fun i=>jn i (gf n st (refs r)) 0) r) fun r'=>sR (gJ (fun i=>jn i (gf n st (refs r)) 0) (gQ st (gf n st (refs r)))) fun st'=>K r' st')
def QE(P:Program)(Ts:List TypeId)(n:Nat)(r:AV)(st:List Obj)(K:AV->List Obj->Prop):Prop:=
 match bV st r with
 |some r'=>Dq n (Hf P Ts r') (cQ st (rowsOf r)) K
 |none=>Dq n r st K
def KQ(P:Program)(own:Bool)(Ts:List TypeId)(n:Nat)(r:AV)(st:List Obj)(K:AV->List Obj->Prop):Prop:=
 match own with
 |true=>Dq n r st K
 |false=>QE P Ts n r st K
def bg(E:Env)(N:Nat)(f:FuncId)(args:List AV)(st:List Obj)(K:AV->List Obj->Prop):Prop:=
 match E.P.funcs[f]? with
 | some fn=>
  (match fn.body with
   | some c=>
    vc E N f none st.length c {a9:=args++bK (fn.ntmps - args.length),st} fun e s=>
     match e with
     | .normal| .ret=>(match sX E.P s fn.results.toList with|some l=>KQ E.P (E.fresh f) fn.resultTypes.toList st.length (lK l) s.st K|none=>False)
     |_=>False
   |none=>False)
 |none=>False
theorem q8{C C':Ctx}{n:Nat}{r:AV}{v:Value}{K:AV->List Obj->Prop}(hI:Inv C')(hP:C'.P=C.P)(he:Ext n C C')(hr:Rel C' r v)(h:Dq n r C'.st K):dX C n K (.returned v) C'.w:=by
 obtain⟨h1,h2⟩:=au.1 h
 simp only[nI,la] at h2
 obtain⟨g1,g2,g3⟩:=vf hI h1
 refine⟨v,_,C'.by (gf n C'.st (refs r)),rfl,rfl,hP,g1,hr.move g2.keeps hI.lay _ (fun i hi _=>?_),he.trans g2 (Nat.le_refl _),h2⟩
 obtain⟨j,hj⟩:=g3 i hi
 exact⟨j,hj,lb hj⟩
theorem G4{C:Ctx}{n:Nat}{P:Pg}(hPC:C.P=P){own:Bool}{Ts:List TypeId}{K:AV->List Obj->Prop}{e:Ending}{w:World}(h:dX C n (fun r st=>KQ P own Ts n r st K) e w):dX C n K e w:=by
 obtain⟨v,r,C',rfl,rfl,hP,hI,hr,he,hK⟩:=h
 unfold KQ at hK
 cases own with
 |true=>exact q8 hI hP he hr hK
 |false=>
 unfold QE at hK
 simp only at hK
 split at hK
 ·rename_i r' hp
  obtain⟨C1,f1,f2,f3,f4,f5,f6,f7⟩:=nW hI hp hr
  rw[←f1] at hK
  have f6:=Fl f4 (Ts:=Ts) f6
  rw[(f5.P.trans hP).trans hPC] at f6
  have:=q8 f4 (f5.P.trans hP) (he.trans (f5.mono he.len) (Nat.le_refl _)) f6 hK
  rw[f2] at this;exact this
 ·exact q8 hI hP he hr hK
theorem gL{E:Env}(hE:aC E)(hM:ai E){N:Nat}{f:FuncId}{args:List AV}{st:List Obj}{K:AV->List Obj->Prop}(h:bg E N f args st K):dj E.P f args st K:=by
 unfold bg at h
 split at h<;>try exact h.elim
 rename_i fn hf
 split at h<;>try exact h.elim
 rename_i c hc
 refine⟨⟨fn,hf,by rw[hc];rfl⟩,fun C vs hC hI hst hm=>?_⟩
 subst hst
 have:=s8 (K:=fun r st=>KQ E.P (E.fresh f) fn.resultTypes.toList C.st.length r st K) hf hc hC hI hm (wV hE hM N _ _ _ _ _ _ h) 0
 exact this.mono (fun e w' he=>G4 hC he)
def bz(E:Env)(N f:Nat)(sp:cX):Prop:=∀args st K,sp args st K->bg E N f args st K
def Env.aw(E:Env)(f:Nat)(sp:cX):Env:=
 {E with call:=fun g args st K=>bif Nat.beq g f then sp args st K else E.call g args st K}
theorem ai.aw{E:Env}(hM:ai E){f:Nat}{sp:cX}(hs:sp.jI):ai (E.aw f sp):=by
 refine⟨fun g args st K K' hK h=>?_,hM.loop,hM.jO⟩
 simp only[Env.aw] at h⊢
 cases hb:Nat.beq g f with
 |true=>rw[hb] at h;exact hs _ _ _ _ hK h
 |false=>rw[hb] at h;exact hM.call _ _ _ _ _ hK h
theorem aC.me{E:Env}(hE:aC E){f:Nat}{sp:cX}(h: ∀args st K,sp args st K->dj E.P f args st K):aC (E.aw f sp):=by
 refine⟨hE.prog,hE.gY,fun g args st K hh=>?_,hE.jO,hE.loop⟩
 simp only[Env.aw] at hh
 cases hb:Nat.beq g f with
 |true=>
  rw[hb] at hh
  obtain rfl:=Nat.eq_of_beq_eq_true hb
  exact h _ _ _ hh
 |false=>rw[hb] at hh;exact hE.call _ _ _ _ hh
theorem aC.aw{E:Env}(hE:aC E)(hM:ai E){N f:Nat}{sp:cX}(h:bz E N f sp):aC (E.aw f sp):=
 hE.me fun _ _ _ hh=>gL hE hM (h _ _ _ hh)
def yu(l:List AV):Bool:=match cB l with|[]=>true|_=>false
def Env.aF(E:Env)(f:Nat)(g:List AV->Option (Bool×AV)):Env:=
 {E with gY:=fun h as=>bif Nat.beq h f then(bif yu as then g as else none) else E.gY h as}
def cy(E:Env)(N f:Nat)(g:List AV->Option (Bool×AV)):Prop:=
 ∀as x,g as=some (true,x)->∃u,x= .lit u/\a0 u=true/\bg E N f as [] (fun r _=>r= .lit u)
theorem ai.aF{E:Env}(hM:ai E){f:Nat}{g:List AV->Option (Bool×AV)}:ai (E.aF f g):=⟨hM.call,hM.loop,hM.jO⟩
def gr(P:Pg)(f:Nat)(g:List AV->Option (Bool×AV)):Prop:=
 ∀as x,yu as=true->g as=some (true,x)->∃fn u,P.funcs[f]? =some fn/\fn.body.isSome=true/\x= .lit u/\a0 u=true/\
  ∀(C:Ctx) (vs:Array Value),C.P=P->Inv C->MT C as vs.toList->CallsIn Fence.wide 0 P f vs C.w (fun e w'=>e= .returned u/\gm C.w w')
theorem mZ{E:Env}(hE:aC E)(hM:ai E){N f:Nat}{g:List AV->Option (Bool×AV)}(h:cy E N f g):gr E.P f g:=by
 intro as x hn hh
 obtain⟨u,rfl,hu,hf⟩:=h as x hh
 obtain⟨⟨fn,k1,k2⟩,k3⟩:=gL hE hM hf
 refine⟨fn,u,k1,k2,rfl,hu,fun C vs hC hI hm=>?_⟩
 have hrefs:cB as=[]:=by
  unfold yu at hn
  split at hn
  ·assumption
  ·cases hn
 have hk:bG C {C with st:=[]}:=⟨rfl,fun _ h=>h,fun _ _=>rfl⟩
 have hI0:Inv {C with st:=[]}:=⟨hI.lay,fun i hi=>by simp at hi,fun i j hi=>by simp at hi,hI.xs,fun i hi=>by simp at hi,hI.oe,hI.kept⟩
 have hm0:=lF (C':={C with st:=[]}) hk hI.lay some as vs.toList (fun i hi=>by rw[hrefs] at hi;simp at hi) hm
 rw[gI] at hm0
 refine(k3 {C with st:=[]} vs hC hI0 rfl hm0).mono ?_
 rintro e w' ⟨v,r,C',rfl,rfl,hP,hI',hr,he,rfl⟩
 have:=aL hr
 subst this
 exact⟨rfl,he.size,he.os,he.tape,he.output,fun b hb=>he.frame b hb (fun⟨i,hi,_⟩=>by simp at hi)⟩
theorem aC.eK{E:Env}(hE:aC E){f:Nat}{g:List AV->Option (Bool×AV)}(h:gr E.P f g):aC (E.aF f g):=by
 refine⟨hE.prog,fun k as x hh=>?_,hE.call,hE.jO,hE.loop⟩
 simp only[Env.aF] at hh
 cases hb:Nat.beq k f with
 |false=>rw[hb] at hh;exact hE.gY k as x hh
 | true=>
  obtain rfl:=Nat.eq_of_beq_eq_true hb
  rw[hb] at hh
  cases hn:yu as with
  |false=>rw[hn] at hh;simp at hh
  |true=>
   rw[hn] at hh
   obtain⟨fn,u,h1,h2,h3,h4,h5⟩:=h as x hn hh
   exact⟨fn,h1,h2, .inl ⟨u,h3,h4,h5⟩⟩
def Env.eE(E:Env)(f:Nat)(g:List AV->Option (Bool×AV)):Env:=
 {E with gY:=fun h as=>bif Nat.beq h f then(bif s9 as then g as else none) else E.gY h as}
def sq(E:Env)(N f:Nat)(g:List AV->Option (Bool×AV)):Prop:=
 ∀as x,g as=some (true,x)->refs x=[]/\bg E N f as [] (fun r _=>r=x)
theorem ai.eE{E:Env}(hM:ai E){f:Nat}{g:List AV->Option (Bool×AV)}:ai (E.eE f g):=⟨hM.call,hM.loop,hM.jO⟩
theorem aC.eE{E:Env}(hE:aC E)(hM:ai E){N f:Nat}{g:List AV->Option (Bool×AV)}(h:sq E N f g):aC (E.eE f g):=by
 refine⟨hE.prog,fun k as x hh=>?_,hE.call,hE.jO,hE.loop⟩
 simp only[Env.eE] at hh
 cases hb:Nat.beq k f with
 |false=>rw[hb] at hh;exact hE.gY k as x hh
 | true=>
  obtain rfl:=Nat.eq_of_beq_eq_true hb
  rw[hb] at hh
  cases hn:s9 as with
  |false=>rw[hn] at hh;simp at hh
  |true=>
   rw[hn] at hh
   obtain⟨hx,hf⟩:=h as x hh
   obtain⟨⟨fn,k1,k2⟩,k3⟩:=gL hE hM hf
   refine⟨fn,k1,k2, .inr ⟨rfl,hx,fun C vs hC hI hm=>?_⟩⟩
   refine(k3 C.bare vs hC (HY hI) rfl (xu _ _ hn hm)).mono ?_
   rintro e w' ⟨v,r,C',rfl,rfl,hP,hI',hr,he,rfl⟩
   exact⟨v,C',rfl,rfl,hP,hI',hr,he⟩
theorem aC.aF{E:Env}(hE:aC E)(hM:ai E){N f:Nat}{g:List AV->Option (Bool×AV)}(h:cy E N f g):aC (E.aF f g):=
 hE.eK (mZ hE hM h)
def below(g:List AV->Option (Bool×AV))(μ:List AV->Nat)(n:Nat)(as:List AV):Option (Bool×AV):=
 match g as with
 |some (c,x)=>some (c&&Nat.blt (μ as) n,x)
 |none=>none
theorem aC.ua{P:Pg}{f:Nat}(g:List AV->Option (Bool×AV))(μ:List AV->Nat){N:Nat}(ext:Nat->Env)
  (hext: ∀n,gr P f (below g μ n)->aC (ext n)/\ai (ext n)/\(ext n).P=P) (h: ∀n,cy (ext n) N f (fun as=>bif Nat.beq (μ as) n then g as else none)):gr P f g:=by
 have key: ∀n,gr P f (fun as=>bif Nat.beq (μ as) n then g as else none):=by
  intro n
  induction n using Nat.strongRecOn with
  | _ n ih=>
   have hb:gr P f (below g μ n):=by
    intro as x hn hh
    unfold below at hh
    split at hh
    ·rename_i c y hg
     simp only[aa3,aa9,aa1] at hh
     obtain⟨⟨rfl,hlt⟩,rfl⟩:=hh
     refine ih (μ as) (by simpa[Nat.blt_eq] using hlt) as _ hn ?_
     simp only
     rw[show Nat.beq (μ as) (μ as)=true from Nat.beq_refl _]
     exact hg
    ·cases hh
   obtain⟨h1,h2,h3⟩:=hext n hb
   have:=mZ h1 h2 (h n)
   rwa [h3] at this
 intro as x hn hh
 refine key (μ as) as x hn ?_
 simp only
 rw[show Nat.beq (μ as) (μ as)=true from Nat.beq_refl _]
 exact hh
def Env.none(P:Pg)(live:FuncId->Nat->List (Nat×Option TypeId))(inl own quiet:FuncId->Bool):Env:=
 {P,call:=fun _ _ _ _=>False,gY:=fun _ _=>Option.none,loop:=fun _ _ _ _ _ _ _=>False,jO:=fun _ _ _ _ _ _=>False,gen:=fun _=>false,inl,live,own,quiet}
def Env.iG(E:Env)(fresh:FuncId->Bool):Env:={E with fresh:=fresh}
def Env.kf(E:Env)(calm:FuncId->Bool):Env:={E with calm:=calm}
theorem aC.kf{E:Env}(hE:aC E)(calm:FuncId->Bool):aC (E.kf calm):=⟨hE.prog,hE.gY,hE.call,hE.jO,hE.loop⟩
theorem ai.kf{E:Env}(hM:ai E)(calm:FuncId->Bool):ai (E.kf calm):=⟨hM.call,hM.loop,hM.jO⟩
theorem aC.iG{E:Env}(hE:aC E)(fresh:FuncId->Bool):aC (E.iG fresh):=⟨hE.prog,hE.gY,hE.call,hE.jO,hE.loop⟩
theorem ai.iG{E:Env}(hM:ai E)(fresh:FuncId->Bool):ai (E.iG fresh):=⟨hM.call,hM.loop,hM.jO⟩
theorem aC.none{P:Pg}(hP:oX P){live:FuncId->Nat->List (Nat×Option TypeId)}{inl own quiet:FuncId->Bool}:aC (Env.none P live inl own quiet):=
 ⟨hP,fun _ _ _ h=>by simp[Env.none] at h,fun _ _ _ _ h=>h.elim,fun _ _ _ _ _ _ h=>h.elim,fun _ _ _ _ _ _ _ h=>h.elim⟩
theorem ai.none{P:Pg}{live:FuncId->Nat->List (Nat×Option TypeId)}{inl own quiet:FuncId->Bool}:ai (Env.none P live inl own quiet):=
 ⟨fun _ _ _ _ _ _ h=>h,fun _ _ _ _ _ _ _ _ _ h=>h,fun _ _ _ _ _ _ _ _ h=>h⟩
end Go.Dn
