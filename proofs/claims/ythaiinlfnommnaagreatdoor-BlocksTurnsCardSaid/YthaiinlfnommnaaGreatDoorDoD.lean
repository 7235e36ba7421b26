import Derived.Test.YthaiinlfnommnaaGreatDoorDoC
import Derived.Sort.LoopGhostIn
namespace Go.Dn
open Go
def ke(k:Nat):Exit->Nat
 | .exit id=>1000*(k+1)+2+id
 |_=>1000*(k+1)+1
def bJ(E:Env)(f k base:Nat)(I:Nat->S->Prop)(n:Nat)(K:Exit->S->Prop):Exit->S->Prop
 | .normal,s=>a7 (jB E.P (E.live f k) base s) (BY (canon E.P (E.live f k) base s) fun s'=>∃m,m<n/\I m s')
 |e,s=>a7 (jB E.P (E.live f (ke k e)) base s) (BY (canon E.P (E.live f (ke k e)) base s) fun s'=>K e s')
def Ms(E:Env)(f k base:Nat)(I:Nat->S->Prop)(n:Nat)(K:Exit->S->Prop):Exit->S->Prop
 | .normal,s=>a7 (jB E.P (E.live f k) base s) (∃m,m<n/\I m (canon E.P (E.live f k) base s))
 |e,s=>a7 (jB E.P (E.live f (ke k e)) base s) (K e (canon E.P (E.live f (ke k e)) base s))
theorem La{E:Env}{f k base:Nat}{I:Nat->S->Prop}{n:Nat}{K:Exit->S->Prop}:bJ E f k base I n K=Ms E f k base I n K:=by
 funext e s
 cases e<;>simp only[bJ,Ms,lg]
theorem D0{E:Env}(hE:aB E)(hM:aj E){N f k:Nat}{c:Code}{rd:Option Nat}{base:Nat}{s:S}{K:Exit->S->Prop}(I:Nat->S->Prop)(n0:Nat)(h0:I n0 s)
  (h: ∀n s',I n s'->vc E N f rd base c s' (bJ E f k base I n K)):Sound E.P rd base (.loop c) s K:=by
 simp only[La] at h
 intro C a F n lo hC hI hs hd hlo hb hF
 refine wpIn_loop_ghost (fun m a w=>∃C' s',C'.w=w/\C'.P=C.P/\Inv C'/\dt C' s' a/\hJ lo C' a.defers/\base<=s'.st.length/\Ext base C C'/\I m s') n0
  ⟨C,s,rfl,rfl,hI,hs,hd,hb,Ext.refl C (by rw[hs.st];exact hb),h0⟩ ?_
 rintro m a w ⟨C',s',rfl,hP',hI',hs',hd',hb',he',hm⟩
 refine wpIn_mono (yp hE hM N _ _ _ _ _ _ (h m s' hm) C' a F n lo (hP'.trans hC) hI' hs' hd' (Nat.le_trans hlo he'.size) hb' (hF.ext he')) ?_
 intro e a2 w2 hp
 have out: ∀{e:Exit},eQ lo base C' (fun e s=>a7 (jB E.P (E.live f (ke k e)) base s) (K e (canon E.P (E.live f (ke k e)) base s))) e a2 w2->eQ lo base C K e a2 w2:=by
  rintro e ⟨C2,s2,rfl,hP2,hI2,hs2,hd2,hb2,he2,hk⟩
  obtain⟨hk1,hk2⟩:=an.1 hk
  obtain⟨C3,k1,k2,k3,k4,k5⟩:=uW E.P (E.live f (ke k e)) hI2 hs2 hb2 hk1
  exact⟨C3,_,k1,k4.P.trans (hP2.trans hP'),k2,k3,hd2.ext k4,k5,(he'.trans he2 (Nat.le_refl _)).trans k4 (Nat.le_refl _),hk2⟩
 cases e with
 |normal=>
  obtain⟨C2,s2,rfl,hP2,hI2,hs2,hd2,hb2,he2,hk⟩:=hp
  obtain⟨hk1,m',hlt,hi⟩:=an.1 hk
  obtain⟨C3,k1,k2,k3,k4,k5⟩:=uW E.P (E.live f k) hI2 hs2 hb2 hk1
  exact⟨m',hlt,C3,_,k1,k4.P.trans (hP2.trans hP'),k2,k3,hd2.ext k4,k5,(he'.trans he2 (Nat.le_refl _)).trans k4 (Nat.le_refl _),hi⟩
 |exit id=>exact out hp
 |goto l=>exact out hp
 |ret=>exact out hp
 |panic ch=>exact out hp
 |outgrown=>exact out hp
def As:Option Code->Option Code->Option Code
 |some c,_=>some c
 |none,d=>d
def hH(k:Nat):Code->Option Code
 | .loop c=>(match lD c with|some n=>(bif Nat.beq n k then some c else hH k c)|none=>hH k c)
 | .seq a b=>As (hH k a) (hH k b)
 | .cond _ a b=>As (hH k a) (hH k b)
 | .block _ c| .scope c=>hH k c
 | .rangeFunc _ _ a b=>As (hH k a) (hH k b)
 |_=>none
def af(P:Program)(f k:Nat):Code:=
 match P.funcs[f]? with
 |some fn=>(match fn.body with|some c=>(match hH k c with|some d=>d|none=> .skip)|none=> .skip)
 |none=> .skip
abbrev fO:=Option Nat->Nat->S->(Exit->S->Prop)->Prop
abbrev dr:=List AV->List Obj->(AV->List Obj->Prop)->Prop
def fO.jf(sp:fO):Prop:=∀rd base s (K K':Exit->S->Prop),(∀e s,K e s->K' e s)->sp rd base s K->sp rd base s K'
def dr.jf(sp:dr):Prop:=∀args st (K K':AV->List Obj->Prop),(∀a st,K a st->K' a st)->sp args st K->sp args st K'
def bj(E:Env)(N f k:Nat)(sp:fO):Prop:=
 ∀rd base s K,sp rd base s K->∃(I:Nat->S->Prop) (n0:Nat),I n0 s/\∀n s',I n s'->vc E N f rd base (af E.P f k) s' (bJ E f k base I n K)
def Env.ak(E:Env)(f k:Nat)(sp:fO):Env:=
 {E with loop:=fun g j c rd base s K=>bif Nat.beq g f&&Nat.beq j k then c=af E.P f k/\sp rd base s K else E.loop g j c rd base s K}
theorem aj.ak{E:Env}(hM:aj E){f k:Nat}{sp:fO}(hs:sp.jf):aj (E.ak f k sp):=by
 refine⟨hM.call,fun g j c rd base s K K' hK h=>?_,hM.kZ⟩
 simp only[Env.ak] at h⊢
 cases hb:(Nat.beq g f&&Nat.beq j k) with
 |true=>rw[hb] at h;exact⟨h.1,hs _ _ _ _ _ hK h.2⟩
 |false=>rw[hb] at h;exact hM.loop _ _ _ _ _ _ _ _ hK h
theorem aB.ak{E:Env}(hE:aB E)(hM:aj E){N f k:Nat}{sp:fO}(h:bj E N f k sp):aB (E.ak f k sp):=by
 refine⟨hE.prog,hE.gQ,hE.call,hE.kZ,fun g j c rd base s K hh=>?_⟩
 simp only[Env.ak] at hh
 cases hb:(Nat.beq g f&&Nat.beq j k) with
 |true=>
  rw[hb] at hh
  obtain⟨rfl,hsp⟩:=hh
  obtain⟨I,n0,h0,hI⟩:=h _ _ _ _ hsp
  exact D0 hE hM I n0 h0 hI
 |false=>rw[hb] at hh;exact hE.loop _ _ _ _ _ _ _ hh
def Gg(n:Nat)(r:AV)(st:List Obj)(K:AV->List Obj->Prop):Prop:=
 a7 (pj n st (refs r) (ic n st (refs r))) (vE (lB (fun i=>jL i (ic n st (refs r)) 0) r) fun r'=>wz (gq (fun i=>jL i (ic n st (refs r)) 0) (gR st (ic n st (refs r)))) fun st'=>K r' st')
def TC(P:Program)(Ts:List TypeId)(n:Nat)(r:AV)(st:List Obj)(K:AV->List Obj->Prop):Prop:=
 match ck st r with
 |some r'=>Gg n (KP P Ts r') (cP st (rowsOf r)) K
 |none=>Gg n r st K
def NA(P:Program)(own:Bool)(Ts:List TypeId)(n:Nat)(r:AV)(st:List Obj)(K:AV->List Obj->Prop):Prop:=
 match own with
 |true=>Gg n r st K
 |false=>TC P Ts n r st K
def ba(E:Env)(N:Nat)(f:FuncId)(args:List AV)(st:List Obj)(K:AV->List Obj->Prop):Prop:=
 match E.P.funcs[f]? with
 | some fn=>
  (match fn.body with
   | some c=>
    vc E N f none st.length c {bp:=args++bF (fn.ntmps - args.length),st} fun e s=>
     match e with
     | .normal| .ret=>(match ug E.P s fn.results.toList with|some l=>NA E.P (E.fresh f) fn.resultTypes.toList st.length (mg l) s.st K|none=>False)
     |_=>False
   |none=>False)
 |none=>False
theorem rF{C C':Ctx}{n:Nat}{r:AV}{v:Value}{K:AV->List Obj->Prop}(hI:Inv C')(hP:C'.P=C.P)(he:Ext n C C')(hr:Rel C' r v)(h:Gg n r C'.st K):eK C n K (.returned v) C'.w:=by
 obtain⟨h1,h2⟩:=an.1 h
 simp only[mL,kF] at h2
 obtain⟨g1,g2,g3⟩:=vd hI h1
 refine⟨v,_,C'.by (ic n C'.st (refs r)),rfl,rfl,hP,g1,hr.move g2.keeps hI.lay _ (fun i hi _=>?_),he.trans g2 (Nat.le_refl _),h2⟩
 obtain⟨j,hj⟩:=g3 i hi
 exact⟨j,hj,ma hj⟩
theorem K0{C:Ctx}{n:Nat}{P:Pg}(hPC:C.P=P){own:Bool}{Ts:List TypeId}{K:AV->List Obj->Prop}{e:Ending}{w:World}(h:eK C n (fun r st=>NA P own Ts n r st K) e w):eK C n K e w:=by
 obtain⟨v,r,C',rfl,rfl,hP,hI,hr,he,hK⟩:=h
 unfold NA at hK
 cases own with
 |true=>exact rF hI hP he hr hK
 |false=>
 unfold TC at hK
 simp only at hK
 split at hK
 ·rename_i r' hp
  obtain⟨C1,f1,f2,f3,f4,f5,f6,f7⟩:=oD hI hp hr
  rw[←f1] at hK
  have f6:=H2 f4 (Ts:=Ts) f6
  rw[(f5.P.trans hP).trans hPC] at f6
  have:=rF f4 (f5.P.trans hP) (he.trans (f5.mono he.len) (Nat.le_refl _)) f6 hK
  rw[f2] at this;exact this
 ·exact rF hI hP he hr hK
theorem iB{E:Env}(hE:aB E)(hM:aj E){N:Nat}{f:FuncId}{args:List AV}{st:List Obj}{K:AV->List Obj->Prop}(h:ba E N f args st K):cM E.P f args st K:=by
 unfold ba at h
 split at h<;>try exact h.elim
 rename_i fn hf
 split at h<;>try exact h.elim
 rename_i c hc
 refine⟨⟨fn,hf,by rw[hc];rfl⟩,fun C vs hC hI hst hm=>?_⟩
 subst hst
 have:=vt (K:=fun r st=>NA E.P (E.fresh f) fn.resultTypes.toList C.st.length r st K) hf hc hC hI hm (yp hE hM N _ _ _ _ _ _ h) 0
 exact this.mono (fun e w' he=>K0 hC he)
def bu(E:Env)(N f:Nat)(sp:dr):Prop:=∀args st K,sp args st K->ba E N f args st K
def Env.aw(E:Env)(f:Nat)(sp:dr):Env:=
 {E with call:=fun g args st K=>bif Nat.beq g f then sp args st K else E.call g args st K}
theorem aj.aw{E:Env}(hM:aj E){f:Nat}{sp:dr}(hs:sp.jf):aj (E.aw f sp):=by
 refine⟨fun g args st K K' hK h=>?_,hM.loop,hM.kZ⟩
 simp only[Env.aw] at h⊢
 cases hb:Nat.beq g f with
 |true=>rw[hb] at h;exact hs _ _ _ _ hK h
 |false=>rw[hb] at h;exact hM.call _ _ _ _ _ hK h
theorem aB.gU{E:Env}(hE:aB E){f:Nat}{sp:dr}(h: ∀args st K,sp args st K->cM E.P f args st K):aB (E.aw f sp):=by
 refine⟨hE.prog,hE.gQ,fun g args st K hh=>?_,hE.kZ,hE.loop⟩
 simp only[Env.aw] at hh
 cases hb:Nat.beq g f with
 |true=>
  rw[hb] at hh
  obtain rfl:=Nat.eq_of_beq_eq_true hb
  exact h _ _ _ hh
 |false=>rw[hb] at hh;exact hE.call _ _ _ _ hh
theorem aB.aw{E:Env}(hE:aB E)(hM:aj E){N f:Nat}{sp:dr}(h:bu E N f sp):aB (E.aw f sp):=
 hE.gU fun _ _ _ hh=>iB hE hM (h _ _ _ hh)
def zQ(l:List AV):Bool:=match cZ l with|[]=>true|_=>false
def Env.aH(E:Env)(f:Nat)(g:List AV->Option (Bool×AV)):Env:=
 {E with gQ:=fun h as=>bif Nat.beq h f then(bif zQ as then g as else none) else E.gQ h as}
def cQ(E:Env)(N f:Nat)(g:List AV->Option (Bool×AV)):Prop:=
 ∀as x,g as=some (true,x)->∃u,x= .lit u/\bg u=true/\ba E N f as [] (fun r _=>r= .lit u)
theorem aj.aH{E:Env}(hM:aj E){f:Nat}{g:List AV->Option (Bool×AV)}:aj (E.aH f g):=⟨hM.call,hM.loop,hM.kZ⟩
def iu(P:Pg)(f:Nat)(g:List AV->Option (Bool×AV)):Prop:=
 ∀as x,zQ as=true->g as=some (true,x)->∃fn u,P.funcs[f]? =some fn/\fn.body.isSome=true/\x= .lit u/\bg u=true/\
  ∀(C:Ctx) (vs:Array Value),C.P=P->Inv C->MT C as vs.toList->CallsIn Fence.wide 0 P f vs C.w (fun e w'=>e= .returned u/\gP C.w w')
theorem nY{E:Env}(hE:aB E)(hM:aj E){N f:Nat}{g:List AV->Option (Bool×AV)}(h:cQ E N f g):iu E.P f g:=by
 intro as x hn hh
 obtain⟨u,rfl,hu,hf⟩:=h as x hh
 obtain⟨⟨fn,k1,k2⟩,k3⟩:=iB hE hM hf
 refine⟨fn,u,k1,k2,rfl,hu,fun C vs hC hI hm=>?_⟩
 have hrefs:cZ as=[]:=by
  unfold zQ at hn
  split at hn
  ·assumption
  ·cases hn
 have hk:bR C {C with st:=[]}:=⟨rfl,fun _ h=>h,fun _ _=>rfl⟩
 have hI0:Inv {C with st:=[]}:=⟨hI.lay,fun i hi=>by simp at hi,fun i j hi=>by simp at hi,hI.xs,fun i hi=>by simp at hi,hI.oX,hI.kept⟩
 have hm0:=kc (C':={C with st:=[]}) hk hI.lay some as vs.toList (fun i hi=>by rw[hrefs] at hi;simp at hi) hm
 rw[fq] at hm0
 refine(k3 {C with st:=[]} vs hC hI0 rfl hm0).mono ?_
 rintro e w' ⟨v,r,C',rfl,rfl,hP,hI',hr,he,rfl⟩
 have:=aQ hr
 subst this
 exact⟨rfl,he.size,he.os,he.tape,he.output,fun b hb=>he.frame b hb (fun⟨i,hi,_⟩=>by simp at hi)⟩
theorem aB.fj{E:Env}(hE:aB E){f:Nat}{g:List AV->Option (Bool×AV)}(h:iu E.P f g):aB (E.aH f g):=by
 refine⟨hE.prog,fun k as x hh=>?_,hE.call,hE.kZ,hE.loop⟩
 simp only[Env.aH] at hh
 cases hb:Nat.beq k f with
 |false=>rw[hb] at hh;exact hE.gQ k as x hh
 | true=>
  obtain rfl:=Nat.eq_of_beq_eq_true hb
  rw[hb] at hh
  cases hn:zQ as with
  |false=>rw[hn] at hh;simp at hh
  |true=>
   rw[hn] at hh
   obtain⟨fn,u,h1,h2,h3,h4,h5⟩:=h as x hn hh
   exact⟨fn,h1,h2, .inl ⟨u,h3,h4,h5⟩⟩
def Env.fe(E:Env)(f:Nat)(g:List AV->Option (Bool×AV)):Env:=
 {E with gQ:=fun h as=>bif Nat.beq h f then(bif wo as then g as else none) else E.gQ h as}
def qP(E:Env)(N f:Nat)(g:List AV->Option (Bool×AV)):Prop:=
 ∀as x,g as=some (true,x)->refs x=[]/\ba E N f as [] (fun r _=>r=x)
theorem aj.fe{E:Env}(hM:aj E){f:Nat}{g:List AV->Option (Bool×AV)}:aj (E.fe f g):=⟨hM.call,hM.loop,hM.kZ⟩
theorem aB.fe{E:Env}(hE:aB E)(hM:aj E){N f:Nat}{g:List AV->Option (Bool×AV)}(h:qP E N f g):aB (E.fe f g):=by
 refine⟨hE.prog,fun k as x hh=>?_,hE.call,hE.kZ,hE.loop⟩
 simp only[Env.fe] at hh
 cases hb:Nat.beq k f with
 |false=>rw[hb] at hh;exact hE.gQ k as x hh
 | true=>
  obtain rfl:=Nat.eq_of_beq_eq_true hb
  rw[hb] at hh
  cases hn:wo as with
  |false=>rw[hn] at hh;simp at hh
  |true=>
   rw[hn] at hh
   obtain⟨hx,hf⟩:=h as x hh
   obtain⟨⟨fn,k1,k2⟩,k3⟩:=iB hE hM hf
   refine⟨fn,k1,k2, .inr ⟨rfl,hx,fun C vs hC hI hm=>?_⟩⟩
   refine(k3 C.bare vs hC (I6 hI) rfl (zm _ _ hn hm)).mono ?_
   rintro e w' ⟨v,r,C',rfl,rfl,hP,hI',hr,he,rfl⟩
   exact⟨v,C',rfl,rfl,hP,hI',hr,he⟩
theorem aB.aH{E:Env}(hE:aB E)(hM:aj E){N f:Nat}{g:List AV->Option (Bool×AV)}(h:cQ E N f g):aB (E.aH f g):=
 hE.fj (nY hE hM h)
def below(g:List AV->Option (Bool×AV))(μ:List AV->Nat)(n:Nat)(as:List AV):Option (Bool×AV):=
 match g as with
 |some (c,x)=>some (c&&Nat.blt (μ as) n,x)
 |none=>none
theorem aB.vH{P:Pg}{f:Nat}(g:List AV->Option (Bool×AV))(μ:List AV->Nat){N:Nat}(ext:Nat->Env)
  (hext: ∀n,iu P f (below g μ n)->aB (ext n)/\aj (ext n)/\(ext n).P=P) (h: ∀n,cQ (ext n) N f (fun as=>bif Nat.beq (μ as) n then g as else none)):iu P f g:=by
 have key: ∀n,iu P f (fun as=>bif Nat.beq (μ as) n then g as else none):=by
  intro n
  induction n using Nat.strongRecOn with
  | _ n ih=>
   have hb:iu P f (below g μ n):=by
    intro as x hn hh
    unfold below at hh
    split at hh
    ·rename_i c y hg
     simp only[aa4,ab0,aa2] at hh
     obtain⟨⟨rfl,hlt⟩,rfl⟩:=hh
     refine ih (μ as) (by simpa[Nat.blt_eq] using hlt) as _ hn ?_
     simp only
     rw[show Nat.beq (μ as) (μ as)=true from Nat.beq_refl _]
     exact hg
    ·cases hh
   obtain⟨h1,h2,h3⟩:=hext n hb
   have:=nY h1 h2 (h n)
   rwa [h3] at this
 intro as x hn hh
 refine key (μ as) as x hn ?_
 simp only
 rw[show Nat.beq (μ as) (μ as)=true from Nat.beq_refl _]
 exact hh
def Env.none(P:Pg)(live:FuncId->Nat->List (Nat×Option TypeId))(inl own quiet:FuncId->Bool):Env:=
 {P,call:=fun _ _ _ _=>False,gQ:=fun _ _=>Option.none,loop:=fun _ _ _ _ _ _ _=>False,kZ:=fun _ _ _ _ _ _=>False,gen:=fun _=>false,inl,live,own,quiet}
def Env.jt(E:Env)(fresh:FuncId->Bool):Env:={E with fresh:=fresh}
def Env.iM(E:Env)(calm:FuncId->Bool):Env:={E with calm:=calm}
theorem aB.iM{E:Env}(hE:aB E)(calm:FuncId->Bool):aB (E.iM calm):=⟨hE.prog,hE.gQ,hE.call,hE.kZ,hE.loop⟩
theorem aj.iM{E:Env}(hM:aj E)(calm:FuncId->Bool):aj (E.iM calm):=⟨hM.call,hM.loop,hM.kZ⟩
theorem aB.jt{E:Env}(hE:aB E)(fresh:FuncId->Bool):aB (E.jt fresh):=⟨hE.prog,hE.gQ,hE.call,hE.kZ,hE.loop⟩
theorem aj.jt{E:Env}(hM:aj E)(fresh:FuncId->Bool):aj (E.jt fresh):=⟨hM.call,hM.loop,hM.kZ⟩
theorem aB.none{P:Pg}(hP:pJ P){live:FuncId->Nat->List (Nat×Option TypeId)}{inl own quiet:FuncId->Bool}:aB (Env.none P live inl own quiet):=
 ⟨hP,fun _ _ _ h=>by simp[Env.none] at h,fun _ _ _ _ h=>h.elim,fun _ _ _ _ _ _ h=>h.elim,fun _ _ _ _ _ _ _ h=>h.elim⟩
theorem aj.none{P:Pg}{live:FuncId->Nat->List (Nat×Option TypeId)}{inl own quiet:FuncId->Bool}:aj (Env.none P live inl own quiet):=
 ⟨fun _ _ _ _ _ _ h=>h,fun _ _ _ _ _ _ _ _ _ h=>h,fun _ _ _ _ _ _ _ _ h=>h⟩
end Go.Dn
