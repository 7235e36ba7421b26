import Derived.Test.YthaiinlfnommnaaGreatDoorDoC
import Derived.Sort.LoopGhostIn
namespace Go.Dn
open Go
def j6(k:Nat):Exit->Nat
 | .exit id=>1000*(k+1)+2+id
 |_=>1000*(k+1)+1
def bH(E:Env)(f k base:Nat)(I:Nat->S->Prop)(n:Nat)(K:Exit->S->Prop):Exit->S->Prop
 | .normal,s=>a7 (jn E.P (E.live f k) base s) (Bt (canon E.P (E.live f k) base s) fun s'=>∃m,m<n/\I m s')
 |e,s=>a7 (jn E.P (E.live f (j6 k e)) base s) (Bt (canon E.P (E.live f (j6 k e)) base s) fun s'=>K e s')
def Jg(E:Env)(f k base:Nat)(I:Nat->S->Prop)(n:Nat)(K:Exit->S->Prop):Exit->S->Prop
 | .normal,s=>a7 (jn E.P (E.live f k) base s) (∃m,m<n/\I m (canon E.P (E.live f k) base s))
 |e,s=>a7 (jn E.P (E.live f (j6 k e)) base s) (K e (canon E.P (E.live f (j6 k e)) base s))
theorem Js{E:Env}{f k base:Nat}{I:Nat->S->Prop}{n:Nat}{K:Exit->S->Prop}:bH E f k base I n K=Jg E f k base I n K:=by
 funext e s
 cases e<;>simp only[bH,Jg,kV]
theorem D0{E:Env}(hE:aB E)(hM:aj E){N f k:Nat}{c:Code}{rd:Option Nat}{base:Nat}{s:S}{K:Exit->S->Prop}(I:Nat->S->Prop)(n0:Nat)(h0:I n0 s)
  (h: ∀n s',I n s'->vc E N f rd base c s' (bH E f k base I n K)):Sound E.P rd base (.loop c) s K:=by
 simp only[Js] at h
 intro C a F n lo hC hI hs hd hlo hb hF
 refine wpIn_loop_ghost (fun m a w=>∃C' s',C'.w=w/\C'.P=C.P/\Inv C'/\dm C' s' a/\gN lo C' a.defers/\base<=s'.st.length/\Ext base C C'/\I m s') n0
  ⟨C,s,rfl,rfl,hI,hs,hd,hb,Ext.refl C (by rw[hs.st];exact hb),h0⟩ ?_
 rintro m a w ⟨C',s',rfl,hP',hI',hs',hd',hb',he',hm⟩
 refine wpIn_mono (xR hE hM N _ _ _ _ _ _ (h m s' hm) C' a F n lo (hP'.trans hC) hI' hs' hd' (Nat.le_trans hlo he'.size) hb' (hF.ext he')) ?_
 intro e a2 w2 hp
 have out: ∀{e:Exit},eF lo base C' (fun e s=>a7 (jn E.P (E.live f (j6 k e)) base s) (K e (canon E.P (E.live f (j6 k e)) base s))) e a2 w2->eF lo base C K e a2 w2:=by
  rintro e ⟨C2,s2,rfl,hP2,hI2,hs2,hd2,hb2,he2,hk⟩
  obtain⟨hk1,hk2⟩:=an.1 hk
  obtain⟨C3,k1,k2,k3,k4,k5⟩:=tZ E.P (E.live f (j6 k e)) hI2 hs2 hb2 hk1
  exact⟨C3,_,k1,k4.P.trans (hP2.trans hP'),k2,k3,hd2.ext k4,k5,(he'.trans he2 (Nat.le_refl _)).trans k4 (Nat.le_refl _),hk2⟩
 cases e with
 |normal=>
  obtain⟨C2,s2,rfl,hP2,hI2,hs2,hd2,hb2,he2,hk⟩:=hp
  obtain⟨hk1,m',hlt,hi⟩:=an.1 hk
  obtain⟨C3,k1,k2,k3,k4,k5⟩:=tZ E.P (E.live f k) hI2 hs2 hb2 hk1
  exact⟨m',hlt,C3,_,k1,k4.P.trans (hP2.trans hP'),k2,k3,hd2.ext k4,k5,(he'.trans he2 (Nat.le_refl _)).trans k4 (Nat.le_refl _),hi⟩
 |exit id=>exact out hp
 |goto l=>exact out hp
 |ret=>exact out hp
 |panic ch=>exact out hp
 |outgrown=>exact out hp
def ze:Option Code->Option Code->Option Code
 |some c,_=>some c
 |none,d=>d
def gT(k:Nat):Code->Option Code
 | .loop c=>(match lu c with|some n=>(bif Nat.beq n k then some c else gT k c)|none=>gT k c)
 | .seq a b=>ze (gT k a) (gT k b)
 | .cond _ a b=>ze (gT k a) (gT k b)
 | .block _ c| .scope c=>gT k c
 | .rangeFunc _ _ a b=>ze (gT k a) (gT k b)
 |_=>none
def af(P:Program)(f k:Nat):Code:=
 match P.funcs[f]? with
 |some fn=>(match fn.body with|some c=>(match gT k c with|some d=>d|none=> .skip)|none=> .skip)
 |none=> .skip
abbrev fI:=Option Nat->Nat->S->(Exit->S->Prop)->Prop
abbrev dj:=List AV->List Obj->(AV->List Obj->Prop)->Prop
def fI.iT(sp:fI):Prop:=∀rd base s (K K':Exit->S->Prop),(∀e s,K e s->K' e s)->sp rd base s K->sp rd base s K'
def dj.iT(sp:dj):Prop:=∀args st (K K':AV->List Obj->Prop),(∀a st,K a st->K' a st)->sp args st K->sp args st K'
def bh(E:Env)(N f k:Nat)(sp:fI):Prop:=
 ∀rd base s K,sp rd base s K->∃(I:Nat->S->Prop) (n0:Nat),I n0 s/\∀n s',I n s'->vc E N f rd base (af E.P f k) s' (bH E f k base I n K)
def Env.ak(E:Env)(f k:Nat)(sp:fI):Env:=
 {E with loop:=fun g j c rd base s K=>bif Nat.beq g f&&Nat.beq j k then c=af E.P f k/\sp rd base s K else E.loop g j c rd base s K}
theorem aj.ak{E:Env}(hM:aj E){f k:Nat}{sp:fI}(hs:sp.iT):aj (E.ak f k sp):=by
 refine⟨hM.call,fun g j c rd base s K K' hK h=>?_,hM.lF⟩
 simp only[Env.ak] at h⊢
 cases hb:(Nat.beq g f&&Nat.beq j k) with
 |true=>rw[hb] at h;exact⟨h.1,hs _ _ _ _ _ hK h.2⟩
 |false=>rw[hb] at h;exact hM.loop _ _ _ _ _ _ _ _ hK h
theorem aB.ak{E:Env}(hE:aB E)(hM:aj E){N f k:Nat}{sp:fI}(h:bh E N f k sp):aB (E.ak f k sp):=by
 refine⟨hE.prog,hE.ik,hE.call,hE.lF,fun g j c rd base s K hh=>?_⟩
 simp only[Env.ak] at hh
 cases hb:(Nat.beq g f&&Nat.beq j k) with
 |true=>
  rw[hb] at hh
  obtain⟨rfl,hsp⟩:=hh
  obtain⟨I,n0,h0,hI⟩:=h _ _ _ _ hsp
  exact D0 hE hM I n0 h0 hI
 |false=>rw[hb] at hh;exact hE.loop _ _ _ _ _ _ _ hh
def EW(n:Nat)(r:AV)(st:List Obj)(K:AV->List Obj->Prop):Prop:=
 a7 (oQ n st (refs r) (gQ n st (refs r))) (vq (ly (fun i=>jA i (gQ n st (refs r)) 0) r) fun r'=>tI (fZ (fun i=>jA i (gQ n st (refs r)) 0) (gE st (gQ n st (refs r)))) fun st'=>K r' st')
def Td(P:Program)(Ts:List TypeId)(n:Nat)(r:AV)(st:List Obj)(K:AV->List Obj->Prop):Prop:=
 match cf st r with
 |some r'=>EW n (I6 P Ts r') (cI st (rowsOf r)) K
 |none=>EW n r st K
def Na(P:Program)(own:Bool)(Ts:List TypeId)(n:Nat)(r:AV)(st:List Obj)(K:AV->List Obj->Prop):Prop:=
 match own with
 |true=>EW n r st K
 |false=>Td P Ts n r st K
def a9(E:Env)(N:Nat)(f:FuncId)(args:List AV)(st:List Obj)(K:AV->List Obj->Prop):Prop:=
 match E.P.funcs[f]? with
 | some fn=>
  (match fn.body with
   | some c=>
    vc E N f none st.length c {bk:=args++bz (fn.ntmps - args.length),st} fun e s=>
     match e with
     | .normal| .ret=>(match uC E.P s fn.results.toList with|some l=>Na E.P (E.fresh f) fn.resultTypes.toList st.length (mC l) s.st K|none=>False)
     |_=>False
   |none=>False)
 |none=>False
theorem rL{C C':Ctx}{n:Nat}{r:AV}{v:Value}{K:AV->List Obj->Prop}(hI:Inv C')(hP:C'.P=C.P)(he:Ext n C C')(hr:Rel C' r v)(h:EW n r C'.st K):ez C n K (.returned v) C'.w:=by
 obtain⟨h1,h2⟩:=an.1 h
 simp only[mj,kG] at h2
 obtain⟨g1,g2,g3⟩:=uy hI h1
 refine⟨v,_,C'.by (gQ n C'.st (refs r)),rfl,rfl,hP,g1,hr.move g2.keeps hI.lay _ (fun i hi _=>?_),he.trans g2 (Nat.le_refl _),h2⟩
 obtain⟨j,hj⟩:=g3 i hi
 exact⟨j,hj,lN hj⟩
theorem La{C:Ctx}{n:Nat}{P:Pg}(hPC:C.P=P){own:Bool}{Ts:List TypeId}{K:AV->List Obj->Prop}{e:Ending}{w:World}(h:ez C n (fun r st=>Na P own Ts n r st K) e w):ez C n K e w:=by
 obtain⟨v,r,C',rfl,rfl,hP,hI,hr,he,hK⟩:=h
 unfold Na at hK
 cases own with
 |true=>exact rL hI hP he hr hK
 |false=>
 unfold Td at hK
 simp only at hK
 split at hK
 ·rename_i r' hp
  obtain⟨C1,f1,f2,f3,f4,f5,f6,f7⟩:=oi hI hp hr
  rw[←f1] at hK
  have f6:=Hm f4 (Ts:=Ts) f6
  rw[(f5.P.trans hP).trans hPC] at f6
  have:=rL f4 (f5.P.trans hP) (he.trans (f5.mono he.len) (Nat.le_refl _)) f6 hK
  rw[f2] at this;exact this
 ·exact rL hI hP he hr hK
theorem il{E:Env}(hE:aB E)(hM:aj E){N:Nat}{f:FuncId}{args:List AV}{st:List Obj}{K:AV->List Obj->Prop}(h:a9 E N f args st K):dp E.P f args st K:=by
 unfold a9 at h
 split at h<;>try exact h.elim
 rename_i fn hf
 split at h<;>try exact h.elim
 rename_i c hc
 refine⟨⟨fn,hf,by rw[hc];rfl⟩,fun C vs hC hI hst hm=>?_⟩
 subst hst
 have:=uc (K:=fun r st=>Na E.P (E.fresh f) fn.resultTypes.toList C.st.length r st K) hf hc hC hI hm (xR hE hM N _ _ _ _ _ _ h) 0
 exact this.mono (fun e w' he=>La hC he)
def bq(E:Env)(N f:Nat)(sp:dj):Prop:=∀args st K,sp args st K->a9 E N f args st K
def Env.ay(E:Env)(f:Nat)(sp:dj):Env:=
 {E with call:=fun g args st K=>bif Nat.beq g f then sp args st K else E.call g args st K}
theorem aj.ay{E:Env}(hM:aj E){f:Nat}{sp:dj}(hs:sp.iT):aj (E.ay f sp):=by
 refine⟨fun g args st K K' hK h=>?_,hM.loop,hM.lF⟩
 simp only[Env.ay] at h⊢
 cases hb:Nat.beq g f with
 |true=>rw[hb] at h;exact hs _ _ _ _ hK h
 |false=>rw[hb] at h;exact hM.call _ _ _ _ _ hK h
theorem aB.iz{E:Env}(hE:aB E){f:Nat}{sp:dj}(h: ∀args st K,sp args st K->dp E.P f args st K):aB (E.ay f sp):=by
 refine⟨hE.prog,hE.ik,fun g args st K hh=>?_,hE.lF,hE.loop⟩
 simp only[Env.ay] at hh
 cases hb:Nat.beq g f with
 |true=>
  rw[hb] at hh
  obtain rfl:=Nat.eq_of_beq_eq_true hb
  exact h _ _ _ hh
 |false=>rw[hb] at hh;exact hE.call _ _ _ _ hh
theorem aB.ay{E:Env}(hE:aB E)(hM:aj E){N f:Nat}{sp:dj}(h:bq E N f sp):aB (E.ay f sp):=
 hE.iz fun _ _ _ hh=>il hE hM (h _ _ _ hh)
def yp(l:List AV):Bool:=match cO l with|[]=>true|_=>false
def Env.aH(E:Env)(f:Nat)(g:List AV->Option (Bool×AV)):Env:=
 {E with ik:=fun h as=>bif Nat.beq h f then(bif yp as then g as else none) else E.ik h as}
def c9(E:Env)(N f:Nat)(g:List AV->Option (Bool×AV)):Prop:=
 ∀as x,g as=some (true,x)->∃u,x= .lit u/\a8 u=true/\a9 E N f as [] (fun r _=>r= .lit u)
theorem aj.aH{E:Env}(hM:aj E){f:Nat}{g:List AV->Option (Bool×AV)}:aj (E.aH f g):=⟨hM.call,hM.loop,hM.lF⟩
def gZ(P:Pg)(f:Nat)(g:List AV->Option (Bool×AV)):Prop:=
 ∀as x,yp as=true->g as=some (true,x)->∃fn u,P.funcs[f]? =some fn/\fn.body.isSome=true/\x= .lit u/\a8 u=true/\
  ∀(C:Ctx) (vs:Array Value),C.P=P->Inv C->MT C as vs.toList->CallsIn Fence.wide 0 P f vs C.w (fun e w'=>e= .returned u/\gU C.w w')
theorem nM{E:Env}(hE:aB E)(hM:aj E){N f:Nat}{g:List AV->Option (Bool×AV)}(h:c9 E N f g):gZ E.P f g:=by
 intro as x hn hh
 obtain⟨u,rfl,hu,hf⟩:=h as x hh
 obtain⟨⟨fn,k1,k2⟩,k3⟩:=il hE hM hf
 refine⟨fn,u,k1,k2,rfl,hu,fun C vs hC hI hm=>?_⟩
 have hrefs:cO as=[]:=by
  unfold yp at hn
  split at hn
  ·assumption
  ·cases hn
 have hk:bO C {C with st:=[]}:=⟨rfl,fun _ h=>h,fun _ _=>rfl⟩
 have hI0:Inv {C with st:=[]}:=⟨hI.lay,fun i hi=>by simp at hi,fun i j hi=>by simp at hi,hI.xs,fun i hi=>by simp at hi,hI.oL,hI.kept⟩
 have hm0:=jX (C':={C with st:=[]}) hk hI.lay some as vs.toList (fun i hi=>by rw[hrefs] at hi;simp at hi) hm
 rw[fg] at hm0
 refine(k3 {C with st:=[]} vs hC hI0 rfl hm0).mono ?_
 rintro e w' ⟨v,r,C',rfl,rfl,hP,hI',hr,he,rfl⟩
 have:=aQ hr
 subst this
 exact⟨rfl,he.size,he.os,he.tape,he.output,fun b hb=>he.frame b hb (fun⟨i,hi,_⟩=>by simp at hi)⟩
theorem aB.eZ{E:Env}(hE:aB E){f:Nat}{g:List AV->Option (Bool×AV)}(h:gZ E.P f g):aB (E.aH f g):=by
 refine⟨hE.prog,fun k as x hh=>?_,hE.call,hE.lF,hE.loop⟩
 simp only[Env.aH] at hh
 cases hb:Nat.beq k f with
 |false=>rw[hb] at hh;exact hE.ik k as x hh
 | true=>
  obtain rfl:=Nat.eq_of_beq_eq_true hb
  rw[hb] at hh
  cases hn:yp as with
  |false=>rw[hn] at hh;simp at hh
  |true=>
   rw[hn] at hh
   obtain⟨fn,u,h1,h2,h3,h4,h5⟩:=h as x hn hh
   exact⟨fn,h1,h2, .inl ⟨u,h3,h4,h5⟩⟩
def Env.eW(E:Env)(f:Nat)(g:List AV->Option (Bool×AV)):Env:=
 {E with ik:=fun h as=>bif Nat.beq h f then(bif v5 as then g as else none) else E.ik h as}
def pY(E:Env)(N f:Nat)(g:List AV->Option (Bool×AV)):Prop:=
 ∀as x,g as=some (true,x)->refs x=[]/\a9 E N f as [] (fun r _=>r=x)
theorem aj.eW{E:Env}(hM:aj E){f:Nat}{g:List AV->Option (Bool×AV)}:aj (E.eW f g):=⟨hM.call,hM.loop,hM.lF⟩
theorem aB.eW{E:Env}(hE:aB E)(hM:aj E){N f:Nat}{g:List AV->Option (Bool×AV)}(h:pY E N f g):aB (E.eW f g):=by
 refine⟨hE.prog,fun k as x hh=>?_,hE.call,hE.lF,hE.loop⟩
 simp only[Env.eW] at hh
 cases hb:Nat.beq k f with
 |false=>rw[hb] at hh;exact hE.ik k as x hh
 | true=>
  obtain rfl:=Nat.eq_of_beq_eq_true hb
  rw[hb] at hh
  cases hn:v5 as with
  |false=>rw[hn] at hh;simp at hh
  |true=>
   rw[hn] at hh
   obtain⟨hx,hf⟩:=h as x hh
   obtain⟨⟨fn,k1,k2⟩,k3⟩:=il hE hM hf
   refine⟨fn,k1,k2, .inr ⟨rfl,hx,fun C vs hC hI hm=>?_⟩⟩
   refine(k3 C.bare vs hC (I2 hI) rfl (zS _ _ hn hm)).mono ?_
   rintro e w' ⟨v,r,C',rfl,rfl,hP,hI',hr,he,rfl⟩
   exact⟨v,C',rfl,rfl,hP,hI',hr,he⟩
theorem aB.aH{E:Env}(hE:aB E)(hM:aj E){N f:Nat}{g:List AV->Option (Bool×AV)}(h:c9 E N f g):aB (E.aH f g):=
 hE.eZ (nM hE hM h)
def below(g:List AV->Option (Bool×AV))(μ:List AV->Nat)(n:Nat)(as:List AV):Option (Bool×AV):=
 match g as with
 |some (c,x)=>some (c&&Nat.blt (μ as) n,x)
 |none=>none
theorem aB.tQ{P:Pg}{f:Nat}(g:List AV->Option (Bool×AV))(μ:List AV->Nat){N:Nat}(ext:Nat->Env)
  (hext: ∀n,gZ P f (below g μ n)->aB (ext n)/\aj (ext n)/\(ext n).P=P) (h: ∀n,c9 (ext n) N f (fun as=>bif Nat.beq (μ as) n then g as else none)):gZ P f g:=by
 have key: ∀n,gZ P f (fun as=>bif Nat.beq (μ as) n then g as else none):=by
  intro n
  induction n using Nat.strongRecOn with
  | _ n ih=>
   have hb:gZ P f (below g μ n):=by
    intro as x hn hh
    unfold below at hh
    split at hh
    ·rename_i c y hg
     simp only[aa4,ab0,aa2] at hh
     obtain⟨⟨rfl,hlt⟩,rfl⟩:=hh
     refine ih (μ as) (by simpa[Nat.blt_eq] using hlt) as _ hn ?_
     simp only
     rw[show Nat.beq (μ as) (μ as)=true from Nat.beq_refl _]
     exact hg
    ·cases hh
   obtain⟨h1,h2,h3⟩:=hext n hb
   have:=nM h1 h2 (h n)
   rwa [h3] at this
 intro as x hn hh
 refine key (μ as) as x hn ?_
 simp only
 rw[show Nat.beq (μ as) (μ as)=true from Nat.beq_refl _]
 exact hh
def Env.none(P:Pg)(live:FuncId->Nat->List (Nat×Option TypeId))(inl own quiet:FuncId->Bool):Env:=
 {P,call:=fun _ _ _ _=>False,ik:=fun _ _=>Option.none,loop:=fun _ _ _ _ _ _ _=>False,lF:=fun _ _ _ _ _ _=>False,gen:=fun _=>false,inl,live,own,quiet}
def Env.jm(E:Env)(fresh:FuncId->Bool):Env:={E with fresh:=fresh}
def Env.iF(E:Env)(calm:FuncId->Bool):Env:={E with calm:=calm}
theorem aB.iF{E:Env}(hE:aB E)(calm:FuncId->Bool):aB (E.iF calm):=⟨hE.prog,hE.ik,hE.call,hE.lF,hE.loop⟩
theorem aj.iF{E:Env}(hM:aj E)(calm:FuncId->Bool):aj (E.iF calm):=⟨hM.call,hM.loop,hM.lF⟩
theorem aB.jm{E:Env}(hE:aB E)(fresh:FuncId->Bool):aB (E.jm fresh):=⟨hE.prog,hE.ik,hE.call,hE.lF,hE.loop⟩
theorem aj.jm{E:Env}(hM:aj E)(fresh:FuncId->Bool):aj (E.jm fresh):=⟨hM.call,hM.loop,hM.lF⟩
theorem aB.none{P:Pg}(hP:pk P){live:FuncId->Nat->List (Nat×Option TypeId)}{inl own quiet:FuncId->Bool}:aB (Env.none P live inl own quiet):=
 ⟨hP,fun _ _ _ h=>by simp[Env.none] at h,fun _ _ _ _ h=>h.elim,fun _ _ _ _ _ _ h=>h.elim,fun _ _ _ _ _ _ _ h=>h.elim⟩
theorem aj.none{P:Pg}{live:FuncId->Nat->List (Nat×Option TypeId)}{inl own quiet:FuncId->Bool}:aj (Env.none P live inl own quiet):=
 ⟨fun _ _ _ _ _ _ h=>h,fun _ _ _ _ _ _ _ _ _ h=>h,fun _ _ _ _ _ _ _ _ h=>h⟩
end Go.Dn
