import Derived.Test.YtioeffnadipbaaaGreatDoorDoC
import Derived.Sort.LoopGhostIn
namespace Go.Dn
open Go
def jR(k:Nat):Exit->Nat
 | .exit id=>1000*(k+1)+2+id
 |_=>1000*(k+1)+1
def bB(E:Env)(f k base:Nat)(I:Nat->S->Prop)(n:Nat)(K:Exit->S->Prop):Exit->S->Prop
 | .normal,s=>aP (ji E.P (E.live f k) base s) (BX (canon E.P (E.live f k) base s) fun s'=>∃m,m<n/\I m s')
 |e,s=>aP (ji E.P (E.live f (jR k e)) base s) (BX (canon E.P (E.live f (jR k e)) base s) fun s'=>K e s')
def Ih(E:Env)(f k base:Nat)(I:Nat->S->Prop)(n:Nat)(K:Exit->S->Prop):Exit->S->Prop
 | .normal,s=>aP (ji E.P (E.live f k) base s) (∃m,m<n/\I m (canon E.P (E.live f k) base s))
 |e,s=>aP (ji E.P (E.live f (jR k e)) base s) (K e (canon E.P (E.live f (jR k e)) base s))
theorem Jn{E:Env}{f k base:Nat}{I:Nat->S->Prop}{n:Nat}{K:Exit->S->Prop}:bB E f k base I n K=Ih E f k base I n K:=by
 funext e s
 cases e<;>simp only[bB,Ih,jQ]
theorem uv{E:Env}(hE:aE E)(hM:aj E){N f k:Nat}{c:Code}{rd:Option Nat}{base:Nat}{s:S}{K:Exit->S->Prop}(I:Nat->S->Prop)(n0:Nat)(h0:I n0 s)
  (h: ∀n s',I n s'->vc E N f rd base c s' (bB E f k base I n K)):Sound E.P rd base (.loop c) s K:=by
 simp only[Jn] at h
 intro C a F n lo hC hI hs hd hlo hb hF
 refine wpIn_loop_ghost (fun m a w=>∃C' s',C'.w=w/\C'.P=C.P/\Inv C'/\db C' s' a/\gS lo C' a.defers/\base<=s'.st.length/\Ext base C C'/\I m s') n0
  ⟨C,s,rfl,rfl,hI,hs,hd,hb,Ext.refl C (by rw[hs.st];exact hb),h0⟩ ?_
 rintro m a w ⟨C',s',rfl,hP',hI',hs',hd',hb',he',hm⟩
 refine wpIn_mono (xH hE hM N _ _ _ _ _ _ (h m s' hm) C' a F n lo (hP'.trans hC) hI' hs' hd' (Nat.le_trans hlo he'.size) hb' (hF.ext he')) ?_
 intro e a2 w2 hp
 have out: ∀{e:Exit},eK lo base C' (fun e s=>aP (ji E.P (E.live f (jR k e)) base s) (K e (canon E.P (E.live f (jR k e)) base s))) e a2 w2->eK lo base C K e a2 w2:=by
  rintro e ⟨C2,s2,rfl,hP2,hI2,hs2,hd2,hb2,he2,hk⟩
  obtain⟨hk1,hk2⟩:=ai.1 hk
  obtain⟨C3,k1,k2,k3,k4,k5⟩:=tQ E.P (E.live f (jR k e)) hI2 hs2 hb2 hk1
  exact⟨C3,_,k1,k4.P.trans (hP2.trans hP'),k2,k3,hd2.ext k4,k5,(he'.trans he2 (Nat.le_refl _)).trans k4 (Nat.le_refl _),hk2⟩
 cases e with
 |normal=>
  obtain⟨C2,s2,rfl,hP2,hI2,hs2,hd2,hb2,he2,hk⟩:=hp
  obtain⟨hk1,m',hlt,hi⟩:=ai.1 hk
  obtain⟨C3,k1,k2,k3,k4,k5⟩:=tQ E.P (E.live f k) hI2 hs2 hb2 hk1
  exact⟨m',hlt,C3,_,k1,k4.P.trans (hP2.trans hP'),k2,k3,hd2.ext k4,k5,(he'.trans he2 (Nat.le_refl _)).trans k4 (Nat.le_refl _),hi⟩
 |exit id=>exact out hp
 |goto l=>exact out hp
 |ret=>exact out hp
 |panic ch=>exact out hp
 |outgrown=>exact out hp
def zM:Option Code->Option Code->Option Code
 |some c,_=>some c
 |none,d=>d
def gQ(k:Nat):Code->Option Code
 | .loop c=>(match lh c with|some n=>(bif Nat.beq n k then some c else gQ k c)|none=>gQ k c)
 | .seq a b=>zM (gQ k a) (gQ k b)
 | .cond _ a b=>zM (gQ k a) (gQ k b)
 | .block _ c| .scope c=>gQ k c
 | .rangeFunc _ _ a b=>zM (gQ k a) (gQ k b)
 |_=>none
def ag(P:Program)(f k:Nat):Code:=
 match P.funcs[f]? with
 |some fn=>(match fn.body with|some c=>(match gQ k c with|some d=>d|none=> .skip)|none=> .skip)
 |none=> .skip
abbrev jl:=Option Nat->Nat->S->(Exit->S->Prop)->Prop
abbrev b7:=List AV->List Obj->(AV->List Obj->Prop)->Prop
def jl.ib(sp:jl):Prop:=∀rd base s (K K':Exit->S->Prop),(∀e s,K e s->K' e s)->sp rd base s K->sp rd base s K'
def b7.ib(sp:b7):Prop:=∀args st (K K':AV->List Obj->Prop),(∀a st,K a st->K' a st)->sp args st K->sp args st K'
def bf(E:Env)(N f k:Nat)(sp:jl):Prop:=
 ∀rd base s K,sp rd base s K->∃(I:Nat->S->Prop) (n0:Nat),I n0 s/\∀n s',I n s'->vc E N f rd base (ag E.P f k) s' (bB E f k base I n K)
def Env.ar(E:Env)(f k:Nat)(sp:jl):Env:=
 {E with loop:=fun g j c rd base s K=>bif Nat.beq g f&&Nat.beq j k then c=ag E.P f k/\sp rd base s K else E.loop g j c rd base s K}
theorem aj.ar{E:Env}(hM:aj E){f k:Nat}{sp:jl}(hs:sp.ib):aj (E.ar f k sp):=by
 refine⟨hM.call,fun g j c rd base s K K' hK h=>?_,hM.kW⟩
 simp only[Env.ar] at h⊢
 cases hb:(Nat.beq g f&&Nat.beq j k) with
 |true=>rw[hb] at h;exact⟨h.1,hs _ _ _ _ _ hK h.2⟩
 |false=>rw[hb] at h;exact hM.loop _ _ _ _ _ _ _ _ hK h
theorem aE.ar{E:Env}(hE:aE E)(hM:aj E){N f k:Nat}{sp:jl}(h:bf E N f k sp):aE (E.ar f k sp):=by
 refine⟨hE.prog,hE.fu,hE.call,hE.kW,fun g j c rd base s K hh=>?_⟩
 simp only[Env.ar] at hh
 cases hb:(Nat.beq g f&&Nat.beq j k) with
 |true=>
  rw[hb] at hh
  obtain⟨rfl,hsp⟩:=hh
  obtain⟨I,n0,h0,hI⟩:=h _ _ _ _ hsp
  exact uv hE hM I n0 h0 hI
 |false=>rw[hb] at hh;exact hE.loop _ _ _ _ _ _ _ hh
def FM(n:Nat)(r:AV)(st:List Obj)(K:AV->List Obj->Prop):Prop:=
 aP (oV n st (refs r) (gV n st (refs r))) (vI (ll (fun i=>jt i (gV n st (refs r)) 0) r) fun r'=>vW (gK (fun i=>jt i (gV n st (refs r)) 0) (ik st (gV n st (refs r)))) fun st'=>K r' st')
def QS(P:Program)(Ts:List TypeId)(n:Nat)(r:AV)(st:List Obj)(K:AV->List Obj->Prop):Prop:=
 match bW st r with
 |some r'=>FM n (Jw P Ts r') (cD st (rowsOf r)) K
 |none=>FM n r st K
def Me(P:Program)(own:Bool)(Ts:List TypeId)(n:Nat)(r:AV)(st:List Obj)(K:AV->List Obj->Prop):Prop:=
 match own with
 |true=>FM n r st K
 |false=>QS P Ts n r st K
def ba(E:Env)(N:Nat)(f:FuncId)(args:List AV)(st:List Obj)(K:AV->List Obj->Prop):Prop:=
 match E.P.funcs[f]? with
 | some fn=>
  (match fn.body with
   | some c=>
    vc E N f none st.length c {bg:=args++bM (fn.ntmps - args.length),st} fun e s=>
     match e with
     | .normal| .ret=>(match vq E.P s fn.results.toList with|some l=>Me E.P (E.fresh f) fn.resultTypes.toList st.length (mr l) s.st K|none=>False)
     |_=>False
   |none=>False)
 |none=>False
theorem sd{C C':Ctx}{n:Nat}{r:AV}{v:Value}{K:AV->List Obj->Prop}(hI:Inv C')(hP:C'.P=C.P)(he:Ext n C C')(hr:Rel C' r v)(h:FM n r C'.st K):eF C n K (.returned v) C'.w:=by
 obtain⟨h1,h2⟩:=ai.1 h
 simp only[mu,kf] at h2
 obtain⟨g1,g2,g3⟩:=tJ hI h1
 refine⟨v,_,C'.by (gV n C'.st (refs r)),rfl,rfl,hP,g1,hr.move g2.keeps hI.lay _ (fun i hi _=>?_),he.trans g2 (Nat.le_refl _),h2⟩
 grind [lR]
theorem JA{C:Ctx}{n:Nat}{P:Pg}(hPC:C.P=P){own:Bool}{Ts:List TypeId}{K:AV->List Obj->Prop}{e:Ending}{w:World}(h:eF C n (fun r st=>Me P own Ts n r st K) e w):eF C n K e w:=by
 obtain⟨v,r,C',rfl,rfl,hP,hI,hr,he,hK⟩:=h
 unfold Me at hK
 cases own with
 |true=>exact sd hI hP he hr hK
 |false=>
 unfold QS at hK
 simp only at hK
 split at hK
 ·rename_i r' hp
  obtain⟨C1,f1,f2,f3,f4,f5,f6,f7⟩:=oz hI hp hr
  rw[←f1] at hK
  have f6:=GV f4 (Ts:=Ts) f6
  rw[(f5.P.trans hP).trans hPC] at f6
  have:=sd f4 (f5.P.trans hP) (he.trans (f5.mono he.len) (Nat.le_refl _)) f6 hK
  rw[f2] at this;exact this
 ·exact sd hI hP he hr hK
theorem cZ{E:Env}(hE:aE E)(hM:aj E){N:Nat}{f:FuncId}{args:List AV}{st:List Obj}{K:AV->List Obj->Prop}(h:ba E N f args st K):bD E.P f args st K:=by
 unfold ba at h
 split at h<;>try exact h.elim
 rename_i fn hf
 split at h<;>try exact h.elim
 rename_i c hc
 refine⟨⟨fn,hf,by rw[hc];rfl⟩,fun C vs hC hI hst hm=>?_⟩
 subst hst
 have:=tV (K:=fun r st=>Me E.P (E.fresh f) fn.resultTypes.toList C.st.length r st K) hf hc hC hI hm (xH hE hM N _ _ _ _ _ _ h) 0
 exact this.mono (fun e w' he=>JA hC he)
def bG(E:Env)(N f:Nat)(sp:b7):Prop:=∀args st K,sp args st K->ba E N f args st K
def Env.az(E:Env)(f:Nat)(sp:b7):Env:=
 {E with call:=fun g args st K=>bif Nat.beq g f then sp args st K else E.call g args st K}
theorem aj.az{E:Env}(hM:aj E){f:Nat}{sp:b7}(hs:sp.ib):aj (E.az f sp):=by
 refine⟨fun g args st K K' hK h=>?_,hM.loop,hM.kW⟩
 simp only[Env.az] at h⊢
 cases hb:Nat.beq g f with
 |true=>rw[hb] at h;exact hs _ _ _ _ hK h
 |false=>rw[hb] at h;exact hM.call _ _ _ _ _ hK h
theorem aE.fT{E:Env}(hE:aE E){f:Nat}{sp:b7}(h: ∀args st K,sp args st K->bD E.P f args st K):aE (E.az f sp):=by
 refine⟨hE.prog,hE.fu,fun g args st K hh=>?_,hE.kW,hE.loop⟩
 simp only[Env.az] at hh
 cases hb:Nat.beq g f with
 |true=>
  rw[hb] at hh
  obtain rfl:=Nat.eq_of_beq_eq_true hb
  exact h _ _ _ hh
 |false=>rw[hb] at hh;exact hE.call _ _ _ _ hh
theorem aE.az{E:Env}(hE:aE E)(hM:aj E){N f:Nat}{sp:b7}(h:bG E N f sp):aE (E.az f sp):=
 hE.fT fun _ _ _ hh=>cZ hE hM (h _ _ _ hh)
def y9(l:List AV):Bool:=match cW l with|[]=>true|_=>false
def Env.aK(E:Env)(f:Nat)(g:List AV->Option (Bool×AV)):Env:=
 {E with fu:=fun h as=>bif Nat.beq h f then(bif y9 as then g as else none) else E.fu h as}
def cj(E:Env)(N f:Nat)(g:List AV->Option (Bool×AV)):Prop:=
 ∀as x,g as=some (true,x)->∃u,x= .lit u/\a9 u=true/\ba E N f as [] (fun r _=>r= .lit u)
theorem aj.aK{E:Env}(hM:aj E){f:Nat}{g:List AV->Option (Bool×AV)}:aj (E.aK f g):=⟨hM.call,hM.loop,hM.kW⟩
def fg(P:Pg)(f:Nat)(g:List AV->Option (Bool×AV)):Prop:=
 ∀as x,y9 as=true->g as=some (true,x)->∃fn u,P.funcs[f]? =some fn/\fn.body.isSome=true/\x= .lit u/\a9 u=true/\
  ∀(C:Ctx) (vs:Array Value),C.P=P->Inv C->MT C as vs.toList->CallsIn Fence.wide 0 P f vs C.w (fun e w'=>e= .returned u/\gT C.w w')
theorem kB{E:Env}(hE:aE E)(hM:aj E){N f:Nat}{g:List AV->Option (Bool×AV)}(h:cj E N f g):fg E.P f g:=by
 intro as x hn hh
 obtain⟨u,rfl,hu,hf⟩:=h as x hh
 obtain⟨⟨fn,k1,k2⟩,k3⟩:=cZ hE hM hf
 refine⟨fn,u,k1,k2,rfl,hu,fun C vs hC hI hm=>?_⟩
 have hrefs:cW as=[]:=by
  unfold y9 at hn
  split at hn
  ·assumption
  ·cases hn
 have hk:bH C {C with st:=[]}:=⟨rfl,fun _ h=>h,fun _ _=>rfl⟩
 have hI0:Inv {C with st:=[]}:=⟨hI.lay,fun i hi=>by simp at hi,fun i j hi=>by simp at hi,hI.xs,fun i hi=>by simp at hi,hI.mT,hI.kept⟩
 have hm0:=jL (C':={C with st:=[]}) hk hI.lay some as vs.toList (fun i hi=>by rw[hrefs] at hi;simp at hi) hm
 rw[fq] at hm0
 refine(k3 {C with st:=[]} vs hC hI0 rfl hm0).mono ?_
 rintro e w' ⟨v,r,C',rfl,rfl,hP,hI',hr,he,rfl⟩
 have:=aH hr
 subst this
 exact⟨rfl,he.size,he.os,he.tape,he.output,fun b hb=>he.frame b hb (fun⟨i,hi,_⟩=>by simp at hi)⟩
theorem aE.dZ{E:Env}(hE:aE E){f:Nat}{g:List AV->Option (Bool×AV)}(h:fg E.P f g):aE (E.aK f g):=by
 refine⟨hE.prog,fun k as x hh=>?_,hE.call,hE.kW,hE.loop⟩
 simp only[Env.aK] at hh
 cases hb:Nat.beq k f with
 |false=>rw[hb] at hh;exact hE.fu k as x hh
 | true=>
  obtain rfl:=Nat.eq_of_beq_eq_true hb
  rw[hb] at hh
  cases hn:y9 as with
  |false=>rw[hn] at hh;simp at hh
  |true=>
   rw[hn] at hh
   obtain⟨fn,u,h1,h2,h3,h4,h5⟩:=h as x hn hh
   exact⟨fn,h1,h2, .inl ⟨u,h3,h4,h5⟩⟩
def Env.jn(E:Env)(f:Nat)(g:List AV->Option (Bool×AV)):Env:=
 {E with fu:=fun h as=>bif Nat.beq h f then(bif v7 as then g as else none) else E.fu h as}
def El(E:Env)(N f:Nat)(g:List AV->Option (Bool×AV)):Prop:=
 ∀as x,g as=some (true,x)->refs x=[]/\ba E N f as [] (fun r _=>r=x)
theorem aj.jn{E:Env}(hM:aj E){f:Nat}{g:List AV->Option (Bool×AV)}:aj (E.jn f g):=⟨hM.call,hM.loop,hM.kW⟩
theorem aE.jn{E:Env}(hE:aE E)(hM:aj E){N f:Nat}{g:List AV->Option (Bool×AV)}(h:El E N f g):aE (E.jn f g):=by
 refine⟨hE.prog,fun k as x hh=>?_,hE.call,hE.kW,hE.loop⟩
 simp only[Env.jn] at hh
 cases hb:Nat.beq k f with
 |false=>rw[hb] at hh;exact hE.fu k as x hh
 | true=>
  obtain rfl:=Nat.eq_of_beq_eq_true hb
  rw[hb] at hh
  cases hn:v7 as with
  |false=>rw[hn] at hh;simp at hh
  |true=>
   rw[hn] at hh
   obtain⟨hx,hf⟩:=h as x hh
   obtain⟨⟨fn,k1,k2⟩,k3⟩:=cZ hE hM hf
   refine⟨fn,k1,k2, .inr ⟨rfl,hx,fun C vs hC hI hm=>?_⟩⟩
   refine(k3 C.bare vs hC (Is hI) rfl (za _ _ hn hm)).mono ?_
   rintro e w' ⟨v,r,C',rfl,rfl,hP,hI',hr,he,rfl⟩
   exact⟨v,C',rfl,rfl,hP,hI',hr,he⟩
theorem aE.aK{E:Env}(hE:aE E)(hM:aj E){N f:Nat}{g:List AV->Option (Bool×AV)}(h:cj E N f g):aE (E.aK f g):=
 hE.dZ (kB hE hM h)
def below(g:List AV->Option (Bool×AV))(μ:List AV->Nat)(n:Nat)(as:List AV):Option (Bool×AV):=
 match g as with
 |some (c,x)=>some (c&&Nat.blt (μ as) n,x)
 |none=>none
theorem aE.pT{P:Pg}{f:Nat}(g:List AV->Option (Bool×AV))(μ:List AV->Nat){N:Nat}(ext:Nat->Env)
  (hext: ∀n,fg P f (below g μ n)->aE (ext n)/\aj (ext n)/\(ext n).P=P) (h: ∀n,cj (ext n) N f (fun as=>bif Nat.beq (μ as) n then g as else none)):fg P f g:=by
 have key: ∀n,fg P f (fun as=>bif Nat.beq (μ as) n then g as else none):=by
  intro n
  induction n using Nat.strongRecOn with
  | _ n ih=>
   have hb:fg P f (below g μ n):=by
    intro as x hn hh
    unfold below at hh
    split at hh
    ·rename_i c y hg
     simp only[aa3,aa9,aa1] at hh
     obtain⟨⟨rfl,hlt⟩,rfl⟩:=hh
     refine ih (μ as) (by simpa[Nat.blt_eq] using hlt) as _ hn ?_
     simp_all
    ·cases hh
   grind [kB]
 intro as x hn hh
 refine key (μ as) as x hn ?_
 simp_all
def Env.none(P:Pg)(live:FuncId->Nat->List (Nat×Option TypeId))(inl own quiet:FuncId->Bool):Env:=
 {P,call:=fun _ _ _ _=>False,fu:=fun _ _=>Option.none,loop:=fun _ _ _ _ _ _ _=>False,kW:=fun _ _ _ _ _ _=>False,gen:=fun _=>false,inl,live,own,quiet}
def Env.jb(E:Env)(fresh:FuncId->Bool):Env:={E with fresh:=fresh}
def Env.iB(E:Env)(calm:FuncId->Bool):Env:={E with calm:=calm}
theorem aE.iB{E:Env}(hE:aE E)(calm:FuncId->Bool):aE (E.iB calm):=⟨hE.prog,hE.fu,hE.call,hE.kW,hE.loop⟩
theorem aj.iB{E:Env}(hM:aj E)(calm:FuncId->Bool):aj (E.iB calm):=⟨hM.call,hM.loop,hM.kW⟩
theorem aE.jb{E:Env}(hE:aE E)(fresh:FuncId->Bool):aE (E.jb fresh):=⟨hE.prog,hE.fu,hE.call,hE.kW,hE.loop⟩
theorem aj.jb{E:Env}(hM:aj E)(fresh:FuncId->Bool):aj (E.jb fresh):=⟨hM.call,hM.loop,hM.kW⟩
theorem aE.none{P:Pg}(hP:pQ P){live:FuncId->Nat->List (Nat×Option TypeId)}{inl own quiet:FuncId->Bool}:aE (Env.none P live inl own quiet):=
 ⟨hP,fun _ _ _ h=>by simp[Env.none] at h,fun _ _ _ _ h=>h.elim,fun _ _ _ _ _ _ h=>h.elim,fun _ _ _ _ _ _ _ h=>h.elim⟩
theorem aj.none{P:Pg}{live:FuncId->Nat->List (Nat×Option TypeId)}{inl own quiet:FuncId->Bool}:aj (Env.none P live inl own quiet):=
 ⟨fun _ _ _ _ _ _ h=>h,fun _ _ _ _ _ _ _ _ _ h=>h,fun _ _ _ _ _ _ _ _ h=>h⟩
end Go.Dn
