import Derived.Test.YthaiinlfnommnaaGreatDoorDoC
import Derived.Sort.LoopGhostIn
namespace Go.Dn
open Go
def ka(k:Nat):Exit->Nat
 | .exit id=>1000*(k+1)+2+id
 |_=>1000*(k+1)+1
def bK(E:Env)(f k base:Nat)(I:Nat->S->Prop)(n:Nat)(K:Exit->S->Prop):Exit->S->Prop
 | .normal,s=>aX (jD E.P (E.live f k) base s) (Bg (canon E.P (E.live f k) base s) fun s'=>∃m,m<n/\I m s')
 |e,s=>aX (jD E.P (E.live f (ka k e)) base s) (Bg (canon E.P (E.live f (ka k e)) base s) fun s'=>K e s')
def Mj(E:Env)(f k base:Nat)(I:Nat->S->Prop)(n:Nat)(K:Exit->S->Prop):Exit->S->Prop
 | .normal,s=>aX (jD E.P (E.live f k) base s) (∃m,m<n/\I m (canon E.P (E.live f k) base s))
 |e,s=>aX (jD E.P (E.live f (ka k e)) base s) (K e (canon E.P (E.live f (ka k e)) base s))
theorem KX{E:Env}{f k base:Nat}{I:Nat->S->Prop}{n:Nat}{K:Exit->S->Prop}:bK E f k base I n K=Mj E f k base I n K:=by
 funext e s
 cases e<;>simp only[bK,Mj,lu]
theorem Dx{E:Env}(hE:aB E)(hM:aj E){N f k:Nat}{c:Code}{rd:Option Nat}{base:Nat}{s:S}{K:Exit->S->Prop}(I:Nat->S->Prop)(n0:Nat)(h0:I n0 s)
  (h: ∀n s',I n s'->vc E N f rd base c s' (bK E f k base I n K)):Sound E.P rd base (.loop c) s K:=by
 simp only[KX] at h
 intro C a F n lo hC hI hs hd hlo hb hF
 refine wpIn_loop_ghost (fun m a w=>∃C' s',C'.w=w/\C'.P=C.P/\Inv C'/\dt C' s' a/\ik lo C' a.defers/\base<=s'.st.length/\Ext base C C'/\I m s') n0
  ⟨C,s,rfl,rfl,hI,hs,hd,hb,Ext.refl C (by rw[hs.st];exact hb),h0⟩ ?_
 rintro m a w ⟨C',s',rfl,hP',hI',hs',hd',hb',he',hm⟩
 refine wpIn_mono (xP hE hM N _ _ _ _ _ _ (h m s' hm) C' a F n lo (hP'.trans hC) hI' hs' hd' (Nat.le_trans hlo he'.size) hb' (hF.ext he')) ?_
 intro e a2 w2 hp
 have out: ∀{e:Exit},eS lo base C' (fun e s=>aX (jD E.P (E.live f (ka k e)) base s) (K e (canon E.P (E.live f (ka k e)) base s))) e a2 w2->eS lo base C K e a2 w2:=by
  rintro e ⟨C2,s2,rfl,hP2,hI2,hs2,hd2,hb2,he2,hk⟩
  obtain⟨hk1,hk2⟩:=aq.1 hk
  obtain⟨C3,k1,k2,k3,k4,k5⟩:=we E.P (E.live f (ka k e)) hI2 hs2 hb2 hk1
  exact⟨C3,_,k1,k4.P.trans (hP2.trans hP'),k2,k3,hd2.ext k4,k5,(he'.trans he2 (Nat.le_refl _)).trans k4 (Nat.le_refl _),hk2⟩
 cases e with
 |normal=>
  obtain⟨C2,s2,rfl,hP2,hI2,hs2,hd2,hb2,he2,hk⟩:=hp
  obtain⟨hk1,m',hlt,hi⟩:=aq.1 hk
  obtain⟨C3,k1,k2,k3,k4,k5⟩:=we E.P (E.live f k) hI2 hs2 hb2 hk1
  exact⟨m',hlt,C3,_,k1,k4.P.trans (hP2.trans hP'),k2,k3,hd2.ext k4,k5,(he'.trans he2 (Nat.le_refl _)).trans k4 (Nat.le_refl _),hi⟩
 |exit id=>exact out hp
 |goto l=>exact out hp
 |ret=>exact out hp
 |panic ch=>exact out hp
 |outgrown=>exact out hp
def yW:Option Code->Option Code->Option Code
 |some c,_=>some c
 |none,d=>d
def ir(k:Nat):Code->Option Code
 | .loop c=>(match lH c with|some n=>(bif Nat.beq n k then some c else ir k c)|none=>ir k c)
 | .seq a b=>yW (ir k a) (ir k b)
 | .cond _ a b=>yW (ir k a) (ir k b)
 | .block _ c| .scope c=>ir k c
 | .rangeFunc _ _ a b=>yW (ir k a) (ir k b)
 |_=>none
def af(P:Program)(f k:Nat):Code:=
 match P.funcs[f]? with
 |some fn=>(match fn.body with|some c=>(match ir k c with|some d=>d|none=> .skip)|none=> .skip)
 |none=> .skip
abbrev gg:=Option Nat->Nat->S->(Exit->S->Prop)->Prop
abbrev dr:=List AV->List Obj->(AV->List Obj->Prop)->Prop
def gg.ji(sp:gg):Prop:=∀rd base s (K K':Exit->S->Prop),(∀e s,K e s->K' e s)->sp rd base s K->sp rd base s K'
def dr.ji(sp:dr):Prop:=∀args st (K K':AV->List Obj->Prop),(∀a st,K a st->K' a st)->sp args st K->sp args st K'
def bj(E:Env)(N f k:Nat)(sp:gg):Prop:=
 ∀rd base s K,sp rd base s K->∃(I:Nat->S->Prop) (n0:Nat),I n0 s/\∀n s',I n s'->vc E N f rd base (af E.P f k) s' (bK E f k base I n K)
def Env.ak(E:Env)(f k:Nat)(sp:gg):Env:=
 {E with loop:=fun g j c rd base s K=>bif Nat.beq g f&&Nat.beq j k then c=af E.P f k/\sp rd base s K else E.loop g j c rd base s K}
theorem aj.ak{E:Env}(hM:aj E){f k:Nat}{sp:gg}(hs:sp.ji):aj (E.ak f k sp):=by
 refine⟨hM.call,fun g j c rd base s K K' hK h=>?_,hM.ke⟩
 simp only[Env.ak] at h⊢
 cases hb:(Nat.beq g f&&Nat.beq j k) with
 |true=>rw[hb] at h;exact⟨h.1,hs _ _ _ _ _ hK h.2⟩
 |false=>rw[hb] at h;exact hM.loop _ _ _ _ _ _ _ _ hK h
theorem aB.ak{E:Env}(hE:aB E)(hM:aj E){N f k:Nat}{sp:gg}(h:bj E N f k sp):aB (E.ak f k sp):=by
 refine⟨hE.prog,hE.gR,hE.call,hE.ke,fun g j c rd base s K hh=>?_⟩
 simp only[Env.ak] at hh
 cases hb:(Nat.beq g f&&Nat.beq j k) with
 |true=>
  rw[hb] at hh
  obtain⟨rfl,hsp⟩:=hh
  obtain⟨I,n0,h0,hI⟩:=h _ _ _ _ hsp
  exact Dx hE hM I n0 h0 hI
 |false=>rw[hb] at hh;exact hE.loop _ _ _ _ _ _ _ hh
def Hq(n:Nat)(r:AV)(st:List Obj)(K:AV->List Obj->Prop):Prop:=
 aX (pw n st (refs r) (ig n st (refs r))) (xf (lG (fun i=>jZ i (ig n st (refs r)) 0) r) fun r'=>uw (gA (fun i=>jZ i (ig n st (refs r)) 0) (gT st (ig n st (refs r)))) fun st'=>K r' st')
def TE(P:Program)(Ts:List TypeId)(n:Nat)(r:AV)(st:List Obj)(K:AV->List Obj->Prop):Prop:=
 match ck st r with
 |some r'=>Hq n (Mr P Ts r') (cP st (rowsOf r)) K
 |none=>Hq n r st K
def OX(P:Program)(own:Bool)(Ts:List TypeId)(n:Nat)(r:AV)(st:List Obj)(K:AV->List Obj->Prop):Prop:=
 match own with
 |true=>Hq n r st K
 |false=>TE P Ts n r st K
def a8(E:Env)(N:Nat)(f:FuncId)(args:List AV)(st:List Obj)(K:AV->List Obj->Prop):Prop:=
 match E.P.funcs[f]? with
 | some fn=>
  (match fn.body with
   | some c=>
    vc E N f none st.length c {bn:=args++bG (fn.ntmps - args.length),st} fun e s=>
     match e with
     | .normal| .ret=>(match w8 E.P s fn.results.toList with|some l=>OX E.P (E.fresh f) fn.resultTypes.toList st.length (mF l) s.st K|none=>False)
     |_=>False
   |none=>False)
 |none=>False
theorem rR{C C':Ctx}{n:Nat}{r:AV}{v:Value}{K:AV->List Obj->Prop}(hI:Inv C')(hP:C'.P=C.P)(he:Ext n C C')(hr:Rel C' r v)(h:Hq n r C'.st K):eO C n K (.returned v) C'.w:=by
 obtain⟨h1,h2⟩:=aq.1 h
 simp only[mP,kK] at h2
 obtain⟨g1,g2,g3⟩:=vW hI h1
 refine⟨v,_,C'.by (ig n C'.st (refs r)),rfl,rfl,hP,g1,hr.move g2.keeps hI.lay _ (fun i hi _=>?_),he.trans g2 (Nat.le_refl _),h2⟩
 obtain⟨j,hj⟩:=g3 i hi
 exact⟨j,hj,me hj⟩
theorem JM{C:Ctx}{n:Nat}{P:Pg}(hPC:C.P=P){own:Bool}{Ts:List TypeId}{K:AV->List Obj->Prop}{e:Ending}{w:World}(h:eO C n (fun r st=>OX P own Ts n r st K) e w):eO C n K e w:=by
 obtain⟨v,r,C',rfl,rfl,hP,hI,hr,he,hK⟩:=h
 unfold OX at hK
 cases own with
 |true=>exact rR hI hP he hr hK
 |false=>
 unfold TE at hK
 simp only at hK
 split at hK
 ·rename_i r' hp
  obtain⟨C1,f1,f2,f3,f4,f5,f6,f7⟩:=oM hI hp hr
  rw[←f1] at hK
  have f6:=H6 f4 (Ts:=Ts) f6
  rw[(f5.P.trans hP).trans hPC] at f6
  have:=rR f4 (f5.P.trans hP) (he.trans (f5.mono he.len) (Nat.le_refl _)) f6 hK
  rw[f2] at this;exact this
 ·exact rR hI hP he hr hK
theorem iK{E:Env}(hE:aB E)(hM:aj E){N:Nat}{f:FuncId}{args:List AV}{st:List Obj}{K:AV->List Obj->Prop}(h:a8 E N f args st K):cM E.P f args st K:=by
 unfold a8 at h
 split at h<;>try exact h.elim
 rename_i fn hf
 split at h<;>try exact h.elim
 rename_i c hc
 refine⟨⟨fn,hf,by rw[hc];rfl⟩,fun C vs hC hI hst hm=>?_⟩
 subst hst
 have:=wX (K:=fun r st=>OX E.P (E.fresh f) fn.resultTypes.toList C.st.length r st K) hf hc hC hI hm (xP hE hM N _ _ _ _ _ _ h) 0
 exact this.mono (fun e w' he=>JM hC he)
def bt(E:Env)(N f:Nat)(sp:dr):Prop:=∀args st K,sp args st K->a8 E N f args st K
def Env.ax(E:Env)(f:Nat)(sp:dr):Env:=
 {E with call:=fun g args st K=>bif Nat.beq g f then sp args st K else E.call g args st K}
theorem aj.ax{E:Env}(hM:aj E){f:Nat}{sp:dr}(hs:sp.ji):aj (E.ax f sp):=by
 refine⟨fun g args st K K' hK h=>?_,hM.loop,hM.ke⟩
 simp only[Env.ax] at h⊢
 cases hb:Nat.beq g f with
 |true=>rw[hb] at h;exact hs _ _ _ _ hK h
 |false=>rw[hb] at h;exact hM.call _ _ _ _ _ hK h
theorem aB.gZ{E:Env}(hE:aB E){f:Nat}{sp:dr}(h: ∀args st K,sp args st K->cM E.P f args st K):aB (E.ax f sp):=by
 refine⟨hE.prog,hE.gR,fun g args st K hh=>?_,hE.ke,hE.loop⟩
 simp only[Env.ax] at hh
 cases hb:Nat.beq g f with
 |true=>
  rw[hb] at hh
  obtain rfl:=Nat.eq_of_beq_eq_true hb
  exact h _ _ _ hh
 |false=>rw[hb] at hh;exact hE.call _ _ _ _ hh
theorem aB.ax{E:Env}(hE:aB E)(hM:aj E){N f:Nat}{sp:dr}(h:bt E N f sp):aB (E.ax f sp):=
 hE.gZ fun _ _ _ hh=>iK hE hM (h _ _ _ hh)
def Aj(l:List AV):Bool:=match cW l with|[]=>true|_=>false
def Env.aH(E:Env)(f:Nat)(g:List AV->Option (Bool×AV)):Env:=
 {E with gR:=fun h as=>bif Nat.beq h f then(bif Aj as then g as else none) else E.gR h as}
def cU(E:Env)(N f:Nat)(g:List AV->Option (Bool×AV)):Prop:=
 ∀as x,g as=some (true,x)->∃u,x= .lit u/\bg u=true/\a8 E N f as [] (fun r _=>r= .lit u)
theorem aj.aH{E:Env}(hM:aj E){f:Nat}{g:List AV->Option (Bool×AV)}:aj (E.aH f g):=⟨hM.call,hM.loop,hM.ke⟩
def iB(P:Pg)(f:Nat)(g:List AV->Option (Bool×AV)):Prop:=
 ∀as x,Aj as=true->g as=some (true,x)->∃fn u,P.funcs[f]? =some fn/\fn.body.isSome=true/\x= .lit u/\bg u=true/\
  ∀(C:Ctx) (vs:Array Value),C.P=P->Inv C->MT C as vs.toList->CallsIn Fence.wide 0 P f vs C.w (fun e w'=>e= .returned u/\gU C.w w')
theorem oa{E:Env}(hE:aB E)(hM:aj E){N f:Nat}{g:List AV->Option (Bool×AV)}(h:cU E N f g):iB E.P f g:=by
 intro as x hn hh
 obtain⟨u,rfl,hu,hf⟩:=h as x hh
 obtain⟨⟨fn,k1,k2⟩,k3⟩:=iK hE hM hf
 refine⟨fn,u,k1,k2,rfl,hu,fun C vs hC hI hm=>?_⟩
 have hrefs:cW as=[]:=by
  unfold Aj at hn
  split at hn
  ·assumption
  ·cases hn
 have hk:bQ C {C with st:=[]}:=⟨rfl,fun _ h=>h,fun _ _=>rfl⟩
 have hI0:Inv {C with st:=[]}:=⟨hI.lay,fun i hi=>by simp at hi,fun i j hi=>by simp at hi,hI.xs,fun i hi=>by simp at hi,hI.pg,hI.kept⟩
 have hm0:=ki (C':={C with st:=[]}) hk hI.lay some as vs.toList (fun i hi=>by rw[hrefs] at hi;simp at hi) hm
 rw[fD] at hm0
 refine(k3 {C with st:=[]} vs hC hI0 rfl hm0).mono ?_
 rintro e w' ⟨v,r,C',rfl,rfl,hP,hI',hr,he,rfl⟩
 have:=aQ hr
 subst this
 exact⟨rfl,he.size,he.os,he.tape,he.output,fun b hb=>he.frame b hb (fun⟨i,hi,_⟩=>by simp at hi)⟩
theorem aB.fp{E:Env}(hE:aB E){f:Nat}{g:List AV->Option (Bool×AV)}(h:iB E.P f g):aB (E.aH f g):=by
 refine⟨hE.prog,fun k as x hh=>?_,hE.call,hE.ke,hE.loop⟩
 simp only[Env.aH] at hh
 cases hb:Nat.beq k f with
 |false=>rw[hb] at hh;exact hE.gR k as x hh
 | true=>
  obtain rfl:=Nat.eq_of_beq_eq_true hb
  rw[hb] at hh
  cases hn:Aj as with
  |false=>rw[hn] at hh;simp at hh
  |true=>
   rw[hn] at hh
   obtain⟨fn,u,h1,h2,h3,h4,h5⟩:=h as x hn hh
   exact⟨fn,h1,h2, .inl ⟨u,h3,h4,h5⟩⟩
def Env.fe(E:Env)(f:Nat)(g:List AV->Option (Bool×AV)):Env:=
 {E with gR:=fun h as=>bif Nat.beq h f then(bif uG as then g as else none) else E.gR h as}
def re(E:Env)(N f:Nat)(g:List AV->Option (Bool×AV)):Prop:=
 ∀as x,g as=some (true,x)->refs x=[]/\a8 E N f as [] (fun r _=>r=x)
theorem aj.fe{E:Env}(hM:aj E){f:Nat}{g:List AV->Option (Bool×AV)}:aj (E.fe f g):=⟨hM.call,hM.loop,hM.ke⟩
theorem aB.fe{E:Env}(hE:aB E)(hM:aj E){N f:Nat}{g:List AV->Option (Bool×AV)}(h:re E N f g):aB (E.fe f g):=by
 refine⟨hE.prog,fun k as x hh=>?_,hE.call,hE.ke,hE.loop⟩
 simp only[Env.fe] at hh
 cases hb:Nat.beq k f with
 |false=>rw[hb] at hh;exact hE.gR k as x hh
 | true=>
  obtain rfl:=Nat.eq_of_beq_eq_true hb
  rw[hb] at hh
  cases hn:uG as with
  |false=>rw[hn] at hh;simp at hh
  |true=>
   rw[hn] at hh
   obtain⟨hx,hf⟩:=h as x hh
   obtain⟨⟨fn,k1,k2⟩,k3⟩:=iK hE hM hf
   refine⟨fn,k1,k2, .inr ⟨rfl,hx,fun C vs hC hI hm=>?_⟩⟩
   refine(k3 C.bare vs hC (Lo hI) rfl (y4 _ _ hn hm)).mono ?_
   rintro e w' ⟨v,r,C',rfl,rfl,hP,hI',hr,he,rfl⟩
   exact⟨v,C',rfl,rfl,hP,hI',hr,he⟩
theorem aB.aH{E:Env}(hE:aB E)(hM:aj E){N f:Nat}{g:List AV->Option (Bool×AV)}(h:cU E N f g):aB (E.aH f g):=
 hE.fp (oa hE hM h)
def below(g:List AV->Option (Bool×AV))(μ:List AV->Nat)(n:Nat)(as:List AV):Option (Bool×AV):=
 match g as with
 |some (c,x)=>some (c&&Nat.blt (μ as) n,x)
 |none=>none
theorem aB.u7{P:Pg}{f:Nat}(g:List AV->Option (Bool×AV))(μ:List AV->Nat){N:Nat}(ext:Nat->Env)
  (hext: ∀n,iB P f (below g μ n)->aB (ext n)/\aj (ext n)/\(ext n).P=P) (h: ∀n,cU (ext n) N f (fun as=>bif Nat.beq (μ as) n then g as else none)):iB P f g:=by
 have key: ∀n,iB P f (fun as=>bif Nat.beq (μ as) n then g as else none):=by
  intro n
  induction n using Nat.strongRecOn with
  | _ n ih=>
   have hb:iB P f (below g μ n):=by
    intro as x hn hh
    unfold below at hh
    split at hh
    ·rename_i c y hg
     simp only[aa4,ab0,aa2] at hh
     obtain⟨⟨rfl,hlt⟩,rfl⟩:=hh
     refine ih (μ as) (by simpa[Nat.blt_eq] using hlt) as _ hn ?_
     simp only
     rw[show Nat.beq (μ as) (μ as)=true from Nat.beq_refl _]
     exact hg
    ·cases hh
   obtain⟨h1,h2,h3⟩:=hext n hb
   have:=oa h1 h2 (h n)
   rwa [h3] at this
 intro as x hn hh
 refine key (μ as) as x hn ?_
 simp only
 rw[show Nat.beq (μ as) (μ as)=true from Nat.beq_refl _]
 exact hh
def Env.none(P:Pg)(live:FuncId->Nat->List (Nat×Option TypeId))(inl own quiet:FuncId->Bool):Env:=
 {P,call:=fun _ _ _ _=>False,gR:=fun _ _=>Option.none,loop:=fun _ _ _ _ _ _ _=>False,ke:=fun _ _ _ _ _ _=>False,gen:=fun _=>false,inl,live,own,quiet}
def Env.jr(E:Env)(fresh:FuncId->Bool):Env:={E with fresh:=fresh}
def Env.iX(E:Env)(calm:FuncId->Bool):Env:={E with calm:=calm}
theorem aB.iX{E:Env}(hE:aB E)(calm:FuncId->Bool):aB (E.iX calm):=⟨hE.prog,hE.gR,hE.call,hE.ke,hE.loop⟩
theorem aj.iX{E:Env}(hM:aj E)(calm:FuncId->Bool):aj (E.iX calm):=⟨hM.call,hM.loop,hM.ke⟩
theorem aB.jr{E:Env}(hE:aB E)(fresh:FuncId->Bool):aB (E.jr fresh):=⟨hE.prog,hE.gR,hE.call,hE.ke,hE.loop⟩
theorem aj.jr{E:Env}(hM:aj E)(fresh:FuncId->Bool):aj (E.jr fresh):=⟨hM.call,hM.loop,hM.ke⟩
theorem aB.none{P:Pg}(hP:qi P){live:FuncId->Nat->List (Nat×Option TypeId)}{inl own quiet:FuncId->Bool}:aB (Env.none P live inl own quiet):=
 ⟨hP,fun _ _ _ h=>by simp[Env.none] at h,fun _ _ _ _ h=>h.elim,fun _ _ _ _ _ _ h=>h.elim,fun _ _ _ _ _ _ _ h=>h.elim⟩
theorem aj.none{P:Pg}{live:FuncId->Nat->List (Nat×Option TypeId)}{inl own quiet:FuncId->Bool}:aj (Env.none P live inl own quiet):=
 ⟨fun _ _ _ _ _ _ h=>h,fun _ _ _ _ _ _ _ _ _ h=>h,fun _ _ _ _ _ _ _ _ h=>h⟩
end Go.Dn
