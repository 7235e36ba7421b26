import Derived.Test.YtioeffnadipbaaaGreatDoorDoC
import Derived.Sort.LoopGhostIn
namespace Go.Dn
open Go
def lB(k:Nat):Exit->Nat
 | .exit id=>1000*(k+1)+2+id
 |_=>1000*(k+1)+1
def bj(E:Env)(f k base:Nat)(I:Nat->S->Prop)(n:Nat)(K:Exit->S->Prop):Exit->S->Prop
 | .normal,s=>aV (jI E.P (E.live f k) base s) (CF (canon E.P (E.live f k) base s) fun s'=>∃m,m<n/\I m s')
 |e,s=>aV (jI E.P (E.live f (lB k e)) base s) (CF (canon E.P (E.live f (lB k e)) base s) fun s'=>K e s')
def Nm(E:Env)(f k base:Nat)(I:Nat->S->Prop)(n:Nat)(K:Exit->S->Prop):Exit->S->Prop
 | .normal,s=>aV (jI E.P (E.live f k) base s) (∃m,m<n/\I m (canon E.P (E.live f k) base s))
 |e,s=>aV (jI E.P (E.live f (lB k e)) base s) (K e (canon E.P (E.live f (lB k e)) base s))
theorem Nn{E f k base I n K}:bj E f k base I n K=Nm E f k base I n K:=by
 funext e s
 simp_all[bj,Nm,kn]
theorem FM{E}(hE:aE E)(hM:aj E){N f k:Nat}{c rd base s K} I n0(h0:I n0 s)
  (h: ∀n s',I n s'->vc E N f rd base c s' (bj E f k base I n K)):Sound E.P rd base (.loop c) s K:=by
 simp only[Nn] at h;intro C a F n lo hC hI hs hd hlo hb hF;refine wpIn_loop_ghost (fun m a w=>∃C' s',C'.w=w/\C'.P=C.P/\Inv C'/\db C' s' a/\hH lo C' a.defers/\base<=s'.st.length/\Ext base C C'/\I m s') n0
  ⟨C,s,rfl,rfl,hI,hs,hd,hb,Ext.refl C (by rw[hs.st];exact hb),h0⟩ ?_
 rintro m a w ⟨C',s',rfl,hP',hI',hs',hd',hb',he',hm⟩;refine wpIn_mono (zR hE hM N _ _ _ _ _ _ (h m s' hm) C' a F n lo (hP'.trans hC) hI' hs' hd' (Nat.le_trans hlo he'.size) hb' (hF.ext he')) ?_;intro e a2 w2 hp;have out: ∀{e:Exit},eW lo base C' (fun e s=>aV (jI E.P (E.live f (lB k e)) base s) (K e (canon E.P (E.live f (lB k e)) base s))) e a2 w2->eW lo base C K e a2 w2:=by
  rintro e ⟨C2,s2,rfl,hP2,hI2,hs2,hd2,hb2,he2,hk⟩;obtain⟨hk1,hk2⟩:=ai.1 hk;obtain⟨C3,k1,k2,k3,k4,k5⟩:=vR E.P _ hI2 hs2 hb2 hk1;exact⟨C3,_,k1,k4.P.trans (hP2.trans hP'),k2,k3,hd2.ext k4,k5,(he'.trans he2 (Nat.le_refl _)).trans k4 (Nat.le_refl _),hk2⟩
 cases e with
 |normal=>
  obtain⟨C2,s2,rfl,hP2,hI2,hs2,hd2,hb2,he2,hk⟩:=hp;obtain⟨hk1,m',hlt,hi⟩:=ai.1 hk;obtain⟨C3,k1,k2,k3,k4,k5⟩:=vR E.P (E.live f k) hI2 hs2 hb2 hk1;exact⟨m',hlt,C3,_,k1,k4.P.trans (hP2.trans hP'),k2,k3,hd2.ext k4,k5,(he'.trans he2 (Nat.le_refl _)).trans k4 (Nat.le_refl _),hi⟩
 |exit id=>exact out hp
 |goto l=>exact out hp
 |ret=>exact out hp
 |panic ch=>exact out hp
 |outgrown=>exact out hp
def Bf:Option Code->Option Code->Option Code
 |some c,_=>some c
 |none,d=>d
def ie(k:Nat):Code->Option Code
 | .loop c=>(match l4 c with|some n=>(bif Nat.beq n k then some c else ie k c)|none=>ie k c)
 | .seq a b=>Bf (ie k a) (ie k b)
 | .cond _ a b=>Bf (ie k a) (ie k b)
 | .block _ c| .scope c=>ie k c
 | .rangeFunc _ _ a b=>Bf (ie k a) (ie k b)
 |_=>none
def ad(P:Program)(f k:Nat):Code:=
 match P.funcs[f]? with
 |some a=>match a.body with|some c=>(match ie k c with|some d=>d|none=> .skip)|none=> .skip
 |none=> .skip
abbrev jN:=Option Nat->Nat->S->(Exit->S->Prop)->Prop
abbrev dL:=List AV->List Obj->(AV->List Obj->Prop)->Prop
def jN.fU(sp:jN):=∀b base s K a,(∀e s,K e s->a e s)->sp b base s K->sp b base s a
def dL.fU(sp:dL):=∀b st K c,(∀a st,K a st->c a st)->sp b st K->sp b st c
def aU E(N f k:Nat)(sp:jN):=
 ∀rd base s K,sp rd base s K->∃(I:Nat->S->Prop) (n0:Nat),I n0 s/\∀n s',I n s'->vc E N f rd base (ad E.P f k) s' (bj E f k base I n K)
def Env.an(E:Env)(f k:Nat)(sp:jN):=
 {E with loop:=fun g j c a base s K=>bif Nat.beq g f&&Nat.beq j k then c=ad E.P f k/\sp a base s K else E.loop g j c a base s K}
theorem aj.an{E}(a:aj E){f k sp}(e:sp.fU):aj (E.an f k sp):=by
 refine⟨a.call,fun g j c i base s K l d h=>?_,a.lp⟩;simp only[Env.an] at h⊢;cases b:Nat.beq g f&&Nat.beq j k with
 |true=>rw[b] at h;exact⟨h.1,e _ _ _ _ _ d h.2⟩
 |false=>rw[b] at h;exact a.loop _ _ _ _ _ _ _ _ d h
theorem aE.an{E}(a:aE E)(i:aj E){N f k sp}(h:aU E N f k sp):aE (E.an f k sp):=by
 refine⟨a.prog,a.gV,a.call,a.lp,fun g j c n base s K b=>?_⟩;simp only[Env.an] at b;cases e:Nat.beq g f&&Nat.beq j k with
 |true=>
  rw[e] at b;obtain⟨rfl,d⟩:=b;obtain⟨I,o,l,m⟩:=h _ _ _ _ d;exact FM a i I _ l m
 |false=>rw[e] at b;exact a.loop _ _ _ _ _ _ _ b
def HU n r st(K:AV->List _->Prop):=
 aV (pY n st (refs r) (iX n st (refs r))) (wi (mM (fun i=>j3 i (iX n st (refs r)) 0) r) fun r'=>wj (gg (fun i=>j3 i (iX n st (refs r)) 0) (fY st (iX n st (refs r)))) fun st'=>K r' st')
def YT(P:Program)(Ts:List TypeId)(n:Nat)(r:AV)(st:List Obj)(K:AV->List Obj->Prop):Prop:=
 match cg st r with
 |some a=>HU n (MK P Ts a) (cF st (rowsOf r)) K
 |none=>HU n r st K
def Ra P a(Ts:List TypeId)(n:Nat)(r:AV)(st:List Obj)(K:AV->List Obj->Prop):=
 match a with
 |true=>HU n r st K
 |false=>YT P Ts n r st K
def a0(E:Env)(N:Nat)(f:FuncId)(a:List AV)(st:List Obj)(K:AV->List Obj->Prop):Prop:=
 match E.P.funcs[f]? with
 | some b=>
  match b.body with
   | some c=>
    vc E N f none st.length c {bC:=a++bM (b.ntmps - a.length),st} fun e s=>
     match e with
     | .normal| .ret=>match xI E.P s b.results.toList with|some l=>Ra E.P (E.fresh f) b.resultTypes.toList st.length (nu l) s.st K|none=>False
     |_=>False
   |none=>False
 |none=>False
theorem sO{C C' n r v K}(hI:Inv C')(hP:C'.P=C.P)(he:Ext n C C')(hr:Rel C' r v)(h:HU n r C'.st K):eI C n K (.returned v) C'.w:=by
 obtain⟨h1,h2⟩:=ai.1 h;simp[mZ,kO] at h2;obtain⟨g1,g2,g3⟩:=vO hI h1;refine⟨v,_,C'.by _,rfl,rfl,hP,g1,hr.move g2.keeps hI.lay _ fun i hi _=>?_,he.trans g2 (Nat.le_refl _),h2⟩
 grind [ml]
theorem ME{C n}{P:Pg}(hPC:C.P=P){own Ts K e w}(h:eI C n (fun r st=>Ra P own Ts n r st K) e w):eI C n K e w:=by
 obtain⟨v,r,C',rfl,rfl,hP,hI,hr,he,hK⟩:=h;unfold Ra at hK;cases own with
 |true=>grind [sO]
 |false=>
 unfold YT at hK;simp  at hK;split at hK
 ·rename_i r' hp
  obtain⟨C1,f1,f2,f3,f4,f5,f6,f7⟩:=pB hI hp hr;rw[←f1] at hK;have f6:=JQ f4 (Ts:=Ts) f6;rw[(f5.P.trans hP).trans hPC] at f6;have:=sO f4 (f5.P.trans hP) (he.trans (f5.mono he.len) (Nat.le_refl _)) f6 hK
  grind
 grind [sO]
theorem gP{E}(k:aE E)(l:aj E){N f a st K}(h:a0 E N f a st K):b7 E.P f a st K:=by
 unfold a0 at h;split at h<;>try grind
 rename_i p i;split at h<;>try exact h.elim
 rename_i c j;refine⟨by grind,fun C o d n b m=>?_⟩;subst b;have:=vL (K:=fun r st=>Ra E.P _ _ _ r st K) i j d n m (zR k l N _ _ _ _ _ _ h) 0
 exact this.mono (fun e q g=>ME d g)
def bc E(N f:Nat)(sp:dL):=∀a st K,sp a st K->a0 E N f a st K
def Env.aw(E:Env)(f:Nat)(sp:dL):=
 {E with call:=fun g a st K=>bif Nat.beq g f then sp a st K else E.call g a st K}
theorem aj.aw{E}(a:aj E){f sp}(e:sp.fU):aj (E.aw f sp):=by
 refine⟨fun g d st K i c h=>?_,a.loop,a.lp⟩;simp only[Env.aw] at h⊢;cases b:Nat.beq g f with
 |true=>rw[b] at h;exact e _ _ _ _ c h
 |false=>rw[b] at h;exact a.call _ _ _ _ _ c h
theorem aE.fK{E}(b:aE E){f:Nat}{sp}(h: ∀a st K,sp a st K->b7 E.P f a st K):aE (E.aw f sp):=by
 refine⟨b.prog,b.gV,fun g a st K c=>?_,b.lp,b.loop⟩;simp only[Env.aw] at c;cases d:Nat.beq g f with
 |true=>
  rw[d] at c;obtain rfl:=Nat.eq_of_beq_eq_true d;exact h _ _ _ c
 |false=>rw[d] at c;exact b.call _ _ _ _ c
theorem aE.aw{E}(a:aE E)(c:aj E){N f sp}(h:bc E N f sp):aE (E.aw f sp):=
 a.fK fun _ _ _ b=>gP a c (h _ _ _ b)
def Ba(l:List AV):Bool:=match cX l with|[]=>true|_=>false
def Env.aK(E:Env)(f:Nat)(g:List _->Option _):=
 {E with gV:=fun h a=>bif Nat.beq h f then bif Ba a then g a else none else E.gV h a}
def cd E(N f:Nat)(g:List _->Option (Bool×AV)):=
 ∀a x,g a=some (true,x)->∃u,x= .lit u/\bg u=true/\a0 E N f a [] fun r _=>r= .lit u
theorem aj.aK{E}(a:aj E){f g}:aj (E.aK f g):=⟨a.call,a.loop,a.lp⟩
def gq(P:Pg)(f:Nat)(g:List _->Option (Bool×AV)):=
 ∀a x,Ba a=true->g a=some (true,x)->∃b u,P.funcs[f]? =some b/\b.body.isSome=true/\x= .lit u/\bg u=true/\
  ∀C c,C.P=P->Inv C->MT C a c.toList->CallsIn Fence.wide 0 P f c C.w fun e d=>e= .returned u/\hJ C.w d
theorem mC{E}(hE:aE E)(hM:aj E){N f g}(h:cd E N f g):gq E.P f g:=by
 intro as x hn hh;obtain⟨u,rfl,hu,hf⟩:=h as x hh;obtain⟨⟨fn,k1,k2⟩,k3⟩:=gP hE hM hf;refine⟨fn,u,k1,k2,rfl,hu,fun C vs hC hI hm=>?_⟩;have hrefs:cX as=[]:=by
  grind [Ba]
 have hk:bP C {C with st:=[]}:=⟨rfl,fun _ h=>h,fun _ _=>rfl⟩
 have hI0:Inv {C with st:=[]}:=⟨hI.lay,fun i hi=>by simp at hi,fun i j hi=>by simp at hi,hI.xs,fun i hi=>by simp at hi,hI.nT,hI.kept⟩
 have hm0:=lq  hk hI.lay some as vs.toList (by grind) hm;rw[gm] at hm0;refine(k3 {C with st:=[]} vs hC hI0 rfl hm0).mono ?_;rintro e w' ⟨v,r,C',rfl,rfl,hP,hI',hr,he,rfl⟩;have:=aX hr
 subst this;exact⟨rfl,he.size,he.os,he.tape,he.output,fun b hb=>he.frame b hb (fun⟨i,hi,_⟩=>by simp at hi)⟩
theorem aE.eK{E}(b:aE E){f g}(h:gq E.P f g):aE (E.aK f g):=by
 refine⟨b.prog,fun k e x a=>?_,b.call,b.lp,b.loop⟩;simp[Env.aK] at a;cases c:Nat.beq k f with
 |false=>rw[c] at a;exact b.gV k _ x a
 | true=>
  obtain rfl:=Nat.eq_of_beq_eq_true c;rw[c] at a;cases d:Ba e with
  |false=>grind
  |true=>
   rw[d] at a;obtain⟨o,u,j,l,i,m,n⟩:=h _ x d a;exact⟨_,j,l, .inl ⟨u,i,m,n⟩⟩
def Env.kF(E:Env)(f:Nat)(g:List _->Option _):=
 {E with gV:=fun h a=>bif Nat.beq h f then bif wT a then g a else none else E.gV h a}
def zZ E(N f:Nat)(g:List _->Option _):=
 ∀a x,g a=some (true,x)->refs x=[]/\a0 E N f a [] fun r _=>r=x
theorem aj.kF{E}(a:aj E){f g}:aj (E.kF f g):=⟨a.call,a.loop,a.lp⟩
theorem aE.kF{E}(hE:aE E)(hM:aj E){N f g}(h:zZ E N f g):aE (E.kF f g):=by
 refine⟨hE.prog,fun k as x hh=>?_,hE.call,hE.lp,hE.loop⟩;simp[Env.kF] at hh;cases hb:Nat.beq k f with
 |false=>rw[hb] at hh;exact hE.gV k as x hh
 | true=>
  obtain rfl:=Nat.eq_of_beq_eq_true hb;rw[hb] at hh;cases hn:wT _ with
  |false=>grind
  |true=>
   rw[hn] at hh;obtain⟨hx,hf⟩:=h _ x hh;obtain⟨⟨fn,k1,k2⟩,k3⟩:=gP hE hM hf;refine⟨fn,k1,k2, .inr ⟨rfl,hx,fun C vs hC hI hm=>?_⟩⟩;refine(k3 C.bare vs hC (Mo hI) rfl (Ac _ _ hn hm)).mono ?_;rintro e w' ⟨v,r,C',rfl,rfl,hP,hI',hr,he,rfl⟩;exact⟨v,C',rfl,rfl,hP,hI',hr,he⟩
theorem aE.aK{E}(a:aE E)(b:aj E){N f g}(h:cd E N f g):aE (E.aK f g):=
 a.eK (mC a b h)
def below(g:List AV->Option (Bool×AV))(μ:List AV->Nat)(n:Nat)(a:List AV):Option (Bool×AV):=
 match g a with
 |some (c,x)=>some (c&&Nat.blt (μ a) n,x)
 |none=>none
theorem aE.vC{P f} g μ{N}(b:Nat->Env)
  (i: ∀n,gq P f (below g μ n)->aE (b n)/\aj (b n)/\(b n).P=P) (h: ∀n,cd (b n) N f fun a=>bif Nat.beq (μ a) n then g a else none):gq P f g:=by
 have d: ∀n,gq P f (fun a=>bif Nat.beq (μ a) n then g a else none):=by
  intro n;induction n using Nat.strongRecOn with
  | _ n k=>
   have l:gq P f (below g μ n):=by
    intro a x e c;unfold below at c;split at c
    ·simp only[ar7,as3,ar5] at c
     obtain⟨⟨rfl,j⟩,rfl⟩:=c;refine k (μ a) (by simp_all) a _ e ?_
     simp_all
    ·cases c
   grind [mC]
 intro a x e c;refine d (μ a) a x e ?_
 simp_all
def Env.none(P:Pg)(live:FuncId->Nat->List (Nat×Option TypeId))(inl own quiet:FuncId->Bool):Env:=
 {P,call:=fun _ _ _ _=>False,gV:=fun _ _=>Option.none,loop:=fun _ _ _ _ _ _ _=>False,lp:=fun _ _ _ _ _ _=>False,gen:=fun _=>false,inl,live,own,quiet}
def Env.jH(E:Env) fresh:={E with fresh:=fresh}
def Env.js(E:Env) calm:={E with calm:=calm}
theorem aE.js{E}(b:aE E) a:aE (E.js a):=⟨b.prog,b.gV,b.call,b.lp,b.loop⟩
theorem aj.js{E}(b:aj E) a:aj (E.js a):=⟨b.call,b.loop,b.lp⟩
theorem aE.jH{E}(b:aE E) a:aE (E.jH a):=⟨b.prog,b.gV,b.call,b.lp,b.loop⟩
theorem aj.jH{E}(b:aj E) a:aj (E.jH a):=⟨b.call,b.loop,b.lp⟩
theorem aE.none{P:Pg}(d:qi P){a c b quiet}:aE (Env.none P a c b quiet):=
 ⟨d,fun _ _ _ h=>by grind [Env.none],fun _ _ _ _ h=>h.elim,fun _ _ _ _ _ _ h=>h.elim,fun _ _ _ _ _ _ _ h=>h.elim⟩
theorem aj.none{P a c b quiet}:aj (Env.none P a c b quiet):=
 ⟨fun _ _ _ _ _ _ h=>h,fun _ _ _ _ _ _ _ _ _ h=>h,fun _ _ _ _ _ _ _ _ h=>h⟩
end Go.Dn
