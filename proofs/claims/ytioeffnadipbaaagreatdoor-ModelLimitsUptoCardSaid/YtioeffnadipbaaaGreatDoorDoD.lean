import Derived.Test.YtioeffnadipbaaaGreatDoorDoC
import Derived.Sort.LoopGhostIn
namespace Go.Dn
open Go
def l4(k:Nat):Exit->Nat
 | .exit id=>1000*(k+1)+2+id
 |_=>1000*(k+1)+1
def bh(E:Env)(f k base:Nat)(I:Nat->S->Prop)(n:Nat)(K:Exit->S->Prop):Exit->S->Prop
 | .normal,s=>aW (jN E.P (E.live f k) base s) (Dt (canon E.P (E.live f k) base s) fun s'=>∃m,m<n/\I m s')
 |e,s=>aW (jN E.P (E.live f (l4 k e)) base s) (Dt (canon E.P (E.live f (l4 k e)) base s) fun s'=>K e s')
def O2(E:Env)(f k base:Nat)(I:Nat->S->Prop)(n:Nat)(K:Exit->S->Prop):Exit->S->Prop
 | .normal,s=>aW (jN E.P (E.live f k) base s) (∃m,m<n/\I m (canon E.P (E.live f k) base s))
 |e,s=>aW (jN E.P (E.live f (l4 k e)) base s) (K e (canon E.P (E.live f (l4 k e)) base s))
theorem Oz{E f k base I n K}:bh E f k base I n K=O2 E f k base I n K:=by
 funext e s
 simp_all[bh,O2,kz]
theorem FN{E}(hE:aE E)(hM:aj E){N f k:Nat}{c rd base s K} I n0(h0:I n0 s)
  (h: ∀n s',I n s'->vc E N f rd base c s' (bh E f k base I n K)):Sound E.P rd base (.loop c) s K:=by
 simp only[Oz] at h;intro C a F n lo hC hI hs hd hlo hb hF;refine wpIn_loop_ghost (fun m a w=>∃C' s',C'.w=w/\C'.P=C.P/\Inv C'/\cZ C' s' a/\iw lo C' a.defers/\base<=s'.st.length/\Ext base C C'/\I m s') n0
  ⟨C,s,rfl,rfl,hI,hs,hd,hb,Ext.refl C (by rw[hs.st];exact hb),h0⟩ ?_
 rintro m a w ⟨C',s',rfl,hP',hI',hs',hd',hb',he',hm⟩;refine wpIn_mono (zZ hE hM N _ _ _ _ _ _ (h m s' hm) C' a F n lo (hP'.trans hC) hI' hs' hd' (Nat.le_trans hlo he'.size) hb' (hF.ext he')) ?_;intro e a2 w2 hp;have out: ∀{e:Exit},eW lo base C' (fun e s=>aW (jN E.P (E.live f (l4 k e)) base s) (K e (canon E.P (E.live f (l4 k e)) base s))) e a2 w2->eW lo base C K e a2 w2:=by
  rintro e ⟨C2,s2,rfl,hP2,hI2,hs2,hd2,hb2,he2,hk⟩;obtain⟨hk1,hk2⟩:=ai.1 hk;obtain⟨C3,k1,k2,k3,k4,k5⟩:=vG E.P _ hI2 hs2 hb2 hk1;exact⟨C3,_,k1,k4.P.trans (hP2.trans hP'),k2,k3,hd2.ext k4,k5,(he'.trans he2 (Nat.le_refl _)).trans k4 (Nat.le_refl _),hk2⟩
 cases e with
 |normal=>
  obtain⟨C2,s2,rfl,hP2,hI2,hs2,hd2,hb2,he2,hk⟩:=hp;obtain⟨hk1,m',hlt,hi⟩:=ai.1 hk;obtain⟨C3,k1,k2,k3,k4,k5⟩:=vG E.P (E.live f k) hI2 hs2 hb2 hk1;exact⟨m',hlt,C3,_,k1,k4.P.trans (hP2.trans hP'),k2,k3,hd2.ext k4,k5,(he'.trans he2 (Nat.le_refl _)).trans k4 (Nat.le_refl _),hi⟩
 |exit id=>exact out hp
 |goto l=>exact out hp
 |ret=>exact out hp
 |panic ch=>exact out hp
 |outgrown=>exact out hp
def AI:Option Code->Option Code->Option Code
 |some c,_=>some c
 |none,d=>d
def iu(k:Nat):Code->Option Code
 | .loop c=>(match mh c with|some n=>(bif Nat.beq n k then some c else iu k c)|none=>iu k c)
 | .seq a b=>AI (iu k a) (iu k b)
 | .cond _ a b=>AI (iu k a) (iu k b)
 | .block _ c| .scope c=>iu k c
 | .rangeFunc _ _ a b=>AI (iu k a) (iu k b)
 |_=>none
def ad(P:Program)(f k:Nat):Code:=
 match P.funcs[f]? with
 |some a=>match a.body with|some c=>(match iu k c with|some d=>d|none=> .skip)|none=> .skip
 |none=> .skip
abbrev jQ:=Option Nat->Nat->S->(Exit->S->Prop)->Prop
abbrev dc:=List AV->List Obj->(AV->List Obj->Prop)->Prop
def jQ.gw(sp:jQ):=∀b base s K a,(∀e s,K e s->a e s)->sp b base s K->sp b base s a
def dc.gw(sp:dc):=∀b st K c,(∀a st,K a st->c a st)->sp b st K->sp b st c
def aR E(N f k:Nat)(sp:jQ):=
 ∀rd base s K,sp rd base s K->∃(I:Nat->S->Prop) (n0:Nat),I n0 s/\∀n s',I n s'->vc E N f rd base (ad E.P f k) s' (bh E f k base I n K)
def Env.an(E:Env)(f k:Nat)(sp:jQ):=
 {E with loop:=fun g j c a base s K=>bif Nat.beq g f&&Nat.beq j k then c=ad E.P f k/\sp a base s K else E.loop g j c a base s K}
theorem aj.an{E}(a:aj E){f k sp}(e:sp.gw):aj (E.an f k sp):=by
 refine⟨a.call,fun g j c i base s K l d h=>?_,a.lF⟩;simp only[Env.an] at h⊢;cases b:Nat.beq g f&&Nat.beq j k with
 |true=>rw[b] at h;exact⟨h.1,e _ _ _ _ _ d h.2⟩
 |false=>rw[b] at h;exact a.loop _ _ _ _ _ _ _ _ d h
theorem aE.an{E}(a:aE E)(i:aj E){N f k sp}(h:aR E N f k sp):aE (E.an f k sp):=by
 refine⟨a.prog,a.ia,a.call,a.lF,fun g j c n base s K b=>?_⟩;simp only[Env.an] at b;cases e:Nat.beq g f&&Nat.beq j k with
 |true=>
  rw[e] at b;obtain⟨rfl,d⟩:=b;obtain⟨I,o,l,m⟩:=h _ _ _ _ d;exact FN a i I _ l m
 |false=>rw[e] at b;exact a.loop _ _ _ _ _ _ _ b
def Iw n r st(K:AV->List _->Prop):=
 aW (qv n st (refs r) (jw n st (refs r))) (yt (mQ (fun i=>j9 i (jw n st (refs r)) 0) r) fun r'=>vI (gx (fun i=>j9 i (jw n st (refs r)) 0) (gz st (jw n st (refs r)))) fun st'=>K r' st')
def X9(P:Program)(Ts:List TypeId)(n:Nat)(r:AV)(st:List Obj)(K:AV->List Obj->Prop):Prop:=
 match cd st r with
 |some a=>Iw n (MM P Ts a) (cG st (rowsOf r)) K
 |none=>Iw n r st K
def RR P a(Ts:List TypeId)(n:Nat)(r:AV)(st:List Obj)(K:AV->List Obj->Prop):=
 match a with
 |true=>Iw n r st K
 |false=>X9 P Ts n r st K
def a7(E:Env)(N:Nat)(f:FuncId)(a:List AV)(st:List Obj)(K:AV->List Obj->Prop):Prop:=
 match E.P.funcs[f]? with
 | some b=>
  match b.body with
   | some c=>
    vc E N f none st.length c {bB:=a++bO (b.ntmps - a.length),st} fun e s=>
     match e with
     | .normal| .ret=>match wS E.P s b.results.toList with|some l=>RR E.P (E.fresh f) b.resultTypes.toList st.length (nw l) s.st K|none=>False
     |_=>False
   |none=>False
 |none=>False
theorem s8{C C' n r v K}(hI:Inv C')(hP:C'.P=C.P)(he:Ext n C C')(hr:Rel C' r v)(h:Iw n r C'.st K):eL C n K (.returned v) C'.w:=by
 obtain⟨h1,h2⟩:=ai.1 h;simp[nF,lu] at h2;obtain⟨g1,g2,g3⟩:=wH hI h1;refine⟨v,_,C'.by _,rfl,rfl,hP,g1,hr.move g2.keeps hI.lay _ fun i hi _=>?_,he.trans g2 (Nat.le_refl _),h2⟩
 grind [mH]
theorem PE{C n}{P:Pg}(hPC:C.P=P){own Ts K e w}(h:eL C n (fun r st=>RR P own Ts n r st K) e w):eL C n K e w:=by
 obtain⟨v,r,C',rfl,rfl,hP,hI,hr,he,hK⟩:=h;unfold RR at hK;cases own with
 |true=>grind [s8]
 |false=>
 unfold X9 at hK;simp  at hK;split at hK
 ·rename_i r' hp
  obtain⟨C1,f1,f2,f3,f4,f5,f6,f7⟩:=pP hI hp hr;rw[←f1] at hK;have f6:=Ke f4 (Ts:=Ts) f6;rw[(f5.P.trans hP).trans hPC] at f6;have:=s8 f4 (f5.P.trans hP) (he.trans (f5.mono he.len) (Nat.le_refl _)) f6 hK
  grind
 grind [s8]
theorem gW{E}(k:aE E)(l:aj E){N f a st K}(h:a7 E N f a st K):b6 E.P f a st K:=by
 unfold a7 at h;split at h<;>try grind
 rename_i p i;split at h<;>try exact h.elim
 rename_i c j;refine⟨by grind,fun C o d n b m=>?_⟩;subst b;have:=xZ (K:=fun r st=>RR E.P _ _ _ r st K) i j d n m (zZ k l N _ _ _ _ _ _ h) 0
 exact this.mono (fun e q g=>PE d g)
def bg E(N f:Nat)(sp:dc):=∀a st K,sp a st K->a7 E N f a st K
def Env.aw(E:Env)(f:Nat)(sp:dc):=
 {E with call:=fun g a st K=>bif Nat.beq g f then sp a st K else E.call g a st K}
theorem aj.aw{E}(a:aj E){f sp}(e:sp.gw):aj (E.aw f sp):=by
 refine⟨fun g d st K i c h=>?_,a.loop,a.lF⟩;simp only[Env.aw] at h⊢;cases b:Nat.beq g f with
 |true=>rw[b] at h;exact e _ _ _ _ c h
 |false=>rw[b] at h;exact a.call _ _ _ _ _ c h
theorem aE.fV{E}(b:aE E){f:Nat}{sp}(h: ∀a st K,sp a st K->b6 E.P f a st K):aE (E.aw f sp):=by
 refine⟨b.prog,b.ia,fun g a st K c=>?_,b.lF,b.loop⟩;simp only[Env.aw] at c;cases d:Nat.beq g f with
 |true=>
  rw[d] at c;obtain rfl:=Nat.eq_of_beq_eq_true d;exact h _ _ _ c
 |false=>rw[d] at c;exact b.call _ _ _ _ c
theorem aE.aw{E}(a:aE E)(c:aj E){N f sp}(h:bg E N f sp):aE (E.aw f sp):=
 a.fV fun _ _ _ b=>gW a c (h _ _ _ b)
def Bv(l:List AV):Bool:=match cU l with|[]=>true|_=>false
def Env.aK(E:Env)(f:Nat)(g:List _->Option _):=
 {E with ia:=fun h a=>bif Nat.beq h f then bif Bv a then g a else none else E.ia h a}
def cj E(N f:Nat)(g:List _->Option (Bool×AV)):=
 ∀a x,g a=some (true,x)->∃u,x= .lit u/\bf u=true/\a7 E N f a [] fun r _=>r= .lit u
theorem aj.aK{E}(a:aj E){f g}:aj (E.aK f g):=⟨a.call,a.loop,a.lF⟩
def gy(P:Pg)(f:Nat)(g:List _->Option (Bool×AV)):=
 ∀a x,Bv a=true->g a=some (true,x)->∃b u,P.funcs[f]? =some b/\b.body.isSome=true/\x= .lit u/\bf u=true/\
  ∀C c,C.P=P->Inv C->MT C a c.toList->CallsIn Fence.wide 0 P f c C.w fun e d=>e= .returned u/\ir C.w d
theorem mv{E}(hE:aE E)(hM:aj E){N f g}(h:cj E N f g):gy E.P f g:=by
 intro as x hn hh;obtain⟨u,rfl,hu,hf⟩:=h as x hh;obtain⟨⟨fn,k1,k2⟩,k3⟩:=gW hE hM hf;refine⟨fn,u,k1,k2,rfl,hu,fun C vs hC hI hm=>?_⟩;have hrefs:cU as=[]:=by
  grind [Bv]
 have hk:bQ C {C with st:=[]}:=⟨rfl,fun _ h=>h,fun _ _=>rfl⟩
 have hI0:Inv {C with st:=[]}:=⟨hI.lay,fun i hi=>by simp at hi,fun i j hi=>by simp at hi,hI.xs,fun i hi=>by simp at hi,hI.oc,hI.kept⟩
 have hm0:=lI  hk hI.lay some as vs.toList (by grind) hm;rw[gp] at hm0;refine(k3 {C with st:=[]} vs hC hI0 rfl hm0).mono ?_;rintro e w' ⟨v,r,C',rfl,rfl,hP,hI',hr,he,rfl⟩;have:=aV hr
 subst this;exact⟨rfl,he.size,he.os,he.tape,he.output,fun b hb=>he.frame b hb (fun⟨i,hi,_⟩=>by simp at hi)⟩
theorem aE.eQ{E}(b:aE E){f g}(h:gy E.P f g):aE (E.aK f g):=by
 refine⟨b.prog,fun k e x a=>?_,b.call,b.lF,b.loop⟩;simp[Env.aK] at a;cases c:Nat.beq k f with
 |false=>rw[c] at a;exact b.ia k _ x a
 | true=>
  obtain rfl:=Nat.eq_of_beq_eq_true c;rw[c] at a;cases d:Bv e with
  |false=>grind
  |true=>
   rw[d] at a;obtain⟨o,u,j,l,i,m,n⟩:=h _ x d a;exact⟨_,j,l, .inl ⟨u,i,m,n⟩⟩
def Env.kX(E:Env)(f:Nat)(g:List _->Option _):=
 {E with ia:=fun h a=>bif Nat.beq h f then bif x0 a then g a else none else E.ia h a}
def A1 E(N f:Nat)(g:List _->Option _):=
 ∀a x,g a=some (true,x)->refs x=[]/\a7 E N f a [] fun r _=>r=x
theorem aj.kX{E}(a:aj E){f g}:aj (E.kX f g):=⟨a.call,a.loop,a.lF⟩
theorem aE.kX{E}(hE:aE E)(hM:aj E){N f g}(h:A1 E N f g):aE (E.kX f g):=by
 refine⟨hE.prog,fun k as x hh=>?_,hE.call,hE.lF,hE.loop⟩;simp[Env.kX] at hh;cases hb:Nat.beq k f with
 |false=>rw[hb] at hh;exact hE.ia k as x hh
 | true=>
  obtain rfl:=Nat.eq_of_beq_eq_true hb;rw[hb] at hh;cases hn:x0 _ with
  |false=>grind
  |true=>
   rw[hn] at hh;obtain⟨hx,hf⟩:=h _ x hh;obtain⟨⟨fn,k1,k2⟩,k3⟩:=gW hE hM hf;refine⟨fn,k1,k2, .inr ⟨rfl,hx,fun C vs hC hI hm=>?_⟩⟩;refine(k3 C.bare vs hC (OY hI) rfl (Ag _ _ hn hm)).mono ?_;rintro e w' ⟨v,r,C',rfl,rfl,hP,hI',hr,he,rfl⟩;exact⟨v,C',rfl,rfl,hP,hI',hr,he⟩
theorem aE.aK{E}(a:aE E)(b:aj E){N f g}(h:cj E N f g):aE (E.aK f g):=
 a.eQ (mv a b h)
def below(g:List AV->Option (Bool×AV))(μ:List AV->Nat)(n:Nat)(a:List AV):Option (Bool×AV):=
 match g a with
 |some (c,x)=>some (c&&Nat.blt (μ a) n,x)
 |none=>none
theorem aE.xl{P f} g μ{N}(b:Nat->Env)
  (i: ∀n,gy P f (below g μ n)->aE (b n)/\aj (b n)/\(b n).P=P) (h: ∀n,cj (b n) N f fun a=>bif Nat.beq (μ a) n then g a else none):gy P f g:=by
 have d: ∀n,gy P f (fun a=>bif Nat.beq (μ a) n then g a else none):=by
  intro n;induction n using Nat.strongRecOn with
  | _ n k=>
   have l:gy P f (below g μ n):=by
    intro a x e c;unfold below at c;split at c
    ·simp only[an5,ao1,an3] at c
     obtain⟨⟨rfl,j⟩,rfl⟩:=c;refine k (μ a) (by simp_all) a _ e ?_
     simp_all
    ·cases c
   grind [mv]
 intro a x e c;refine d (μ a) a x e ?_
 simp_all
def Env.none(P:Pg)(live:FuncId->Nat->List (Nat×Option TypeId))(inl own quiet:FuncId->Bool):Env:=
 {P,call:=fun _ _ _ _=>False,ia:=fun _ _=>Option.none,loop:=fun _ _ _ _ _ _ _=>False,lF:=fun _ _ _ _ _ _=>False,gen:=fun _=>false,inl,live,own,quiet}
def Env.jK(E:Env) fresh:={E with fresh:=fresh}
def Env.jy(E:Env) calm:={E with calm:=calm}
theorem aE.jy{E}(b:aE E) a:aE (E.jy a):=⟨b.prog,b.ia,b.call,b.lF,b.loop⟩
theorem aj.jy{E}(b:aj E) a:aj (E.jy a):=⟨b.call,b.loop,b.lF⟩
theorem aE.jK{E}(b:aE E) a:aE (E.jK a):=⟨b.prog,b.ia,b.call,b.lF,b.loop⟩
theorem aj.jK{E}(b:aj E) a:aj (E.jK a):=⟨b.call,b.loop,b.lF⟩
theorem aE.none{P:Pg}(d:re P){a c b quiet}:aE (Env.none P a c b quiet):=
 ⟨d,fun _ _ _ h=>by grind [Env.none],fun _ _ _ _ h=>h.elim,fun _ _ _ _ _ _ h=>h.elim,fun _ _ _ _ _ _ _ h=>h.elim⟩
theorem aj.none{P a c b quiet}:aj (Env.none P a c b quiet):=
 ⟨fun _ _ _ _ _ _ h=>h,fun _ _ _ _ _ _ _ _ _ h=>h,fun _ _ _ _ _ _ _ _ h=>h⟩
end Go.Dn
