import Derived.Test.YtioeffnadipbaaaGreatDoorDoC
import Derived.Sort.LoopGhostIn
namespace Go.Dn
open Go
def mf(k:Nat):Exit->Nat
 | .exit id=>1000*(k+1)+2+id
 |_=>1000*(k+1)+1
def bg(E:Env)(f k base:Nat)(I:Nat->S->Prop)(n:Nat)(K:Exit->S->Prop):Exit->S->Prop
 | .normal,s=>aW (kc E.P (E.live f k) base s) (Ej (canon E.P (E.live f k) base s) fun s'=>∃m,m<n/\I m s')
 |e,s=>aW (kc E.P (E.live f (mf k e)) base s) (Ej (canon E.P (E.live f (mf k e)) base s) fun s'=>K e s')
def Pa(E:Env)(f k base:Nat)(I:Nat->S->Prop)(n:Nat)(K:Exit->S->Prop):Exit->S->Prop
 | .normal,s=>aW (kc E.P (E.live f k) base s) (∃m,m<n/\I m (canon E.P (E.live f k) base s))
 |e,s=>aW (kc E.P (E.live f (mf k e)) base s) (K e (canon E.P (E.live f (mf k e)) base s))
theorem Pb{E f k base I n K}:bg E f k base I n K=Pa E f k base I n K:=by
 funext e s
 simp_all[bg,Pa,kW]
theorem Hs{E}(hE:aE E)(hM:aj E){N f k:Nat}{c rd base s K} I n0(h0:I n0 s)
  (h: ∀n s',I n s'->vc E N f rd base c s' (bg E f k base I n K)):Sound E.P rd base (.loop c) s K:=by
 simp only[Pb] at h;intro C a F n lo hC hI hs hd hlo hb hF;refine wpIn_loop_ghost (fun m a w=>∃C' s',C'.w=w/\C'.P=C.P/\Inv C'/\dr C' s' a/\iP lo C' a.defers/\base<=s'.st.length/\Ext base C C'/\I m s') n0
  ⟨C,s,rfl,rfl,hI,hs,hd,hb,Ext.refl C (by rw[hs.st];exact hb),h0⟩ ?_
 rintro m a w ⟨C',s',rfl,hP',hI',hs',hd',hb',he',hm⟩;refine wpIn_mono (Bm hE hM N _ _ _ _ _ _ (h m s' hm) C' a F n lo (hP'.trans hC) hI' hs' hd' (Nat.le_trans hlo he'.size) hb' (hF.ext he')) ?_;intro e a2 w2 hp;have out: ∀{e:Exit},fu lo base C' (fun e s=>aW (kc E.P (E.live f (mf k e)) base s) (K e (canon E.P (E.live f (mf k e)) base s))) e a2 w2->fu lo base C K e a2 w2:=by
  rintro e ⟨C2,s2,rfl,hP2,hI2,hs2,hd2,hb2,he2,hk⟩;obtain⟨hk1,hk2⟩:=ai.1 hk;obtain⟨C3,k1,k2,k3,k4,k5⟩:=xk E.P _ hI2 hs2 hb2 hk1;exact⟨C3,_,k1,k4.P.trans (hP2.trans hP'),k2,k3,hd2.ext k4,k5,(he'.trans he2 (Nat.le_refl _)).trans k4 (Nat.le_refl _),hk2⟩
 cases e with
 |normal=>
  obtain⟨C2,s2,rfl,hP2,hI2,hs2,hd2,hb2,he2,hk⟩:=hp;obtain⟨hk1,m',hlt,hi⟩:=ai.1 hk;obtain⟨C3,k1,k2,k3,k4,k5⟩:=xk E.P (E.live f k) hI2 hs2 hb2 hk1;exact⟨m',hlt,C3,_,k1,k4.P.trans (hP2.trans hP'),k2,k3,hd2.ext k4,k5,(he'.trans he2 (Nat.le_refl _)).trans k4 (Nat.le_refl _),hi⟩
 |exit id=>exact out hp
 |goto l=>exact out hp
 |ret=>exact out hp
 |panic ch=>exact out hp
 |outgrown=>exact out hp
def CF:Option Code->Option Code->Option Code
 |some c,_=>some c
 |none,d=>d
def iW(k:Nat):Code->Option Code
 | .loop c=>(match mK c with|some n=>(bif Nat.beq n k then some c else iW k c)|none=>iW k c)
 | .seq a b=>CF (iW k a) (iW k b)
 | .cond _ a b=>CF (iW k a) (iW k b)
 | .block _ c| .scope c=>iW k c
 | .rangeFunc _ _ a b=>CF (iW k a) (iW k b)
 |_=>none
def ad(P:Program)(f k:Nat):Code:=
 match P.funcs[f]? with
 |some a=>match a.body with|some c=>(match iW k c with|some d=>d|none=> .skip)|none=> .skip
 |none=> .skip
abbrev ki:=Option Nat->Nat->S->(Exit->S->Prop)->Prop
abbrev dN:=List AV->List Obj->(AV->List Obj->Prop)->Prop
def ki.gl(sp:ki):=∀b base s K a,(∀e s,K e s->a e s)->sp b base s K->sp b base s a
def dN.gl(sp:dN):=∀b st K c,(∀a st,K a st->c a st)->sp b st K->sp b st c
def aU E(N f k:Nat)(sp:ki):=
 ∀rd base s K,sp rd base s K->∃(I:Nat->S->Prop) (n0:Nat),I n0 s/\∀n s',I n s'->vc E N f rd base (ad E.P f k) s' (bg E f k base I n K)
def Env.an(E:Env)(f k:Nat)(sp:ki):=
 {E with loop:=fun g j c a base s K=>bif Nat.beq g f&&Nat.beq j k then c=ad E.P f k/\sp a base s K else E.loop g j c a base s K}
theorem aj.an{E}(a:aj E){f k sp}(e:sp.gl):aj (E.an f k sp):=by
 refine⟨a.call,fun g j c i base s K l d h=>?_,a.ll⟩;simp only[Env.an] at h⊢;cases b:Nat.beq g f&&Nat.beq j k with
 |true=>rw[b] at h;exact⟨h.1,e _ _ _ _ _ d h.2⟩
 |false=>rw[b] at h;exact a.loop _ _ _ _ _ _ _ _ d h
theorem aE.an{E}(a:aE E)(i:aj E){N f k sp}(h:aU E N f k sp):aE (E.an f k sp):=by
 refine⟨a.prog,a.iI,a.call,a.ll,fun g j c n base s K b=>?_⟩;simp only[Env.an] at b;cases e:Nat.beq g f&&Nat.beq j k with
 |true=>
  rw[e] at b;obtain⟨rfl,d⟩:=b;obtain⟨I,o,l,m⟩:=h _ _ _ _ d;exact Hs a i I _ l m
 |false=>rw[e] at b;exact a.loop _ _ _ _ _ _ _ b
def Jy n r st(K:AV->List _->Prop):=
 aW (qY n st (refs r) (jC n st (refs r))) (xC (nL (fun i=>kD i (jC n st (refs r)) 0) r) fun r'=>xD (gJ (fun i=>kD i (jC n st (refs r)) 0) (gF st (jC n st (refs r)))) fun st'=>K r' st')
def ac6(P:Program)(Ts:List TypeId)(n:Nat)(r:AV)(st:List Obj)(K:AV->List Obj->Prop):Prop:=
 match cq st r with
 |some a=>Jy n (Oz P Ts a) (cV st (rowsOf r)) K
 |none=>Jy n r st K
def Tk P a(Ts:List TypeId)(n:Nat)(r:AV)(st:List Obj)(K:AV->List Obj->Prop):=
 match a with
 |true=>Jy n r st K
 |false=>ac6 P Ts n r st K
def a8(E:Env)(N:Nat)(f:FuncId)(a:List AV)(st:List Obj)(K:AV->List Obj->Prop):Prop:=
 match E.P.funcs[f]? with
 | some b=>
  match b.body with
   | some c=>
    vc E N f none st.length c {bF:=a++bR (b.ntmps - a.length),st} fun e s=>
     match e with
     | .normal| .ret=>match yZ E.P s b.results.toList with|some l=>Tk E.P (E.fresh f) b.resultTypes.toList st.length (ov l) s.st K|none=>False
     |_=>False
   |none=>False
 |none=>False
theorem ug{C C' n r v K}(hI:Inv C')(hP:C'.P=C.P)(he:Ext n C C')(hr:Rel C' r v)(h:Jy n r C'.st K):ff C n K (.returned v) C'.w:=by
 obtain⟨h1,h2⟩:=ai.1 h;simp[nV,lF] at h2;obtain⟨g1,g2,g3⟩:=xi hI h1;refine⟨v,_,C'.by _,rfl,rfl,hP,g1,hr.move g2.keeps hI.lay _ fun i hi _=>?_,he.trans g2 (Nat.le_refl _),h2⟩
 grind [nd]
theorem Ov{C n}{P:Pg}(hPC:C.P=P){own Ts K e w}(h:ff C n (fun r st=>Tk P own Ts n r st K) e w):ff C n K e w:=by
 obtain⟨v,r,C',rfl,rfl,hP,hI,hr,he,hK⟩:=h;unfold Tk at hK;cases own with
 |true=>grind [ug]
 |false=>
 unfold ac6 at hK;simp  at hK;split at hK
 ·rename_i r' hp
  obtain⟨C1,f1,f2,f3,f4,f5,f6,f7⟩:=qt hI hp hr;rw[←f1] at hK;have f6:=Lx f4 (Ts:=Ts) f6;rw[(f5.P.trans hP).trans hPC] at f6;have:=ug f4 (f5.P.trans hP) (he.trans (f5.mono he.len) (Nat.le_refl _)) f6 hK
  grind
 grind [ug]
theorem gO{E}(k:aE E)(l:aj E){N f a st K}(h:a8 E N f a st K):cf E.P f a st K:=by
 unfold a8 at h;split at h<;>try grind
 rename_i p i;split at h<;>try exact h.elim
 rename_i c j;refine⟨by grind,fun C o d n b m=>?_⟩;subst b;have:=xg (K:=fun r st=>Tk E.P _ _ _ r st K) i j d n m (Bm k l N _ _ _ _ _ _ h) 0
 exact this.mono (fun e q g=>Ov d g)
def bd E(N f:Nat)(sp:dN):=∀a st K,sp a st K->a8 E N f a st K
def Env.ax(E:Env)(f:Nat)(sp:dN):=
 {E with call:=fun g a st K=>bif Nat.beq g f then sp a st K else E.call g a st K}
theorem aj.ax{E}(a:aj E){f sp}(e:sp.gl):aj (E.ax f sp):=by
 refine⟨fun g d st K i c h=>?_,a.loop,a.ll⟩;simp only[Env.ax] at h⊢;cases b:Nat.beq g f with
 |true=>rw[b] at h;exact e _ _ _ _ c h
 |false=>rw[b] at h;exact a.call _ _ _ _ _ c h
theorem aE.fQ{E}(b:aE E){f:Nat}{sp}(h: ∀a st K,sp a st K->cf E.P f a st K):aE (E.ax f sp):=by
 refine⟨b.prog,b.iI,fun g a st K c=>?_,b.ll,b.loop⟩;simp only[Env.ax] at c;cases d:Nat.beq g f with
 |true=>
  rw[d] at c;obtain rfl:=Nat.eq_of_beq_eq_true d;exact h _ _ _ c
 |false=>rw[d] at c;exact b.call _ _ _ _ c
theorem aE.ax{E}(a:aE E)(c:aj E){N f sp}(h:bd E N f sp):aE (E.ax f sp):=
 a.fQ fun _ _ _ b=>gO a c (h _ _ _ b)
def Cz(l:List AV):Bool:=match df l with|[]=>true|_=>false
def Env.aO(E:Env)(f:Nat)(g:List _->Option _):=
 {E with iI:=fun h a=>bif Nat.beq h f then bif Cz a then g a else none else E.iI h a}
def cm E(N f:Nat)(g:List _->Option (Bool×AV)):=
 ∀a x,g a=some (true,x)->∃u,x= .lit u/\bj u=true/\a8 E N f a [] fun r _=>r= .lit u
theorem aj.aO{E}(a:aj E){f g}:aj (E.aO f g):=⟨a.call,a.loop,a.ll⟩
def gW(P:Pg)(f:Nat)(g:List _->Option (Bool×AV)):=
 ∀a x,Cz a=true->g a=some (true,x)->∃b u,P.funcs[f]? =some b/\b.body.isSome=true/\x= .lit u/\bj u=true/\
  ∀C c,C.P=P->Inv C->MT C a c.toList->CallsIn Fence.wide 0 P f c C.w fun e d=>e= .returned u/\iQ C.w d
theorem nB{E}(hE:aE E)(hM:aj E){N f g}(h:cm E N f g):gW E.P f g:=by
 intro as x hn hh;obtain⟨u,rfl,hu,hf⟩:=h as x hh;obtain⟨⟨fn,k1,k2⟩,k3⟩:=gO hE hM hf;refine⟨fn,u,k1,k2,rfl,hu,fun C vs hC hI hm=>?_⟩;have hrefs:df as=[]:=by
  grind [Cz]
 have hk:bW C {C with st:=[]}:=⟨rfl,fun _ h=>h,fun _ _=>rfl⟩
 have hI0:Inv {C with st:=[]}:=⟨hI.lay,fun i hi=>by simp at hi,fun i j hi=>by simp at hi,hI.xs,fun i hi=>by simp at hi,hI.oX,hI.kept⟩
 have hm0:=l4  hk hI.lay some as vs.toList (by grind) hm;rw[gQ] at hm0;refine(k3 {C with st:=[]} vs hC hI0 rfl hm0).mono ?_;rintro e w' ⟨v,r,C',rfl,rfl,hP,hI',hr,he,rfl⟩;have:=a0 hr
 subst this;exact⟨rfl,he.size,he.os,he.tape,he.output,fun b hb=>he.frame b hb (fun⟨i,hi,_⟩=>by simp at hi)⟩
theorem aE.fg{E}(b:aE E){f g}(h:gW E.P f g):aE (E.aO f g):=by
 refine⟨b.prog,fun k e x a=>?_,b.call,b.ll,b.loop⟩;simp[Env.aO] at a;cases c:Nat.beq k f with
 |false=>rw[c] at a;exact b.iI k _ x a
 | true=>
  obtain rfl:=Nat.eq_of_beq_eq_true c;rw[c] at a;cases d:Cz e with
  |false=>grind
  |true=>
   rw[d] at a;obtain⟨o,u,j,l,i,m,n⟩:=h _ x d a;exact⟨_,j,l, .inl ⟨u,i,m,n⟩⟩
def Env.lr(E:Env)(f:Nat)(g:List _->Option _):=
 {E with iI:=fun h a=>bif Nat.beq h f then bif yg a then g a else none else E.iI h a}
def Bu E(N f:Nat)(g:List _->Option _):=
 ∀a x,g a=some (true,x)->refs x=[]/\a8 E N f a [] fun r _=>r=x
theorem aj.lr{E}(a:aj E){f g}:aj (E.lr f g):=⟨a.call,a.loop,a.ll⟩
theorem aE.lr{E}(hE:aE E)(hM:aj E){N f g}(h:Bu E N f g):aE (E.lr f g):=by
 refine⟨hE.prog,fun k as x hh=>?_,hE.call,hE.ll,hE.loop⟩;simp[Env.lr] at hh;cases hb:Nat.beq k f with
 |false=>rw[hb] at hh;exact hE.iI k as x hh
 | true=>
  obtain rfl:=Nat.eq_of_beq_eq_true hb;rw[hb] at hh;cases hn:yg _ with
  |false=>grind
  |true=>
   rw[hn] at hh;obtain⟨hx,hf⟩:=h _ x hh;obtain⟨⟨fn,k1,k2⟩,k3⟩:=gO hE hM hf;refine⟨fn,k1,k2, .inr ⟨rfl,hx,fun C vs hC hI hm=>?_⟩⟩;refine(k3 C.bare vs hC (Oc hI) rfl (By _ _ hn hm)).mono ?_;rintro e w' ⟨v,r,C',rfl,rfl,hP,hI',hr,he,rfl⟩;exact⟨v,C',rfl,rfl,hP,hI',hr,he⟩
theorem aE.aO{E}(a:aE E)(b:aj E){N f g}(h:cm E N f g):aE (E.aO f g):=
 a.fg (nB a b h)
def below(g:List AV->Option (Bool×AV))(μ:List AV->Nat)(n:Nat)(a:List AV):Option (Bool×AV):=
 match g a with
 |some (c,x)=>some (c&&Nat.blt (μ a) n,x)
 |none=>none
theorem aE.w7{P f} g μ{N}(b:Nat->Env)
  (i: ∀n,gW P f (below g μ n)->aE (b n)/\aj (b n)/\(b n).P=P) (h: ∀n,cm (b n) N f fun a=>bif Nat.beq (μ a) n then g a else none):gW P f g:=by
 have d: ∀n,gW P f (fun a=>bif Nat.beq (μ a) n then g a else none):=by
  intro n;induction n using Nat.strongRecOn with
  | _ n k=>
   have l:gW P f (below g μ n):=by
    intro a x e c;unfold below at c;split at c
    ·simp only[aC8,aD4,aC6] at c
     obtain⟨⟨rfl,j⟩,rfl⟩:=c;refine k (μ a) (by simp_all) a _ e ?_
     simp_all
    ·cases c
   grind [nB]
 intro a x e c;refine d (μ a) a x e ?_
 simp_all
def Env.none(P:Pg)(live:FuncId->Nat->List (Nat×Option TypeId))(inl own quiet:FuncId->Bool):Env:=
 {P,call:=fun _ _ _ _=>False,iI:=fun _ _=>Option.none,loop:=fun _ _ _ _ _ _ _=>False,ll:=fun _ _ _ _ _ _=>False,gen:=fun _=>false,inl,live,own,quiet}
def Env.kb(E:Env) fresh:={E with fresh:=fresh}
def Env.jR(E:Env) calm:={E with calm:=calm}
theorem aE.jR{E}(b:aE E) a:aE (E.jR a):=⟨b.prog,b.iI,b.call,b.ll,b.loop⟩
theorem aj.jR{E}(b:aj E) a:aj (E.jR a):=⟨b.call,b.loop,b.ll⟩
theorem aE.kb{E}(b:aE E) a:aE (E.kb a):=⟨b.prog,b.iI,b.call,b.ll,b.loop⟩
theorem aj.kb{E}(b:aj E) a:aj (E.kb a):=⟨b.call,b.loop,b.ll⟩
theorem aE.none{P:Pg}(d:rn P){a c b quiet}:aE (Env.none P a c b quiet):=
 ⟨d,fun _ _ _ h=>by grind [Env.none],fun _ _ _ _ h=>h.elim,fun _ _ _ _ _ _ h=>h.elim,fun _ _ _ _ _ _ _ h=>h.elim⟩
theorem aj.none{P a c b quiet}:aj (Env.none P a c b quiet):=
 ⟨fun _ _ _ _ _ _ h=>h,fun _ _ _ _ _ _ _ _ _ h=>h,fun _ _ _ _ _ _ _ _ h=>h⟩
end Go.Dn
