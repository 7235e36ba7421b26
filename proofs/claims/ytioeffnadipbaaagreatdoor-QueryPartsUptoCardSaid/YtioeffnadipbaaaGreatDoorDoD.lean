import Derived.Test.YtioeffnadipbaaaGreatDoorDoC
import Derived.Sort.LoopGhostIn
namespace Go.Dn
open Go
def lM(k:Nat):Exit->Nat
 | .exit id=>1000*(k+1)+2+id
 |_=>1000*(k+1)+1
def bh(E:Env)(f k base:Nat)(I:Nat->S->Prop)(n:Nat)(K:Exit->S->Prop):Exit->S->Prop
 | .normal,s=>aG (jN E.P (E.live f k) base s) (CA (canon E.P (E.live f k) base s) fun s'=>∃m,m<n/\I m s')
 |e,s=>aG (jN E.P (E.live f (lM k e)) base s) (CA (canon E.P (E.live f (lM k e)) base s) fun s'=>K e s')
def Mi(E:Env)(f k base:Nat)(I:Nat->S->Prop)(n:Nat)(K:Exit->S->Prop):Exit->S->Prop
 | .normal,s=>aG (jN E.P (E.live f k) base s) (∃m,m<n/\I m (canon E.P (E.live f k) base s))
 |e,s=>aG (jN E.P (E.live f (lM k e)) base s) (K e (canon E.P (E.live f (lM k e)) base s))
theorem Mj{E f k base I n K}:bh E f k base I n K=Mi E f k base I n K:=by
 funext e s
 simp_all[bh,Mi,jO]
theorem w9{E}(hE:aF E)(hM:aj E){N f k:Nat}{c rd base s K} I n0(h0:I n0 s)
  (h: ∀n s',I n s'->vc E N f rd base c s' (bh E f k base I n K)):Sound E.P rd base (.loop c) s K:=by
 simp only[Mj] at h;intro C a F n lo hC hI hs hd hlo hb hF;refine wpIn_loop_ghost (fun m a w=>∃C' s',C'.w=w/\C'.P=C.P/\Inv C'/\dh C' s' a/\ij lo C' a.defers/\base<=s'.st.length/\Ext base C C'/\I m s') n0
  ⟨C,s,rfl,rfl,hI,hs,hd,hb,Ext.refl C (by rw[hs.st];exact hb),h0⟩ ?_
 rintro m a w ⟨C',s',rfl,hP',hI',hs',hd',hb',he',hm⟩;refine wpIn_mono (zV hE hM N _ _ _ _ _ _ (h m s' hm) C' a F n lo (hP'.trans hC) hI' hs' hd' (Nat.le_trans hlo he'.size) hb' (hF.ext he')) ?_;intro e a2 w2 hp;have out: ∀{e:Exit},eV lo base C' (fun e s=>aG (jN E.P (E.live f (lM k e)) base s) (K e (canon E.P (E.live f (lM k e)) base s))) e a2 w2->eV lo base C K e a2 w2:=by
  rintro e ⟨C2,s2,rfl,hP2,hI2,hs2,hd2,hb2,he2,hk⟩;obtain⟨hk1,hk2⟩:=ai.1 hk;obtain⟨C3,k1,k2,k3,k4,k5⟩:=v9 E.P _ hI2 hs2 hb2 hk1;exact⟨C3,_,k1,k4.P.trans (hP2.trans hP'),k2,k3,hd2.ext k4,k5,(he'.trans he2 (Nat.le_refl _)).trans k4 (Nat.le_refl _),hk2⟩
 cases e with
 |normal=>
  obtain⟨C2,s2,rfl,hP2,hI2,hs2,hd2,hb2,he2,hk⟩:=hp;obtain⟨hk1,m',hlt,hi⟩:=ai.1 hk;obtain⟨C3,k1,k2,k3,k4,k5⟩:=v9 E.P (E.live f k) hI2 hs2 hb2 hk1;exact⟨m',hlt,C3,_,k1,k4.P.trans (hP2.trans hP'),k2,k3,hd2.ext k4,k5,(he'.trans he2 (Nat.le_refl _)).trans k4 (Nat.le_refl _),hi⟩
 |exit id=>exact out hp
 |goto l=>exact out hp
 |ret=>exact out hp
 |panic ch=>exact out hp
 |outgrown=>exact out hp
def Bg:Option Code->Option Code->Option Code
 |some c,_=>some c
 |none,d=>d
def iu(k:Nat):Code->Option Code
 | .loop c=>(match mj c with|some n=>(bif Nat.beq n k then some c else iu k c)|none=>iu k c)
 | .seq a b=>Bg (iu k a) (iu k b)
 | .cond _ a b=>Bg (iu k a) (iu k b)
 | .block _ c| .scope c=>iu k c
 | .rangeFunc _ _ a b=>Bg (iu k a) (iu k b)
 |_=>none
def ah(P:Program)(f k:Nat):Code:=
 match P.funcs[f]? with
 |some a=>match a.body with|some c=>(match iu k c with|some d=>d|none=> .skip)|none=> .skip
 |none=> .skip
abbrev jS:=Option Nat->Nat->S->(Exit->S->Prop)->Prop
abbrev cO:=List AV->List Obj->(AV->List Obj->Prop)->Prop
def jS.gA(sp:jS):=∀b base s K a,(∀e s,K e s->a e s)->sp b base s K->sp b base s a
def cO.gA(sp:cO):=∀b st K c,(∀a st,K a st->c a st)->sp b st K->sp b st c
def aP E(N f k:Nat)(sp:jS):=
 ∀rd base s K,sp rd base s K->∃(I:Nat->S->Prop) (n0:Nat),I n0 s/\∀n s',I n s'->vc E N f rd base (ah E.P f k) s' (bh E f k base I n K)
def Env.aq(E:Env)(f k:Nat)(sp:jS):=
 {E with loop:=fun g j c a base s K=>bif Nat.beq g f&&Nat.beq j k then c=ah E.P f k/\sp a base s K else E.loop g j c a base s K}
theorem aj.aq{E}(a:aj E){f k sp}(e:sp.gA):aj (E.aq f k sp):=by
 refine⟨a.call,fun g j c i base s K l d h=>?_,a.lB⟩;simp only[Env.aq] at h⊢;cases b:Nat.beq g f&&Nat.beq j k with
 |true=>rw[b] at h;exact⟨h.1,e _ _ _ _ _ d h.2⟩
 |false=>rw[b] at h;exact a.loop _ _ _ _ _ _ _ _ d h
theorem aF.aq{E}(a:aF E)(i:aj E){N f k sp}(h:aP E N f k sp):aF (E.aq f k sp):=by
 refine⟨a.prog,a.fN,a.call,a.lB,fun g j c n base s K b=>?_⟩;simp only[Env.aq] at b;cases e:Nat.beq g f&&Nat.beq j k with
 |true=>
  rw[e] at b;obtain⟨rfl,d⟩:=b;obtain⟨I,o,l,m⟩:=h _ _ _ _ d;exact w9 a i I _ l m
 |false=>rw[e] at b;exact a.loop _ _ _ _ _ _ _ b
def G7 n r st(K:AV->List _->Prop):=
 aG (qt n st (refs r) (jc n st (refs r))) (wv (nb (fun i=>j8 i (jc n st (refs r)) 0) r) fun r'=>wx (iy (fun i=>j8 i (jc n st (refs r)) 0) (iw st (jc n st (refs r)))) fun st'=>K r' st')
def WM(P:Program)(Ts:List TypeId)(n:Nat)(r:AV)(st:List Obj)(K:AV->List Obj->Prop):Prop:=
 match b9 st r with
 |some a=>G7 n (LS P Ts a) (cQ st (rowsOf r)) K
 |none=>G7 n r st K
def PX P a(Ts:List TypeId)(n:Nat)(r:AV)(st:List Obj)(K:AV->List Obj->Prop):=
 match a with
 |true=>G7 n r st K
 |false=>WM P Ts n r st K
def a8(E:Env)(N:Nat)(f:FuncId)(a:List AV)(st:List Obj)(K:AV->List Obj->Prop):Prop:=
 match E.P.funcs[f]? with
 | some b=>
  match b.body with
   | some c=>
    vc E N f none st.length c {bz:=a++bL (b.ntmps - a.length),st} fun e s=>
     match e with
     | .normal| .ret=>match xM E.P s b.results.toList with|some l=>PX E.P (E.fresh f) b.resultTypes.toList st.length (nN l) s.st K|none=>False
     |_=>False
   |none=>False
 |none=>False
theorem tr{C C' n r v K}(hI:Inv C')(hP:C'.P=C.P)(he:Ext n C C')(hr:Rel C' r v)(h:G7 n r C'.st K):eP C n K (.returned v) C'.w:=by
 obtain⟨h1,h2⟩:=ai.1 h;simp[nw,kW] at h2;obtain⟨g1,g2,g3⟩:=v7 hI h1;refine⟨v,_,C'.by _,rfl,rfl,hP,g1,hr.move g2.keeps hI.lay _ fun i hi _=>?_,he.trans g2 (Nat.le_refl _),h2⟩
 grind [mB]
theorem LM{C n}{P:Pg}(hPC:C.P=P){own Ts K e w}(h:eP C n (fun r st=>PX P own Ts n r st K) e w):eP C n K e w:=by
 obtain⟨v,r,C',rfl,rfl,hP,hI,hr,he,hK⟩:=h;unfold PX at hK;cases own with
 |true=>grind [tr]
 |false=>
 unfold WM at hK;simp  at hK;split at hK
 ·rename_i r' hp
  obtain⟨C1,f1,f2,f3,f4,f5,f6,f7⟩:=pT hI hp hr;rw[←f1] at hK;have f6:=Ja f4 (Ts:=Ts) f6;rw[(f5.P.trans hP).trans hPC] at f6;have:=tr f4 (f5.P.trans hP) (he.trans (f5.mono he.len) (Nat.le_refl _)) f6 hK
  grind
 grind [tr]
theorem cZ{E}(k:aF E)(l:aj E){N f a st K}(h:a8 E N f a st K):bt E.P f a st K:=by
 unfold a8 at h;split at h<;>try grind
 rename_i p i;split at h<;>try exact h.elim
 rename_i c j;refine⟨by grind,fun C o d n b m=>?_⟩;subst b;have:=vZ (K:=fun r st=>PX E.P _ _ _ r st K) i j d n m (zV k l N _ _ _ _ _ _ h) 0
 exact this.mono (fun e q g=>LM d g)
def bq E(N f:Nat)(sp:cO):=∀a st K,sp a st K->a8 E N f a st K
def Env.aB(E:Env)(f:Nat)(sp:cO):=
 {E with call:=fun g a st K=>bif Nat.beq g f then sp a st K else E.call g a st K}
theorem aj.aB{E}(a:aj E){f sp}(e:sp.gA):aj (E.aB f sp):=by
 refine⟨fun g d st K i c h=>?_,a.loop,a.lB⟩;simp only[Env.aB] at h⊢;cases b:Nat.beq g f with
 |true=>rw[b] at h;exact e _ _ _ _ c h
 |false=>rw[b] at h;exact a.call _ _ _ _ _ c h
theorem aF.eX{E}(b:aF E){f:Nat}{sp}(h: ∀a st K,sp a st K->bt E.P f a st K):aF (E.aB f sp):=by
 refine⟨b.prog,b.fN,fun g a st K c=>?_,b.lB,b.loop⟩;simp only[Env.aB] at c;cases d:Nat.beq g f with
 |true=>
  rw[d] at c;obtain rfl:=Nat.eq_of_beq_eq_true d;exact h _ _ _ c
 |false=>rw[d] at c;exact b.call _ _ _ _ c
theorem aF.aB{E}(a:aF E)(c:aj E){N f sp}(h:bq E N f sp):aF (E.aB f sp):=
 a.eX fun _ _ _ b=>cZ a c (h _ _ _ b)
def Bb(l:List AV):Bool:=match df l with|[]=>true|_=>false
def Env.aV(E:Env)(f:Nat)(g:List _->Option _):=
 {E with fN:=fun h a=>bif Nat.beq h f then bif Bb a then g a else none else E.fN h a}
def cg E(N f:Nat)(g:List _->Option (Bool×AV)):=
 ∀a x,g a=some (true,x)->∃u,x= .lit u/\bg u=true/\a8 E N f a [] fun r _=>r= .lit u
theorem aj.aV{E}(a:aj E){f g}:aj (E.aV f g):=⟨a.call,a.loop,a.lB⟩
def fG(P:Pg)(f:Nat)(g:List _->Option (Bool×AV)):=
 ∀a x,Bb a=true->g a=some (true,x)->∃b u,P.funcs[f]? =some b/\b.body.isSome=true/\x= .lit u/\bg u=true/\
  ∀C c,C.P=P->Inv C->MT C a c.toList->CallsIn Fence.wide 0 P f c C.w fun e d=>e= .returned u/\ik C.w d
theorem lq{E}(hE:aF E)(hM:aj E){N f g}(h:cg E N f g):fG E.P f g:=by
 intro as x hn hh;obtain⟨u,rfl,hu,hf⟩:=h as x hh;obtain⟨⟨fn,k1,k2⟩,k3⟩:=cZ hE hM hf;refine⟨fn,u,k1,k2,rfl,hu,fun C vs hC hI hm=>?_⟩;have hrefs:df as=[]:=by
  grind [Bb]
 have hk:bK C {C with st:=[]}:=⟨rfl,fun _ h=>h,fun _ _=>rfl⟩
 have hI0:Inv {C with st:=[]}:=⟨hI.lay,fun i hi=>by simp at hi,fun i j hi=>by simp at hi,hI.xs,fun i hi=>by simp at hi,hI.ot,hI.kept⟩
 have hm0:=kr  hk hI.lay some as vs.toList (by grind) hm;rw[fQ] at hm0;refine(k3 {C with st:=[]} vs hC hI0 rfl hm0).mono ?_;rintro e w' ⟨v,r,C',rfl,rfl,hP,hI',hr,he,rfl⟩;have:=aL hr
 subst this;exact⟨rfl,he.size,he.os,he.tape,he.output,fun b hb=>he.frame b hb (fun⟨i,hi,_⟩=>by simp at hi)⟩
theorem aF.ej{E}(b:aF E){f g}(h:fG E.P f g):aF (E.aV f g):=by
 refine⟨b.prog,fun k e x a=>?_,b.call,b.lB,b.loop⟩;simp[Env.aV] at a;cases c:Nat.beq k f with
 |false=>rw[c] at a;exact b.fN k _ x a
 | true=>
  obtain rfl:=Nat.eq_of_beq_eq_true c;rw[c] at a;cases d:Bb e with
  |false=>grind
  |true=>
   rw[d] at a;obtain⟨o,u,j,l,i,m,n⟩:=h _ x d a;exact⟨_,j,l, .inl ⟨u,i,m,n⟩⟩
def Env.kO(E:Env)(f:Nat)(g:List _->Option _):=
 {E with fN:=fun h a=>bif Nat.beq h f then bif wY a then g a else none else E.fN h a}
def Gp E(N f:Nat)(g:List _->Option _):=
 ∀a x,g a=some (true,x)->refs x=[]/\a8 E N f a [] fun r _=>r=x
theorem aj.kO{E}(a:aj E){f g}:aj (E.kO f g):=⟨a.call,a.loop,a.lB⟩
theorem aF.kO{E}(hE:aF E)(hM:aj E){N f g}(h:Gp E N f g):aF (E.kO f g):=by
 refine⟨hE.prog,fun k as x hh=>?_,hE.call,hE.lB,hE.loop⟩;simp[Env.kO] at hh;cases hb:Nat.beq k f with
 |false=>rw[hb] at hh;exact hE.fN k as x hh
 | true=>
  obtain rfl:=Nat.eq_of_beq_eq_true hb;rw[hb] at hh;cases hn:wY _ with
  |false=>grind
  |true=>
   rw[hn] at hh;obtain⟨hx,hf⟩:=h _ x hh;obtain⟨⟨fn,k1,k2⟩,k3⟩:=cZ hE hM hf;refine⟨fn,k1,k2, .inr ⟨rfl,hx,fun C vs hC hI hm=>?_⟩⟩;refine(k3 C.bare vs hC (Lu hI) rfl (Ag _ _ hn hm)).mono ?_;rintro e w' ⟨v,r,C',rfl,rfl,hP,hI',hr,he,rfl⟩;exact⟨v,C',rfl,rfl,hP,hI',hr,he⟩
theorem aF.aV{E}(a:aF E)(b:aj E){N f g}(h:cg E N f g):aF (E.aV f g):=
 a.ej (lq a b h)
def below(g:List AV->Option (Bool×AV))(μ:List AV->Nat)(n:Nat)(a:List AV):Option (Bool×AV):=
 match g a with
 |some (c,x)=>some (c&&Nat.blt (μ a) n,x)
 |none=>none
theorem aF.qJ{P f} g μ{N}(b:Nat->Env)
  (i: ∀n,fG P f (below g μ n)->aF (b n)/\aj (b n)/\(b n).P=P) (h: ∀n,cg (b n) N f fun a=>bif Nat.beq (μ a) n then g a else none):fG P f g:=by
 have d: ∀n,fG P f (fun a=>bif Nat.beq (μ a) n then g a else none):=by
  intro n;induction n using Nat.strongRecOn with
  | _ n k=>
   have l:fG P f (below g μ n):=by
    intro a x e c;unfold below at c;split at c
    ·simp only[an5,ao1,an3] at c
     obtain⟨⟨rfl,j⟩,rfl⟩:=c;refine k (μ a) (by simp_all) a _ e ?_
     simp_all
    ·cases c
   grind [lq]
 intro a x e c;refine d (μ a) a x e ?_
 simp_all
def Env.none(P:Pg)(live:FuncId->Nat->List (Nat×Option TypeId))(inl own quiet:FuncId->Bool):Env:=
 {P,call:=fun _ _ _ _=>False,fN:=fun _ _=>Option.none,loop:=fun _ _ _ _ _ _ _=>False,lB:=fun _ _ _ _ _ _=>False,gen:=fun _=>false,inl,live,own,quiet}
def Env.jM(E:Env) fresh:={E with fresh:=fresh}
def Env.jx(E:Env) calm:={E with calm:=calm}
theorem aF.jx{E}(b:aF E) a:aF (E.jx a):=⟨b.prog,b.fN,b.call,b.lB,b.loop⟩
theorem aj.jx{E}(b:aj E) a:aj (E.jx a):=⟨b.call,b.loop,b.lB⟩
theorem aF.jM{E}(b:aF E) a:aF (E.jM a):=⟨b.prog,b.fN,b.call,b.lB,b.loop⟩
theorem aj.jM{E}(b:aj E) a:aj (E.jM a):=⟨b.call,b.loop,b.lB⟩
theorem aF.none{P:Pg}(d:qH P){a c b quiet}:aF (Env.none P a c b quiet):=
 ⟨d,fun _ _ _ h=>by grind [Env.none],fun _ _ _ _ h=>h.elim,fun _ _ _ _ _ _ h=>h.elim,fun _ _ _ _ _ _ _ h=>h.elim⟩
theorem aj.none{P a c b quiet}:aj (Env.none P a c b quiet):=
 ⟨fun _ _ _ _ _ _ h=>h,fun _ _ _ _ _ _ _ _ _ h=>h,fun _ _ _ _ _ _ _ _ h=>h⟩
end Go.Dn
