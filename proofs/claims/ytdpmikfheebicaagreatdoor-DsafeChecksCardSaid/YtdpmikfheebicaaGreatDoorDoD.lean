import Derived.Test.YtdpmikfheebicaaGreatDoorDoC
import Derived.Sort.LoopGhostIn
namespace Go.Dn
open Go
def jL (k : Nat) : Exit → Nat
 | .exit id => 1000 * (k + 1) + 2 + id
 | _ => 1000 * (k + 1) + 1
def bC (E : Env) (f k base : Nat) (I : Nat → S → Prop) (n : Nat) (K : Exit → S → Prop) : Exit → S → Prop
 | .normal, s => aZ (iZ E.P (E.live f k) base s) (Bn (canon E.P (E.live f k) base s) fun s' => ∃ m, m < n ∧ I m s')
 | e, s => aZ (iZ E.P (E.live f (jL k e)) base s) (Bn (canon E.P (E.live f (jL k e)) base s) fun s' => K e s')
def I6 (E : Env) (f k base : Nat) (I : Nat → S → Prop) (n : Nat) (K : Exit → S → Prop) : Exit → S → Prop
 | .normal, s => aZ (iZ E.P (E.live f k) base s) (∃ m, m < n ∧ I m (canon E.P (E.live f k) base s))
 | e, s => aZ (iZ E.P (E.live f (jL k e)) base s) (K e (canon E.P (E.live f (jL k e)) base s))
theorem Ip {E : Env} {f k base : Nat} {I : Nat → S → Prop} {n : Nat} {K : Exit → S → Prop} : bC E f k base I n K = I6 E f k base I n K := by
 funext e s
 cases e <;> simp only [bC, I6, l7]
theorem Ck {E : Env} (hE : aw E) (hM : ai E) {N f k : Nat} {c : Code} {rd : Option Nat} {base : Nat} {s : S} {K : Exit → S → Prop} (I : Nat → S → Prop) (n0 : Nat) (h0 : I n0 s)
  (h : ∀ n s', I n s' → vc E N f rd base c s' (bC E f k base I n K)) : Sound E.P rd base (.loop c) s K := by
 simp only [Ip] at h
 intro C a F n lo hC hI hs hd hlo hb hF
 refine wpIn_loop_ghost (fun m a w => ∃ C' s', C'.w = w ∧ C'.P = C.P ∧ Inv C' ∧ dn C' s' a ∧ gN lo C' a.defers ∧ base ≤ s'.st.length ∧ Ext base C C' ∧ I m s') n0
  ⟨C, s, rfl, rfl, hI, hs, hd, hb, Ext.refl C (by rw [hs.st]; exact hb), h0⟩ ?_
 rintro m a w ⟨C', s', rfl, hP', hI', hs', hd', hb', he', hm⟩
 refine wpIn_mono (wS hE hM N _ _ _ _ _ _ (h m s' hm) C' a F n lo (hP'.trans hC) hI' hs' hd' (Nat.le_trans hlo he'.size) hb' (hF.ext he')) ?_
 intro e a2 w2 hp
 have out : ∀ {e : Exit}, ei lo base C' (fun e s => aZ (iZ E.P (E.live f (jL k e)) base s) (K e (canon E.P (E.live f (jL k e)) base s))) e a2 w2 → ei lo base C K e a2 w2 := by
  rintro e ⟨C2, s2, rfl, hP2, hI2, hs2, hd2, hb2, he2, hk⟩
  obtain ⟨hk1, hk2⟩ := aq.1 hk
  obtain ⟨C3, k1, k2, k3, k4, k5⟩ := vP E.P (E.live f (jL k e)) hI2 hs2 hb2 hk1
  exact ⟨C3, _, k1, k4.P.trans (hP2.trans hP'), k2, k3, hd2.ext k4, k5, (he'.trans he2 (Nat.le_refl _)).trans k4 (Nat.le_refl _), hk2⟩
 cases e with
 | normal =>
  obtain ⟨C2, s2, rfl, hP2, hI2, hs2, hd2, hb2, he2, hk⟩ := hp
  obtain ⟨hk1, m', hlt, hi⟩ := aq.1 hk
  obtain ⟨C3, k1, k2, k3, k4, k5⟩ := vP E.P (E.live f k) hI2 hs2 hb2 hk1
  exact ⟨m', hlt, C3, _, k1, k4.P.trans (hP2.trans hP'), k2, k3, hd2.ext k4, k5, (he'.trans he2 (Nat.le_refl _)).trans k4 (Nat.le_refl _), hi⟩
 | exit id => exact out hp
 | goto l => exact out hp
 | ret => exact out hp
 | panic ch => exact out hp
 | outgrown => exact out hp
def zd : Option Code → Option Code → Option Code
 | some c, _ => some c
 | none, d => d
def gR (k : Nat) : Code → Option Code
 | .loop c => (match kO c with | some n => (bif Nat.beq n k then some c else gR k c) | none => gR k c)
 | .seq a b => zd (gR k a) (gR k b)
 | .cond _ a b => zd (gR k a) (gR k b)
 | .block _ c | .scope c => gR k c
 | .rangeFunc _ _ a b => zd (gR k a) (gR k b)
 | _ => none
def ag (P : Program) (f k : Nat) : Code :=
 match P.funcs[f]? with
 | some fn => (match fn.body with | some c => (match gR k c with | some d => d | none => .skip) | none => .skip)
 | none => .skip
abbrev jl := Option Nat → Nat → S → (Exit → S → Prop) → Prop
abbrev ez := List AV → List Obj → (AV → List Obj → Prop) → Prop
def jl.ot (sp : jl) : Prop := ∀ rd base s (K K' : Exit → S → Prop), (∀ e s, K e s → K' e s) → sp rd base s K → sp rd base s K'
def ez.ot (sp : ez) : Prop := ∀ args st (K K' : AV → List Obj → Prop), (∀ a st, K a st → K' a st) → sp args st K → sp args st K'
def bg (E : Env) (N f k : Nat) (sp : jl) : Prop :=
 ∀ rd base s K, sp rd base s K → ∃ (I : Nat → S → Prop) (n0 : Nat), I n0 s ∧ ∀ n s', I n s' → vc E N f rd base (ag E.P f k) s' (bC E f k base I n K)
def Env.aj (E : Env) (f k : Nat) (sp : jl) : Env :=
 {E with loop := fun g j c rd base s K => bif Nat.beq g f && Nat.beq j k then c = ag E.P f k ∧ sp rd base s K else E.loop g j c rd base s K }
theorem ai.aj {E : Env} (hM : ai E) {f k : Nat} {sp : jl} (hs : sp.ot) : ai (E.aj f k sp) := by
 refine ⟨hM.call, fun g j c rd base s K K' hK h => ?_, hM.sM⟩
 simp only [Env.aj] at h ⊢
 cases hb : (Nat.beq g f && Nat.beq j k) with
 | true => rw [hb] at h; exact ⟨h.1, hs _ _ _ _ _ hK h.2⟩
 | false => rw [hb] at h; exact hM.loop _ _ _ _ _ _ _ _ hK h
theorem aw.aj {E : Env} (hE : aw E) (hM : ai E) {N f k : Nat} {sp : jl} (h : bg E N f k sp) : aw (E.aj f k sp) := by
 refine ⟨hE.prog, hE.jE, hE.call, hE.sM, fun g j c rd base s K hh => ?_⟩
 simp only [Env.aj] at hh
 cases hb : (Nat.beq g f && Nat.beq j k) with
 | true =>
  rw [hb] at hh
  obtain ⟨rfl, hsp⟩ := hh
  obtain ⟨I, n0, h0, hI⟩ := h _ _ _ _ hsp
  exact Ck hE hM I n0 h0 hI
 | false => rw [hb] at hh; exact hE.loop _ _ _ _ _ _ _ hh
def Es (n : Nat) (r : AV) (st : List Obj) (K : AV → List Obj → Prop) : Prop :=
 aZ (oL n st (refs r) (gP n st (refs r))) (u5 (kR (fun i => jo i (gP n st (refs r)) 0) r) fun r' => tQ (ic (fun i => jo i (gP n st (refs r)) 0) (iB st (gP n st (refs r)))) fun st' => K r' st')
def Oe (P : Program) (Ts : List TypeId) (n : Nat) (r : AV) (st : List Obj) (K : AV → List Obj → Prop) : Prop :=
 match b7 st r with
 | some r' => Es n (HV P Ts r') (df st (rowsOf r)) K
 | none => Es n r st K
def Lk (P : Program) (own : Bool) (Ts : List TypeId) (n : Nat) (r : AV) (st : List Obj) (K : AV → List Obj → Prop) : Prop :=
 match own with
 | true => Es n r st K
 | false => Oe P Ts n r st K
def a9 (E : Env) (N : Nat) (f : FuncId) (args : List AV) (st : List Obj) (K : AV → List Obj → Prop) : Prop :=
 match E.P.funcs[f]? with
 | some fn =>
  (match fn.body with
   | some c =>
    vc E N f none st.length c { bf := args ++ dc (fn.ntmps - args.length), st } fun e s =>
     match e with
     | .normal | .ret => (match uD E.P s fn.results.toList with | some l => Lk E.P (E.fresh f) fn.resultTypes.toList st.length (lZ l) s.st K | none => False)
     | _ => False
   | none => False)
 | none => False
theorem ri {C C' : Ctx} {n : Nat} {r : AV} {v : Value} {K : AV → List Obj → Prop} (hI : Inv C') (hP : C'.P = C.P) (he : Ext n C C') (hr : Rel C' r v) (h : Es n r C'.st K) : ee C n K (.returned v) C'.w := by
 obtain ⟨h1, h2⟩ := aq.1 h
 simp only [n6, kV] at h2
 obtain ⟨g1, g2, g3⟩ := uv hI h1
 refine ⟨v, _, C'.by (gP n C'.st (refs r)), rfl, rfl, hP, g1, hr.move g2.keeps hI.lay _ (fun i hi _ => ?_), he.trans g2 (Nat.le_refl _), h2⟩
 obtain ⟨j, hj⟩ := g3 i hi
 exact ⟨j, hj, lj hj⟩
theorem Il {C : Ctx} {n : Nat} {P : Pg} (hPC : C.P = P) {own : Bool} {Ts : List TypeId} {K : AV → List Obj → Prop} {e : Ending} {w : World} (h : ee C n (fun r st => Lk P own Ts n r st K) e w) : ee C n K e w := by
 obtain ⟨v, r, C', rfl, rfl, hP, hI, hr, he, hK⟩ := h
 unfold Lk at hK
 cases own with
 | true => exact ri hI hP he hr hK
 | false =>
 unfold Oe at hK
 simp only at hK
 split at hK
 ·rename_i r' hp
  obtain ⟨C1, f1, f2, f3, f4, f5, f6, f7⟩ := oa hI hp hr
  rw [← f1] at hK
  have f6 := FM f4 (Ts := Ts) f6
  rw [(f5.P.trans hP).trans hPC] at f6
  have := ri f4 (f5.P.trans hP) (he.trans (f5.mono he.len) (Nat.le_refl _)) f6 hK
  rw [f2] at this; exact this
 ·exact ri hI hP he hr hK
theorem jR {E : Env} (hE : aw E) (hM : ai E) {N : Nat} {f : FuncId} {args : List AV} {st : List Obj} {K : AV → List Obj → Prop} (h : a9 E N f args st K) : dz E.P f args st K := by
 unfold a9 at h
 split at h <;> try exact h.elim
 rename_i fn hf
 split at h <;> try exact h.elim
 rename_i c hc
 refine ⟨⟨fn, hf, by rw [hc]; rfl⟩, fun C vs hC hI hst hm => ?_⟩
 subst hst
 have := vh (K := fun r st => Lk E.P (E.fresh f) fn.resultTypes.toList C.st.length r st K) hf hc hC hI hm (wS hE hM N _ _ _ _ _ _ h) 0
 exact this.mono (fun e w' he => Il hC he)
def bJ (E : Env) (N f : Nat) (sp : ez) : Prop := ∀ args st K, sp args st K → a9 E N f args st K
def Env.ar (E : Env) (f : Nat) (sp : ez) : Env :=
 {E with call := fun g args st K => bif Nat.beq g f then sp args st K else E.call g args st K }
theorem ai.ar {E : Env} (hM : ai E) {f : Nat} {sp : ez} (hs : sp.ot) : ai (E.ar f sp) := by
 refine ⟨fun g args st K K' hK h => ?_, hM.loop, hM.sM⟩
 simp only [Env.ar] at h ⊢
 cases hb : Nat.beq g f with
 | true => rw [hb] at h; exact hs _ _ _ _ hK h
 | false => rw [hb] at h; exact hM.call _ _ _ _ _ hK h
theorem aw.iN {E : Env} (hE : aw E) {f : Nat} {sp : ez} (h : ∀ args st K, sp args st K → dz E.P f args st K) : aw (E.ar f sp) := by
 refine ⟨hE.prog, hE.jE, fun g args st K hh => ?_, hE.sM, hE.loop⟩
 simp only [Env.ar] at hh
 cases hb : Nat.beq g f with
 | true =>
  rw [hb] at hh
  obtain rfl := Nat.eq_of_beq_eq_true hb
  exact h _ _ _ hh
 | false => rw [hb] at hh; exact hE.call _ _ _ _ hh
theorem aw.ar {E : Env} (hE : aw E) (hM : ai E) {N f : Nat} {sp : ez} (h : bJ E N f sp) : aw (E.ar f sp) :=
 hE.iN fun _ _ _ hh => jR hE hM (h _ _ _ hh)
def zg (l : List AV) : Bool := match cP l with | [] => true | _ => false
def Env.au (E : Env) (f : Nat) (g : List AV → Option (Bool × AV)) : Env :=
 {E with jE := fun h as => bif Nat.beq h f then (bif zg as then g as else none) else E.jE h as }
def bM (E : Env) (N f : Nat) (g : List AV → Option (Bool × AV)) : Prop :=
 ∀ as x, g as = some (true, x) → ∃ u, x = .lit u ∧ ba u = true ∧ a9 E N f as [] (fun r _ => r = .lit u)
theorem ai.au {E : Env} (hM : ai E) {f : Nat} {g : List AV → Option (Bool × AV)} : ai (E.au f g) := ⟨hM.call, hM.loop, hM.sM⟩
def fe (P : Pg) (f : Nat) (g : List AV → Option (Bool × AV)) : Prop :=
 ∀ as x, zg as = true → g as = some (true, x) → ∃ fn u, P.funcs[f]? = some fn ∧ fn.body.isSome = true ∧ x = .lit u ∧ ba u = true ∧
  ∀ (C : Ctx) (vs : Array Value), C.P = P → Inv C → MT C as vs.toList → CallsIn Fence.wide 0 P f vs C.w (fun e w' => e = .returned u ∧ gO C.w w')
theorem nz {E : Env} (hE : aw E) (hM : ai E) {N f : Nat} {g : List AV → Option (Bool × AV)} (h : bM E N f g) : fe E.P f g := by
 intro as x hn hh
 obtain ⟨u, rfl, hu, hf⟩ := h as x hh
 obtain ⟨⟨fn, k1, k2⟩, k3⟩ := jR hE hM hf
 refine ⟨fn, u, k1, k2, rfl, hu, fun C vs hC hI hm => ?_⟩
 have hrefs : cP as = [] := by
  unfold zg at hn
  split at hn
  ·assumption
  ·cases hn
 have hk : bL C { C with st := [] } := ⟨rfl, fun _ h => h, fun _ _ => rfl⟩
 have hI0 : Inv { C with st := [] } := ⟨hI.lay, fun i hi => by simp at hi, fun i j hi => by simp at hi, hI.xs, fun i hi => by simp at hi, hI.oE, hI.kept⟩
 have hm0 := l9 (C' := { C with st := [] }) hk hI.lay some as vs.toList (fun i hi => by rw [hrefs] at hi; simp at hi) hm
 rw [hU] at hm0
 refine (k3 { C with st := [] } vs hC hI0 rfl hm0).mono ?_
 rintro e w' ⟨v, r, C', rfl, rfl, hP, hI', hr, he, rfl⟩
 have := aR hr
 subst this
 exact ⟨rfl, he.size, he.os, he.tape, he.output, fun b hb => he.frame b hb (fun ⟨i, hi, _⟩ => by simp at hi)⟩
theorem aw.dp {E : Env} (hE : aw E) {f : Nat} {g : List AV → Option (Bool × AV)} (h : fe E.P f g) : aw (E.au f g) := by
 refine ⟨hE.prog, fun k as x hh => ?_, hE.call, hE.sM, hE.loop⟩
 simp only [Env.au] at hh
 cases hb : Nat.beq k f with
 | false => rw [hb] at hh; exact hE.jE k as x hh
 | true =>
  obtain rfl := Nat.eq_of_beq_eq_true hb
  rw [hb] at hh
  cases hn : zg as with
  | false => rw [hn] at hh; simp at hh
  | true =>
   rw [hn] at hh
   obtain ⟨fn, u, h1, h2, h3, h4, h5⟩ := h as x hn hh
   exact ⟨fn, h1, h2, .inl ⟨u, h3, h4, h5⟩⟩
def Env.ga (E : Env) (f : Nat) (g : List AV → Option (Bool × AV)) : Env :=
 {E with jE := fun h as => bif Nat.beq h f then (bif u7 as then g as else none) else E.jE h as }
def yP (E : Env) (N f : Nat) (g : List AV → Option (Bool × AV)) : Prop :=
 ∀ as x, g as = some (true, x) → refs x = [] ∧ a9 E N f as [] (fun r _ => r = x)
theorem ai.ga {E : Env} (hM : ai E) {f : Nat} {g : List AV → Option (Bool × AV)} : ai (E.ga f g) := ⟨hM.call, hM.loop, hM.sM⟩
theorem aw.ga {E : Env} (hE : aw E) (hM : ai E) {N f : Nat} {g : List AV → Option (Bool × AV)} (h : yP E N f g) : aw (E.ga f g) := by
 refine ⟨hE.prog, fun k as x hh => ?_, hE.call, hE.sM, hE.loop⟩
 simp only [Env.ga] at hh
 cases hb : Nat.beq k f with
 | false => rw [hb] at hh; exact hE.jE k as x hh
 | true =>
  obtain rfl := Nat.eq_of_beq_eq_true hb
  rw [hb] at hh
  cases hn : u7 as with
  | false => rw [hn] at hh; simp at hh
  | true =>
   rw [hn] at hh
   obtain ⟨hx, hf⟩ := h as x hh
   obtain ⟨⟨fn, k1, k2⟩, k3⟩ := jR hE hM hf
   refine ⟨fn, k1, k2, .inr ⟨rfl, hx, fun C vs hC hI hm => ?_⟩⟩
   refine (k3 C.bare vs hC (Jp hI) rfl (zp _ _ hn hm)).mono ?_
   rintro e w' ⟨v, r, C', rfl, rfl, hP, hI', hr, he, rfl⟩
   exact ⟨v, C', rfl, rfl, hP, hI', hr, he⟩
theorem aw.au {E : Env} (hE : aw E) (hM : ai E) {N f : Nat} {g : List AV → Option (Bool × AV)} (h : bM E N f g) : aw (E.au f g) :=
 hE.dp (nz hE hM h)
def below (g : List AV → Option (Bool × AV)) (μ : List AV → Nat) (n : Nat) (as : List AV) : Option (Bool × AV) :=
 match g as with
 | some (c, x) => some (c && Nat.blt (μ as) n, x)
 | none => none
theorem aw.me {P : Pg} {f : Nat} (g : List AV → Option (Bool × AV)) (μ : List AV → Nat) {N : Nat} (ext : Nat → Env)
  (hext : ∀ n, fe P f (below g μ n) → aw (ext n) ∧ ai (ext n) ∧ (ext n).P = P) (h : ∀ n, bM (ext n) N f (fun as => bif Nat.beq (μ as) n then g as else none)) : fe P f g := by
 have key : ∀ n, fe P f (fun as => bif Nat.beq (μ as) n then g as else none) := by
  intro n
  induction n using Nat.strongRecOn with
  | _ n ih =>
   have hb : fe P f (below g μ n) := by
    intro as x hn hh
    unfold below at hh
    split at hh
    ·rename_i c y hg
     simp only [aa3, aa9, aa1] at hh
     obtain ⟨⟨rfl, hlt⟩, rfl⟩ := hh
     refine ih (μ as) (by simpa [Nat.blt_eq] using hlt) as _ hn ?_
     simp only
     rw [show Nat.beq (μ as) (μ as) = true from Nat.beq_refl _]
     exact hg
    ·cases hh
   obtain ⟨h1, h2, h3⟩ := hext n hb
   have := nz h1 h2 (h n)
   rwa [h3] at this
 intro as x hn hh
 refine key (μ as) as x hn ?_
 simp only
 rw [show Nat.beq (μ as) (μ as) = true from Nat.beq_refl _]
 exact hh
def Env.none (P : Pg) (live : FuncId → Nat → List (Nat × Option TypeId)) (inl own quiet : FuncId → Bool) : Env :=
 {P, call := fun _ _ _ _ => False, jE := fun _ _ => Option.none, loop := fun _ _ _ _ _ _ _ => False, sM := fun _ _ _ _ _ _ => False, gen := fun _ => false, inl, live, own, quiet }
def Env.iH (E : Env) (fresh : FuncId → Bool) : Env := { E with fresh := fresh }
theorem aw.iH {E : Env} (hE : aw E) (fresh : FuncId → Bool) : aw (E.iH fresh) := ⟨hE.prog, hE.jE, hE.call, hE.sM, hE.loop⟩
theorem ai.iH {E : Env} (hM : ai E) (fresh : FuncId → Bool) : ai (E.iH fresh) := ⟨hM.call, hM.loop, hM.sM⟩
theorem aw.none {P : Pg} (hP : pD P) {live : FuncId → Nat → List (Nat × Option TypeId)} {inl own quiet : FuncId → Bool} : aw (Env.none P live inl own quiet) :=
 ⟨hP, fun _ _ _ h => by simp [Env.none] at h, fun _ _ _ _ h => h.elim, fun _ _ _ _ _ _ h => h.elim, fun _ _ _ _ _ _ _ h => h.elim⟩
theorem ai.none {P : Pg} {live : FuncId → Nat → List (Nat × Option TypeId)} {inl own quiet : FuncId → Bool} : ai (Env.none P live inl own quiet) :=
 ⟨fun _ _ _ _ _ _ h => h, fun _ _ _ _ _ _ _ _ _ h => h, fun _ _ _ _ _ _ _ _ h => h⟩
end Go.Dn
