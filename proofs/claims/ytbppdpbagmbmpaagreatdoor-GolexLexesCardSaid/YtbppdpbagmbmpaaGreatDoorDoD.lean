import Derived.Test.YtbppdpbagmbmpaaGreatDoorDoC
import Derived.Sort.LoopGhostIn
namespace Go.Dn
open Go
def exitKey (k : Nat) : Exit → Nat
  | .exit id => 1000 * (k + 1) + 2 + id
  | _ => 1000 * (k + 1) + 1
def loopK (E : Env) (f k base : Nat) (I : Nat → S → Prop) (n : Nat) (K : Exit → S → Prop) : Exit → S → Prop
  | .normal, s => cnd (canonOk E.P (E.live f k) base s) (frcS (canon E.P (E.live f k) base s) fun s' => ∃ m, m < n ∧ I m s')
  | e, s => cnd (canonOk E.P (E.live f (exitKey k e)) base s) (frcS (canon E.P (E.live f (exitKey k e)) base s) fun s' => K e s')
def loopK' (E : Env) (f k base : Nat) (I : Nat → S → Prop) (n : Nat) (K : Exit → S → Prop) : Exit → S → Prop
  | .normal, s => cnd (canonOk E.P (E.live f k) base s) (∃ m, m < n ∧ I m (canon E.P (E.live f k) base s))
  | e, s => cnd (canonOk E.P (E.live f (exitKey k e)) base s) (K e (canon E.P (E.live f (exitKey k e)) base s))
theorem loopK_eq {E : Env} {f k base : Nat} {I : Nat → S → Prop} {n : Nat} {K : Exit → S → Prop} : loopK E f k base I n K = loopK' E f k base I n K := by
  funext e s
  cases e <;> simp only [loopK, loopK', frcS_eq]
theorem loop_sound {E : Env} (hE : EnvOK E) (hM : EnvMono E) {N f k : Nat} {c : Code} {rd : Option Nat} {base : Nat} {s : S} {K : Exit → S → Prop} (I : Nat → S → Prop) (n0 : Nat) (h0 : I n0 s)
    (h : ∀ n s', I n s' → vc E N f rd base c s' (loopK E f k base I n K)) : Sound E.P rd base (.loop c) s K := by
  simp only [loopK_eq] at h
  intro C a F n lo hC hI hs hd hlo hb hF
  refine wpIn_loop_ghost (fun m a w => ∃ C' s', C'.w = w ∧ C'.P = C.P ∧ Inv C' ∧ SRel C' s' a ∧ DefOK lo C' a.defers ∧ base ≤ s'.st.length ∧ Ext base C C' ∧ I m s') n0
    ⟨C, s, rfl, rfl, hI, hs, hd, hb, Ext.refl C (by rw [hs.st]; exact hb), h0⟩ ?_
  rintro m a w ⟨C', s', rfl, hP', hI', hs', hd', hb', he', hm⟩
  refine wpIn_mono (vc_ok hE hM N _ _ _ _ _ _ (h m s' hm) C' a F n lo (hP'.trans hC) hI' hs' hd' (Nat.le_trans hlo he'.size) hb' (hF.ext he')) ?_
  intro e a2 w2 hp
  have out : ∀ {e : Exit}, PostS lo base C' (fun e s => cnd (canonOk E.P (E.live f (exitKey k e)) base s) (K e (canon E.P (E.live f (exitKey k e)) base s))) e a2 w2 → PostS lo base C K e a2 w2 := by
    rintro e ⟨C2, s2, rfl, hP2, hI2, hs2, hd2, hb2, he2, hk⟩
    obtain ⟨hk1, hk2⟩ := cnd_iff.1 hk
    obtain ⟨C3, k1, k2, k3, k4, k5⟩ := canon_ok E.P (E.live f (exitKey k e)) hI2 hs2 hb2 hk1
    exact ⟨C3, _, k1, k4.P.trans (hP2.trans hP'), k2, k3, hd2.ext k4, k5, (he'.trans he2 (Nat.le_refl _)).trans k4 (Nat.le_refl _), hk2⟩
  cases e with
  | normal =>
    obtain ⟨C2, s2, rfl, hP2, hI2, hs2, hd2, hb2, he2, hk⟩ := hp
    obtain ⟨hk1, m', hlt, hi⟩ := cnd_iff.1 hk
    obtain ⟨C3, k1, k2, k3, k4, k5⟩ := canon_ok E.P (E.live f k) hI2 hs2 hb2 hk1
    exact ⟨m', hlt, C3, _, k1, k4.P.trans (hP2.trans hP'), k2, k3, hd2.ext k4, k5, (he'.trans he2 (Nat.le_refl _)).trans k4 (Nat.le_refl _), hi⟩
  | exit id => exact out hp
  | goto l => exact out hp
  | ret => exact out hp
  | panic ch => exact out hp
  | outgrown => exact out hp
def orElseC : Option Code → Option Code → Option Code
  | some c, _ => some c
  | none, d => d
def findLoop (k : Nat) : Code → Option Code
  | .loop c => (match firstR c with | some n => (bif Nat.beq n k then some c else findLoop k c) | none => findLoop k c)
  | .seq a b => orElseC (findLoop k a) (findLoop k b)
  | .cond _ a b => orElseC (findLoop k a) (findLoop k b)
  | .block _ c | .scope c => findLoop k c
  | .rangeFunc _ _ a b => orElseC (findLoop k a) (findLoop k b)
  | _ => none
def loopCode (P : Program) (f k : Nat) : Code :=
  match P.funcs[f]? with
  | some fn => (match fn.body with | some c => (match findLoop k c with | some d => d | none => .skip) | none => .skip)
  | none => .skip
abbrev LoopSpec := Option Nat → Nat → S → (Exit → S → Prop) → Prop
abbrev CallSpec := List AV → List Obj → (AV → List Obj → Prop) → Prop
def LoopSpec.Mono (sp : LoopSpec) : Prop := ∀ rd base s (K K' : Exit → S → Prop), (∀ e s, K e s → K' e s) → sp rd base s K → sp rd base s K'
def CallSpec.Mono (sp : CallSpec) : Prop := ∀ args st (K K' : AV → List Obj → Prop), (∀ a st, K a st → K' a st) → sp args st K → sp args st K'
def LoopOk (E : Env) (N f k : Nat) (sp : LoopSpec) : Prop :=
  ∀ rd base s K, sp rd base s K → ∃ (I : Nat → S → Prop) (n0 : Nat), I n0 s ∧ ∀ n s', I n s' → vc E N f rd base (loopCode E.P f k) s' (loopK E f k base I n K)
def Env.addLoop (E : Env) (f k : Nat) (sp : LoopSpec) : Env :=
  { E with loop := fun g j c rd base s K => bif Nat.beq g f && Nat.beq j k then c = loopCode E.P f k ∧ sp rd base s K else E.loop g j c rd base s K }
theorem EnvMono.addLoop {E : Env} (hM : EnvMono E) {f k : Nat} {sp : LoopSpec} (hs : sp.Mono) : EnvMono (E.addLoop f k sp) := by
  refine ⟨hM.call, fun g j c rd base s K K' hK h => ?_, hM.rng⟩
  simp only [Env.addLoop] at h ⊢
  cases hb : (Nat.beq g f && Nat.beq j k) with
  | true => rw [hb] at h; exact ⟨h.1, hs _ _ _ _ _ hK h.2⟩
  | false => rw [hb] at h; exact hM.loop _ _ _ _ _ _ _ _ hK h
theorem EnvOK.addLoop {E : Env} (hE : EnvOK E) (hM : EnvMono E) {N f k : Nat} {sp : LoopSpec} (h : LoopOk E N f k sp) : EnvOK (E.addLoop f k sp) := by
  refine ⟨hE.prog, hE.pcall, hE.call, hE.rng, fun g j c rd base s K hh => ?_⟩
  simp only [Env.addLoop] at hh
  cases hb : (Nat.beq g f && Nat.beq j k) with
  | true =>
    rw [hb] at hh
    obtain ⟨rfl, hsp⟩ := hh
    obtain ⟨I, n0, h0, hI⟩ := h _ _ _ _ hsp
    exact loop_sound hE hM I n0 h0 hI
  | false => rw [hb] at hh; exact hE.loop _ _ _ _ _ _ _ hh
def keepA (n : Nat) (r : AV) (st : List Obj) (K : AV → List Obj → Prop) : Prop :=
  cnd (idsOk n st (refs r) (canonIds n st (refs r))) (frcA (ren (fun i => idxN i (canonIds n st (refs r)) 0) r) fun r' => frcOs (renSt (fun i => idxN i (canonIds n st (refs r)) 0) (getSt st (canonIds n st (refs r)))) fun st' => K r' st')
def finA (P : Program) (Ts : List TypeId) (n : Nat) (r : AV) (st : List Obj) (K : AV → List Obj → Prop) : Prop :=
  match pureA st r with
  | some r' => keepA n (formR P Ts r') (freezeSt st (rowsOf r)) K
  | none => keepA n r st K
def endA (P : Program) (own : Bool) (Ts : List TypeId) (n : Nat) (r : AV) (st : List Obj) (K : AV → List Obj → Prop) : Prop :=
  match own with
  | true => keepA n r st K
  | false => finA P Ts n r st K
def funA (E : Env) (N : Nat) (f : FuncId) (args : List AV) (st : List Obj) (K : AV → List Obj → Prop) : Prop :=
  match E.P.funcs[f]? with
  | some fn =>
    (match fn.body with
     | some c =>
       vc E N f none st.length c { regs := args ++ junks (fn.ntmps - args.length), st } fun e s =>
         match e with
         | .normal | .ret => (match resA E.P s fn.results.toList with | some l => endA E.P (E.fresh f) fn.resultTypes.toList st.length (result1 l) s.st K | none => False)
         | _ => False
     | none => False)
  | none => False
theorem keep_post {C C' : Ctx} {n : Nat} {r : AV} {v : Value} {K : AV → List Obj → Prop} (hI : Inv C') (hP : C'.P = C.P) (he : Ext n C C') (hr : Rel C' r v) (h : keepA n r C'.st K) : CallPost C n K (.returned v) C'.w := by
  obtain ⟨h1, h2⟩ := cnd_iff.1 h
  simp only [frcA_eq, frcOs_eq] at h2
  obtain ⟨g1, g2, g3⟩ := by_ctx hI h1
  refine ⟨v, _, C'.by (canonIds n C'.st (refs r)), rfl, rfl, hP, g1, hr.move g2.keeps hI.lay _ (fun i hi _ => ?_), he.trans g2 (Nat.le_refl _), h2⟩
  obtain ⟨j, hj⟩ := g3 i hi
  exact ⟨j, hj, by_refOK hj⟩
theorem fin_post {C : Ctx} {n : Nat} {P : Pg} (hPC : C.P = P) {own : Bool} {Ts : List TypeId} {K : AV → List Obj → Prop} {e : Ending} {w : World} (h : CallPost C n (fun r st => endA P own Ts n r st K) e w) : CallPost C n K e w := by
  obtain ⟨v, r, C', rfl, rfl, hP, hI, hr, he, hK⟩ := h
  unfold endA at hK
  cases own with
  | true => exact keep_post hI hP he hr hK
  | false =>
  unfold finA at hK
  simp only at hK
  split at hK
  · rename_i r' hp
    obtain ⟨C1, f1, f2, f3, f4, f5, f6, f7⟩ := lay_still hI hp hr
    rw [← f1] at hK
    have f6 := formR_rel f4 (Ts := Ts) f6
    rw [(f5.P.trans hP).trans hPC] at f6
    have := keep_post f4 (f5.P.trans hP) (he.trans (f5.mono he.len) (Nat.le_refl _)) f6 hK
    rw [f2] at this; exact this
  · exact keep_post hI hP he hr hK
theorem fun_sound {E : Env} (hE : EnvOK E) (hM : EnvMono E) {N : Nat} {f : FuncId} {args : List AV} {st : List Obj} {K : AV → List Obj → Prop} (h : funA E N f args st K) : SimCall E.P f args st K := by
  unfold funA at h
  split at h <;> try exact h.elim
  rename_i fn hf
  split at h <;> try exact h.elim
  rename_i c hc
  refine ⟨⟨fn, hf, by rw [hc]; rfl⟩, fun C vs hC hI hst hm => ?_⟩
  subst hst
  have := body_sound (K := fun r st => endA E.P (E.fresh f) fn.resultTypes.toList C.st.length r st K) hf hc hC hI hm (vc_ok hE hM N _ _ _ _ _ _ h) 0
  exact this.mono (fun e w' he => fin_post hC he)
def CallOk (E : Env) (N f : Nat) (sp : CallSpec) : Prop := ∀ args st K, sp args st K → funA E N f args st K
def Env.addCall (E : Env) (f : Nat) (sp : CallSpec) : Env :=
  { E with call := fun g args st K => bif Nat.beq g f then sp args st K else E.call g args st K }
theorem EnvMono.addCall {E : Env} (hM : EnvMono E) {f : Nat} {sp : CallSpec} (hs : sp.Mono) : EnvMono (E.addCall f sp) := by
  refine ⟨fun g args st K K' hK h => ?_, hM.loop, hM.rng⟩
  simp only [Env.addCall] at h ⊢
  cases hb : Nat.beq g f with
  | true => rw [hb] at h; exact hs _ _ _ _ hK h
  | false => rw [hb] at h; exact hM.call _ _ _ _ _ hK h
theorem EnvOK.addSim {E : Env} (hE : EnvOK E) {f : Nat} {sp : CallSpec} (h : ∀ args st K, sp args st K → SimCall E.P f args st K) : EnvOK (E.addCall f sp) := by
  refine ⟨hE.prog, hE.pcall, fun g args st K hh => ?_, hE.rng, hE.loop⟩
  simp only [Env.addCall] at hh
  cases hb : Nat.beq g f with
  | true =>
    rw [hb] at hh
    obtain rfl := Nat.eq_of_beq_eq_true hb
    exact h _ _ _ hh
  | false => rw [hb] at hh; exact hE.call _ _ _ _ hh
theorem EnvOK.addCall {E : Env} (hE : EnvOK E) (hM : EnvMono E) {N f : Nat} {sp : CallSpec} (h : CallOk E N f sp) : EnvOK (E.addCall f sp) :=
  hE.addSim fun _ _ _ hh => fun_sound hE hM (h _ _ _ hh)
def noRefs (l : List AV) : Bool := match refsL l with | [] => true | _ => false
def Env.addPure (E : Env) (f : Nat) (g : List AV → Option (Bool × AV)) : Env :=
  { E with pcall := fun h as => bif Nat.beq h f then (bif noRefs as then g as else none) else E.pcall h as }
def PureOk (E : Env) (N f : Nat) (g : List AV → Option (Bool × AV)) : Prop :=
  ∀ as x, g as = some (true, x) → ∃ u, x = .lit u ∧ oneV u = true ∧ funA E N f as [] (fun r _ => r = .lit u)
theorem EnvMono.addPure {E : Env} (hM : EnvMono E) {f : Nat} {g : List AV → Option (Bool × AV)} : EnvMono (E.addPure f g) := ⟨hM.call, hM.loop, hM.rng⟩
def PureSim (P : Pg) (f : Nat) (g : List AV → Option (Bool × AV)) : Prop :=
  ∀ as x, noRefs as = true → g as = some (true, x) → ∃ fn u, P.funcs[f]? = some fn ∧ fn.body.isSome = true ∧ x = .lit u ∧ oneV u = true ∧
    ∀ (C : Ctx) (vs : Array Value), C.P = P → Inv C → MT C as vs.toList → CallsIn Fence.wide 0 P f vs C.w (fun e w' => e = .returned u ∧ Grows C.w w')
theorem pure_sim {E : Env} (hE : EnvOK E) (hM : EnvMono E) {N f : Nat} {g : List AV → Option (Bool × AV)} (h : PureOk E N f g) : PureSim E.P f g := by
  intro as x hn hh
  obtain ⟨u, rfl, hu, hf⟩ := h as x hh
  obtain ⟨⟨fn, k1, k2⟩, k3⟩ := fun_sound hE hM hf
  refine ⟨fn, u, k1, k2, rfl, hu, fun C vs hC hI hm => ?_⟩
  have hrefs : refsL as = [] := by
    unfold noRefs at hn
    split at hn
    · assumption
    · cases hn
  have hk : Keeps C { C with st := [] } := ⟨rfl, fun _ h => h, fun _ _ => rfl⟩
  have hI0 : Inv { C with st := [] } := ⟨hI.lay, fun i hi => by simp at hi, fun i j hi => by simp at hi, hI.xs, fun i hi => by simp at hi, hI.clt, hI.kept⟩
  have hm0 := MT_move (C' := { C with st := [] }) hk hI.lay some as vs.toList (fun i hi => by rw [hrefs] at hi; simp at hi) hm
  rw [renL_some] at hm0
  refine (k3 { C with st := [] } vs hC hI0 rfl hm0).mono ?_
  rintro e w' ⟨v, r, C', rfl, rfl, hP, hI', hr, he, rfl⟩
  have := rel_lit_inv hr
  subst this
  exact ⟨rfl, he.size, he.os, he.tape, he.output, fun b hb => he.frame b hb (fun ⟨i, hi, _⟩ => by simp at hi)⟩
theorem EnvOK.addPureSim {E : Env} (hE : EnvOK E) {f : Nat} {g : List AV → Option (Bool × AV)} (h : PureSim E.P f g) : EnvOK (E.addPure f g) := by
  refine ⟨hE.prog, fun k as x hh => ?_, hE.call, hE.rng, hE.loop⟩
  simp only [Env.addPure] at hh
  cases hb : Nat.beq k f with
  | false => rw [hb] at hh; exact hE.pcall k as x hh
  | true =>
    obtain rfl := Nat.eq_of_beq_eq_true hb
    rw [hb] at hh
    cases hn : noRefs as with
    | false => rw [hn] at hh; simp at hh
    | true =>
      rw [hn] at hh
      obtain ⟨fn, u, h1, h2, h3, h4, h5⟩ := h as x hn hh
      exact ⟨fn, h1, h2, .inl ⟨u, h3, h4, h5⟩⟩
def Env.addFresh (E : Env) (f : Nat) (g : List AV → Option (Bool × AV)) : Env :=
  { E with pcall := fun h as => bif Nat.beq h f then (bif litsB as then g as else none) else E.pcall h as }
def FreshOk (E : Env) (N f : Nat) (g : List AV → Option (Bool × AV)) : Prop :=
  ∀ as x, g as = some (true, x) → refs x = [] ∧ funA E N f as [] (fun r _ => r = x)
theorem EnvMono.addFresh {E : Env} (hM : EnvMono E) {f : Nat} {g : List AV → Option (Bool × AV)} : EnvMono (E.addFresh f g) := ⟨hM.call, hM.loop, hM.rng⟩
theorem EnvOK.addFresh {E : Env} (hE : EnvOK E) (hM : EnvMono E) {N f : Nat} {g : List AV → Option (Bool × AV)} (h : FreshOk E N f g) : EnvOK (E.addFresh f g) := by
  refine ⟨hE.prog, fun k as x hh => ?_, hE.call, hE.rng, hE.loop⟩
  simp only [Env.addFresh] at hh
  cases hb : Nat.beq k f with
  | false => rw [hb] at hh; exact hE.pcall k as x hh
  | true =>
    obtain rfl := Nat.eq_of_beq_eq_true hb
    rw [hb] at hh
    cases hn : litsB as with
    | false => rw [hn] at hh; simp at hh
    | true =>
      rw [hn] at hh
      obtain ⟨hx, hf⟩ := h as x hh
      obtain ⟨⟨fn, k1, k2⟩, k3⟩ := fun_sound hE hM hf
      refine ⟨fn, k1, k2, .inr ⟨rfl, hx, fun C vs hC hI hm => ?_⟩⟩
      refine (k3 C.bare vs hC (bare_inv hI) rfl (MT_lits _ _ hn hm)).mono ?_
      rintro e w' ⟨v, r, C', rfl, rfl, hP, hI', hr, he, rfl⟩
      exact ⟨v, C', rfl, rfl, hP, hI', hr, he⟩
theorem EnvOK.addPure {E : Env} (hE : EnvOK E) (hM : EnvMono E) {N f : Nat} {g : List AV → Option (Bool × AV)} (h : PureOk E N f g) : EnvOK (E.addPure f g) :=
  hE.addPureSim (pure_sim hE hM h)
def Env.none (P : Pg) (live : FuncId → Nat → List (Nat × Option TypeId)) (inl own quiet : FuncId → Bool) : Env :=
  { P, call := fun _ _ _ _ => False, pcall := fun _ _ => Option.none, loop := fun _ _ _ _ _ _ _ => False, rng := fun _ _ _ _ _ _ => False, gen := fun _ => false, inl, live, own, quiet }
def Env.withFresh (E : Env) (fresh : FuncId → Bool) : Env := { E with fresh := fresh }
def Env.withCalm (E : Env) (calm : FuncId → Bool) : Env := { E with calm := calm }
theorem EnvOK.withCalm {E : Env} (hE : EnvOK E) (calm : FuncId → Bool) : EnvOK (E.withCalm calm) := ⟨hE.prog, hE.pcall, hE.call, hE.rng, hE.loop⟩
theorem EnvMono.withCalm {E : Env} (hM : EnvMono E) (calm : FuncId → Bool) : EnvMono (E.withCalm calm) := ⟨hM.call, hM.loop, hM.rng⟩
theorem EnvOK.withFresh {E : Env} (hE : EnvOK E) (fresh : FuncId → Bool) : EnvOK (E.withFresh fresh) := ⟨hE.prog, hE.pcall, hE.call, hE.rng, hE.loop⟩
theorem EnvMono.withFresh {E : Env} (hM : EnvMono E) (fresh : FuncId → Bool) : EnvMono (E.withFresh fresh) := ⟨hM.call, hM.loop, hM.rng⟩
theorem EnvOK.none {P : Pg} (hP : ProgOK P) {live : FuncId → Nat → List (Nat × Option TypeId)} {inl own quiet : FuncId → Bool} : EnvOK (Env.none P live inl own quiet) :=
  ⟨hP, fun _ _ _ h => by simp [Env.none] at h, fun _ _ _ _ h => h.elim, fun _ _ _ _ _ _ h => h.elim, fun _ _ _ _ _ _ _ h => h.elim⟩
theorem EnvMono.none {P : Pg} {live : FuncId → Nat → List (Nat × Option TypeId)} {inl own quiet : FuncId → Bool} : EnvMono (Env.none P live inl own quiet) :=
  ⟨fun _ _ _ _ _ _ h => h, fun _ _ _ _ _ _ _ _ _ h => h, fun _ _ _ _ _ _ _ _ h => h⟩
end Go.Dn
