import Derived.Test.YtbppdpbagmbmpaaGreatDoorDoK
import Derived.Below
namespace Go.Dn
open Go Go.Sort
theorem MT_lits_eq {C : Ctx} : ∀ (us : List Value) (vs : List Value), MT C (us.map .lit) vs → vs = us
  | [], vs, h => by simpa [MT] using h
  | u :: us, [], h => by simp [MT] at h
  | u :: us, v :: vs, h => by
    simp only [List.map_cons, MT] at h
    have h1 : v = u := rel_lit_inv ⟨h.1, h.2.1, h.2.2.1⟩
    rw [h1, MT_lits_eq us vs h.2.2.2]
theorem pure_kit {P : Pg} {f : Nat} {g : List AV → Option (Bool × AV)} (hb : ∃ fn, P.funcs[f]? = some fn ∧ fn.body.isSome = true)
    (h : ∀ as x, g as = some (true, x) → ∃ (us : List Value) (u : Value), as = us.map .lit ∧ x = .lit u ∧ oneV u = true ∧ ∀ C : Ctx, C.P = P → Inv C → Calls P f us.toArray C.w fun e w' => e = .returned u ∧ Grows C.w w') : PureSim P f g := by
  intro as x _ hh
  obtain ⟨fn, k1, k2⟩ := hb
  obtain ⟨us, u, rfl, rfl, hu, hc⟩ := h as x hh
  refine ⟨fn, u, k1, k2, rfl, hu, fun C vs hC hI hm => ?_⟩
  have e := MT_lits_eq us _ hm
  obtain rfl : vs = us.toArray := by rw [← e]
  exact callsIn_wide.2 (hc C hC hI)
theorem sim_kit {P : Pg} {f : Nat} {us : List Value} {K : AV → List Obj → Prop} (hb : ∃ fn, P.funcs[f]? = some fn ∧ fn.body.isSome = true)
    (h : ∀ C : Ctx, C.P = P → Inv C → Calls P f us.toArray C.w fun e w' => ∃ v r, e = .returned v ∧ Grows C.w w' ∧ (∀ C' : Ctx, Rel C' r v) ∧ K r []) : SimCall P f (us.map .lit) [] K := by
  refine ⟨hb, fun C vs hC hI hst hm => ?_⟩
  have e := MT_lits_eq us _ hm
  obtain rfl : vs = us.toArray := by rw [← e]
  refine (callsIn_wide.2 (h C hC hI)).mono ?_
  rintro e w' ⟨v, r, rfl, hg, hr, hK⟩
  obtain ⟨h1, h2⟩ := grow_ctx hI hg
  have hl : C.st.length = ([] : List Obj).length := by rw [hst]
  exact ⟨v, r, { C with w := w' }, rfl, rfl, rfl, h1, hr _, hl ▸ h2, by show K r C.st; rw [hst]; exact hK⟩
theorem MT_of_lits {C : Ctx} : ∀ us : List Value, (∀ v, v ∈ us → oneV v = true) → MT C (us.map .lit) us
  | [], _ => by simp [MT]
  | u :: us, h => by
    have h1 := rel_lit (C := C) (h u (by simp))
    have h2 := MT_of_lits (C := C) us fun v hv => h v (by simp [hv])
    simp only [List.map_cons, MT]
    exact ⟨h1.1, h1.2.1, h1.2.2, h2⟩
theorem rel_tup_lits {C : Ctx} {us : List Value} (h : ∀ v, v ∈ us → oneV v = true) : Rel C (.tup (us.map .lit)) (.tuple us.toArray) := rel_tup_mk (MT_of_lits us h)
theorem Grows.of_below {w w' : World} (h : Go.RowKit.Below w.heap.size w w') : Grows w w' := ⟨h.size, h.os, h.tape, h.output, h.block⟩
def EB.puresim (b : EB) {f : Nat} {g : List AV → Option (Bool × AV)} (h : PureSim b.E.P f g) : EB := ⟨b.E.addPure f g, b.ok.addPureSim h, b.mono.addPure⟩
def EB.sim (b : EB) {f : Nat} {sp : CallSpec} (hm : sp.Mono) (h : ∀ args st K, sp args st K → SimCall b.E.P f args st K) : EB := ⟨b.E.addCall f sp, b.ok.addSim h, b.mono.addCall hm⟩
def EB.mixR (b c : EB) (f : Nat) (h : b.E.P = c.E.P) : EB :=
  ⟨{ b.E with rng := fun f' k g caps st K => bif Nat.beq f' f then c.E.rng f' k g caps st K else b.E.rng f' k g caps st K },
   ⟨b.ok.prog, b.ok.pcall, b.ok.call, fun f' k g caps st K hh => by
      cases hb : Nat.beq f' f with
      | true => simp only [hb, cond_true] at hh; have := c.ok.rng f' k g caps st K hh; rw [← h] at this; exact this
      | false => simp only [hb, cond_false] at hh; exact b.ok.rng f' k g caps st K hh, b.ok.loop⟩,
   ⟨b.mono.call, b.mono.loop, fun f' k g caps st K K' hK hh => by
      cases hb : Nat.beq f' f with
      | true => simp only [hb, cond_true] at hh ⊢; exact c.mono.rng _ _ _ _ _ _ _ hK hh
      | false => simp only [hb, cond_false] at hh ⊢; exact b.mono.rng _ _ _ _ _ _ _ hK hh⟩⟩
end Go.Dn
