import Derived.Test.YtpgahkbkfflkaaaGreatDoorDnJ
namespace Go.Dn
open Go
def Ctx.still (C : Ctx) : Ctx := { C with X := fun b => b < C.w.heap.size, st := [], ι := fun _ => ⟨0, 0, true⟩, cls := id }
theorem still_keeps {C : Ctx} (hI : Inv C) : Keeps C C.still := ⟨rfl, fun b hb => hI.xs b hb, fun _ _ => rfl⟩
theorem still_inv {C : Ctx} (hI : Inv C) : Inv C.still :=
  ⟨hI.lay, fun i hi => by simp [Ctx.still] at hi, fun i j hi => by simp [Ctx.still] at hi, fun b hb => hb, fun i hi => by simp [Ctx.still] at hi, fun b hb => absurd rfl hb, hI.kept' (still_keeps hI)⟩
theorem row_read {C : Ctx} (hI : Inv C) {i : Nat} (hi : i < C.st.length) {T : TypeId} {xs : List AV} (h : elT (nthO C.st i) = some (T, xs)) :
    ptypL C.P xs T ∧ (((C.ι i).isNil = true ∧ xs = []) ∨ ((C.ι i).isNil = false ∧ (C.ι i).block < C.w.heap.size ∧ MR C xs (C.P.cellsOf T) (cellAt C.w (C.ι i).block) 0)) := by
  have hob := hI.obj i hi
  cases hx : nthO C.st i <;> rw [hx] at h hob <;> simp [elT] at h
  · obtain ⟨rfl, rfl⟩ := h
    obtain ⟨g1, g2 | ⟨g2, _, cc, g3, _, _, _, g4⟩⟩ := hob
    · exact ⟨g1, .inl g2⟩
    · exact ⟨g1, .inr ⟨g2, (Array.getElem?_eq_some_iff.1 g3).1, g4⟩⟩
  · obtain ⟨rfl, rfl⟩ := h
    obtain ⟨g1, g2 | ⟨g2, g3, g4⟩⟩ := hob
    · exact ⟨g1, .inl g2⟩
    · exact ⟨g1, .inr ⟨g2, hI.xs _ g3, g4⟩⟩
theorem slc_as_lst {C C' : Ctx} (hI : Inv C) (hk : Keeps C C') (hw : C'.w = C.w) {i lo n : Nat} {v : Value} (hi : i < C.st.length) (hs : SlcOK C i lo n v) {T : TypeId} {xs : List AV} (h : elT (nthO C.st i) = some (T, xs))
    (hX : (C.ι i).isNil = false → C'.X (C.ι i).block) (s : Src) (o : Nat) (hv : s o = some v) : M C' (.lst T ((xs.drop lo).take n)) s o := by
  obtain ⟨hlen, hv'⟩ := hs T xs h
  obtain ⟨hp, hrow⟩ := row_read hI hi h
  simp only [M]
  have hl : ((xs.drop lo).take n).length = n := by simp; omega
  refine ⟨by rw [hk.P]; exact ptypL_take _ _ (ptypL_drop _ _ hp), ?_⟩
  rw [hl, hv]
  rcases hv' with ⟨_, rfl, rfl, rfl⟩ | ⟨hn, cap, q, rfl, hq, hc1, hc2⟩
  · exact ⟨none, 0, rfl, Nat.le_refl _, fun hne => absurd (by simp) hne⟩
  · refine ⟨some q, cap, rfl, hc1, fun hne => ?_⟩
    have hn0 : 0 < n := by rw [← hl]; exact List.length_pos_iff.2 hne
    have hq' := hq.resolve_right (by omega)
    rcases hrow with ⟨h0, _⟩ | ⟨_, hlt, hm⟩
    · rw [hn] at h0; cases h0
    · refine ⟨_, _, by rw [hq'], hX hn, ?_⟩
      have h1 := MR_take _ n _ _ _ (MR_drop xs lo _ _ _ hm)
      rw [Nat.zero_add] at h1
      have := MR_pure hk hI.lay ((xs.drop lo).take n) T (cellAt C.w (C.ι i).block) (fun j => C'.w.cell? ⟨(C.ι i).block, j, none⟩) _ (lo * C.P.cellsOf T) (ptypL_take _ _ (ptypL_drop _ _ hp))
        (fun j _ => by rw [hw]; rfl) h1
      rw [hk.P]
      exact this
mutual
theorem pureA_shape {st : List Obj} : ∀ (a b : AV), pureA st a = some b → isAggA b = isAggA a ∧ wid b = wid a ∧ b ≠ .junk ∧ refs b = []
  | .lit v, b, h => by simp only [pureA, Option.some.injEq] at h; subst h; simp [refs]
  | .lst T l, b, h => by simp only [pureA, Option.some.injEq] at h; subst h; simp [refs]
  | .slc i lo n, b, h => by
    simp only [pureA] at h
    split at h
    · simp only [Option.some.injEq] at h; subst h; simp [isAggA, wid, refs]
    · simp at h
  | .agg l, b, h => by
    simp only [pureA, Option.map_eq_some_iff] at h
    obtain ⟨m, h1, rfl⟩ := h
    obtain ⟨h2, h3⟩ := pureL_shape l m h1
    simp [isAggA, wid, refs, h2, h3]
  | .pim T a, b, h => by simp only [pureA, Option.some.injEq] at h; subst h; simp [refs]
  | .ifc T a, b, h => by
    simp only [pureA, Option.map_eq_some_iff] at h
    obtain ⟨m, h1, rfl⟩ := h
    obtain ⟨h2, h3, h4, h5⟩ := pureA_shape a m h1
    simp [isAggA, wid, refs, h5]
  | .clo f [], b, h => by simp only [pureA, Option.some.injEq] at h; subst h; simp [refs, refsL]
  | .clo f (_ :: _), b, h => by simp [pureA] at h
  | .junk, b, h | .tup _, b, h | .ptr _ _ _ _, b, h | .mp _, b, h | .yld _, b, h | .stp _ _, b, h => by simp [pureA] at h
theorem pureL_shape {st : List Obj} : ∀ (l m : List AV), pureL st l = some m → widL m = widL l ∧ refsL m = []
  | [], m, h => by simp only [pureL, Option.some.injEq] at h; subst h; simp [refsL]
  | a :: l, m, h => by
    simp only [pureL] at h
    split at h
    · rename_i b m' h1 h2
      simp only [Option.some.injEq] at h; subst h
      obtain ⟨_, g1, _, g2⟩ := pureA_shape a b h1
      obtain ⟨g3, g4⟩ := pureL_shape l m' h2
      simp [widL, refsL, g1, g2, g3, g4]
    · simp at h
end
mutual
theorem pureA_M {C C' : Ctx} (hI : Inv C) (hk : Keeps C C') (hw : C'.w = C.w) :
    ∀ (a b : AV) (s : Src) (o : Nat), pureA C.st a = some b → (∀ i, i ∈ rowsOf a → i < C.st.length → (C.ι i).isNil = false → C'.X (C.ι i).block) → M C a s o → M C' b s o
  | .lit v, b, s, o, h, _, hm => by simp only [pureA, Option.some.injEq] at h; subst h; simpa [M] using hm
  | .lst T l, b, s, o, h, _, hm => by
    simp only [pureA, Option.some.injEq] at h; subst h
    exact M.keep hk hI.lay (fun i hi => by simp [refs] at hi) (fun _ _ => rfl) hm
  | .slc i lo n, b, s, o, h, hr, hm => by
    simp only [pureA] at h
    split at h
    · rename_i T xs hel
      simp only [Option.some.injEq] at h; subst h
      simp only [M] at hm
      obtain ⟨hi, v, h1, h2, h3⟩ := hm
      exact slc_as_lst hI hk hw hi h3 hel (hr i (by simp [rowsOf]) hi) s o h1
    · simp at h
  | .agg l, b, s, o, h, hr, hm => by
    simp only [pureA, Option.map_eq_some_iff] at h
    obtain ⟨m, h1, rfl⟩ := h
    simp only [M] at hm ⊢
    exact pureL_M hI hk hw l m s o h1 (by simpa [rowsOf] using hr) hm
  | .pim T a, b, s, o, h, _, hm => by
    simp only [pureA, Option.some.injEq] at h; subst h
    exact M.keep hk hI.lay (fun i hi => by simp [refs] at hi) (fun _ _ => rfl) hm
  | .ifc T a, b, s, o, h, hr, hm => by
    simp only [pureA, Option.map_eq_some_iff] at h
    obtain ⟨m, h1, rfl⟩ := h
    simp only [M] at hm ⊢
    obtain ⟨u, h2, h3, h4, h5⟩ := hm
    obtain ⟨g1, g2, _, _⟩ := pureA_shape a m h1
    exact ⟨u, h2, by rw [h3, g1], by rw [h4, g2], pureA_M hI hk hw a m _ _ h1 (by simpa [rowsOf] using hr) h5⟩
  | .clo f [], b, s, o, h, _, hm => by
    simp only [pureA, Option.some.injEq] at h; subst h
    simpa [M, MT] using hm
  | .clo f (_ :: _), b, _, _, h, _, _ => by simp [pureA] at h
  | .junk, b, _, _, h, _, _ | .tup _, b, _, _, h, _, _ | .ptr _ _ _ _, b, _, _, h, _, _ | .mp _, b, _, _, h, _, _ | .yld _, b, _, _, h, _, _ | .stp _ _, b, _, _, h, _, _ => by simp [pureA] at h
theorem pureL_M {C C' : Ctx} (hI : Inv C) (hk : Keeps C C') (hw : C'.w = C.w) :
    ∀ (l m : List AV) (s : Src) (o : Nat), pureL C.st l = some m → (∀ i, i ∈ rowsOfL l → i < C.st.length → (C.ι i).isNil = false → C'.X (C.ι i).block) → ML C l s o → ML C' m s o
  | [], m, s, o, h, _, _ => by simp only [pureL, Option.some.injEq] at h; subst h; simp [ML]
  | a :: l, m, s, o, h, hr, hm => by
    simp only [pureL] at h
    split at h
    · rename_i b m' h1 h2
      simp only [Option.some.injEq] at h; subst h
      simp only [ML] at hm ⊢
      obtain ⟨_, g1, _, _⟩ := pureA_shape a b h1
      refine ⟨pureA_M hI hk hw a b s o h1 (fun i hi => hr i (by simp [rowsOfL, hi])) hm.1, ?_⟩
      rw [g1]
      exact pureL_M hI hk hw l m' s _ h2 (fun i hi => hr i (by simp [rowsOfL, hi])) hm.2
    · simp at h
end
end Go.Dn
