import Derived.Test.YtdpmikfheebicaaGreatDoorDnJ
namespace Go.Dn
open Go
def Ctx.still (C : Ctx) : Ctx := { C with X := fun b => b < C.w.heap.size, st := [], ι := fun _ => ⟨0, 0, true⟩, cls := id }
theorem si {C : Ctx} (hI : Inv C) : bL C C.still := ⟨rfl, fun b hb => hI.xs b hb, fun _ _ => rfl⟩
theorem xm {C : Ctx} (hI : Inv C) : Inv C.still :=
 ⟨hI.lay, fun i hi => by simp [Ctx.still] at hi, fun i j hi => by simp [Ctx.still] at hi, fun b hb => hb, fun i hi => by simp [Ctx.still] at hi, fun b hb => absurd rfl hb, hI.lq (si hI)⟩
theorem uR {C : Ctx} (hI : Inv C) {i : Nat} (hi : i < C.st.length) {T : TypeId} {xs : List AV} (h : iE (aD C.st i) = some (T, xs)) :
  bW C.P xs T ∧ (((C.ι i).isNil = true ∧ xs = []) ∨ ((C.ι i).isNil = false ∧ (C.ι i).block < C.w.heap.size ∧ MR C xs (C.P.cellsOf T) (cellAt C.w (C.ι i).block) 0)) := by
 have hob := hI.obj i hi
 cases hx : aD C.st i <;> rw [hx] at h hob <;> simp [iE] at h
 ·obtain ⟨rfl, rfl⟩ := h
  obtain ⟨g1, g2 | ⟨g2, _, cc, g3, _, _, _, g4⟩⟩ := hob
  ·exact ⟨g1, .inl g2⟩
  ·exact ⟨g1, .inr ⟨g2, (Array.getElem?_eq_some_iff.1 g3).1, g4⟩⟩
 ·obtain ⟨rfl, rfl⟩ := h
  obtain ⟨g1, g2 | ⟨g2, g3, g4⟩⟩ := hob
  ·exact ⟨g1, .inl g2⟩
  ·exact ⟨g1, .inr ⟨g2, hI.xs _ g3, g4⟩⟩
theorem BW {C C' : Ctx} (hI : Inv C) (hk : bL C C') (hw : C'.w = C.w) {i lo n : Nat} {v : Value} (hi : i < C.st.length) (hs : oI C i lo n v) {T : TypeId} {xs : List AV} (h : iE (aD C.st i) = some (T, xs))
  (hX : (C.ι i).isNil = false → C'.X (C.ι i).block) (s : Src) (o : Nat) (hv : s o = some v) : M C' (.ae T ((xs.drop lo).take n)) s o := by
 obtain ⟨hlen, hv'⟩ := hs T xs h
 obtain ⟨hp, hrow⟩ := uR hI hi h
 simp only [M]
 have hl : ((xs.drop lo).take n).length = n := by simp; omega
 refine ⟨by rw [hk.P]; exact iP _ _ (j5 _ _ hp), ?_⟩
 rw [hl, hv]
 rcases hv' with ⟨_, rfl, rfl, rfl⟩ | ⟨hn, cap, q, rfl, hq, hc1, hc2⟩
 ·exact ⟨none, 0, rfl, Nat.le_refl _, fun hne => absurd (by simp) hne⟩
 ·refine ⟨some q, cap, rfl, hc1, fun hne => ?_⟩
  have hn0 : 0 < n := by rw [← hl]; exact List.length_pos_iff.2 hne
  have hq' := hq.resolve_right (by omega)
  rcases hrow with ⟨h0, _⟩ | ⟨_, hlt, hm⟩
  ·rw [hn] at h0; cases h0
  ·refine ⟨_, _, by rw [hq'], hX hn, ?_⟩
   have h1 := pY _ n _ _ _ (sX xs lo _ _ _ hm)
   rw [Nat.zero_add] at h1
   have := fW hk hI.lay ((xs.drop lo).take n) T (cellAt C.w (C.ι i).block) (fun j => C'.w.cell? ⟨(C.ι i).block, j, none⟩) _ (lo * C.P.cellsOf T) (iP _ _ (j5 _ _ hp))
    (fun j _ => by rw [hw]; rfl) h1
   rw [hk.P]
   exact this
mutual
theorem hG {st : List Obj} : ∀ (a b : AV), b7 st a = some b → bP b = bP a ∧ wid b = wid a ∧ b ≠ .cw ∧ refs b = []
 | .lit v, b, h => by simp only [b7, aa3] at h; subst h; simp [refs]
 | .ae T l, b, h => by simp only [b7, aa3] at h; subst h; simp [refs]
 | .a7 i lo n, b, h => by
  simp only [b7] at h
  split at h
  ·simp only [aa3] at h; subst h; simp [bP, wid, refs]
  ·simp at h
 | .agg l, b, h => by
  simp only [b7, Option.map_eq_some_iff] at h
  obtain ⟨m, h1, rfl⟩ := h
  obtain ⟨h2, h3⟩ := rR l m h1
  simp [bP, wid, refs, h2, h3]
 | .jH T a, b, h => by simp only [b7, aa3] at h; subst h; simp [refs]
 | .jb T a, b, h => by
  simp only [b7, Option.map_eq_some_iff] at h
  obtain ⟨m, h1, rfl⟩ := h
  obtain ⟨h2, h3, h4, h5⟩ := hG a m h1
  simp [bP, wid, refs, h5]
 | .dq f [], b, h => by simp only [b7, aa3] at h; subst h; simp [refs, cP]
 | .dq f (_ :: _), b, h => by simp [b7] at h
 | .cw, b, h | .bR _, b, h | .ptr _ _ _ _, b, h | .mp _, b, h | .dv _, b, h | .kr _ _, b, h => by simp [b7] at h
theorem rR {st : List Obj} : ∀ (l m : List AV), jC st l = some m → eG m = eG l ∧ cP m = []
 | [], m, h => by simp only [jC, aa3] at h; subst h; simp [cP]
 | a :: l, m, h => by
  simp only [jC] at h
  split at h
  ·rename_i b m' h1 h2
   simp only [aa3] at h; subst h
   obtain ⟨_, g1, _, g2⟩ := hG a b h1
   obtain ⟨g3, g4⟩ := rR l m' h2
   simp [eG, cP, g1, g2, g3, g4]
  ·simp at h
end
mutual
theorem sZ {C C' : Ctx} (hI : Inv C) (hk : bL C C') (hw : C'.w = C.w) :
  ∀ (a b : AV) (s : Src) (o : Nat), b7 C.st a = some b → (∀ i, i ∈ rowsOf a → i < C.st.length → (C.ι i).isNil = false → C'.X (C.ι i).block) → M C a s o → M C' b s o
 | .lit v, b, s, o, h, _, hm => by simp only [b7, aa3] at h; subst h; simpa [M] using hm
 | .ae T l, b, s, o, h, _, hm => by
  simp only [b7, aa3] at h; subst h
  exact M.fu hk hI.lay (fun i hi => by simp [refs] at hi) (fun _ _ => rfl) hm
 | .a7 i lo n, b, s, o, h, hr, hm => by
  simp only [b7] at h
  split at h
  ·rename_i T xs hel
   simp only [aa3] at h; subst h
   simp only [M] at hm
   obtain ⟨hi, v, h1, h2, h3⟩ := hm
   exact BW hI hk hw hi h3 hel (hr i (by simp [rowsOf]) hi) s o h1
  ·simp at h
 | .agg l, b, s, o, h, hr, hm => by
  simp only [b7, Option.map_eq_some_iff] at h
  obtain ⟨m, h1, rfl⟩ := h
  simp only [M] at hm ⊢
  exact EZ hI hk hw l m s o h1 (by simpa [rowsOf] using hr) hm
 | .jH T a, b, s, o, h, _, hm => by
  simp only [b7, aa3] at h; subst h
  exact M.fu hk hI.lay (fun i hi => by simp [refs] at hi) (fun _ _ => rfl) hm
 | .jb T a, b, s, o, h, hr, hm => by
  simp only [b7, Option.map_eq_some_iff] at h
  obtain ⟨m, h1, rfl⟩ := h
  simp only [M] at hm ⊢
  obtain ⟨u, h2, h3, h4, h5⟩ := hm
  obtain ⟨g1, g2, _, _⟩ := hG a m h1
  exact ⟨u, h2, by rw [h3, g1], by rw [h4, g2], sZ hI hk hw a m _ _ h1 (by simpa [rowsOf] using hr) h5⟩
 | .dq f [], b, s, o, h, _, hm => by
  simp only [b7, aa3] at h; subst h
  simpa [M, MT] using hm
 | .dq f (_ :: _), b, _, _, h, _, _ => by simp [b7] at h
 | .cw, b, _, _, h, _, _ | .bR _, b, _, _, h, _, _ | .ptr _ _ _ _, b, _, _, h, _, _ | .mp _, b, _, _, h, _, _ | .dv _, b, _, _, h, _, _ | .kr _ _, b, _, _, h, _, _ => by simp [b7] at h
theorem EZ {C C' : Ctx} (hI : Inv C) (hk : bL C C') (hw : C'.w = C.w) :
  ∀ (l m : List AV) (s : Src) (o : Nat), jC C.st l = some m → (∀ i, i ∈ fy l → i < C.st.length → (C.ι i).isNil = false → C'.X (C.ι i).block) → ML C l s o → ML C' m s o
 | [], m, s, o, h, _, _ => by simp only [jC, aa3] at h; subst h; simp [ML]
 | a :: l, m, s, o, h, hr, hm => by
  simp only [jC] at h
  split at h
  ·rename_i b m' h1 h2
   simp only [aa3] at h; subst h
   simp only [ML] at hm ⊢
   obtain ⟨_, g1, _, _⟩ := hG a b h1
   refine ⟨sZ hI hk hw a b s o h1 (fun i hi => hr i (by simp [fy, hi])) hm.1, ?_⟩
   rw [g1]
   exact EZ hI hk hw l m' s _ h2 (fun i hi => hr i (by simp [fy, hi])) hm.2
  ·simp at h
end
end Go.Dn
