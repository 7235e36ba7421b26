import Derived.Test.YtbppdpbagmbmpaaGreatDoorDnJ
import Derived.Laws.BytesString
import Derived.Laws.Cells
namespace Go.Dn
open Go
def Ctx.still (C : Ctx) : Ctx := { C with X := fun b => b < C.w.heap.size, st := [], ι := fun _ => ⟨0, 0, true⟩, cls := id }
theorem still_keeps {C : Ctx} (hI : Inv C) : Keeps C C.still := ⟨rfl, fun b hb => hI.xs b hb, fun _ _ => rfl⟩
theorem still_inv {C : Ctx} (hI : Inv C) : Inv C.still :=
  ⟨hI.lay, fun i hi => by simp [Ctx.still] at hi, fun i j hi => by simp [Ctx.still] at hi, fun b hb => hb, fun i hi => by simp [Ctx.still] at hi, fun b hb => absurd rfl hb, hI.kept' (still_keeps hI)⟩
theorem row_read {C : Ctx} (hI : Inv C) {i : Nat} (hi : i < C.st.length) {T : TypeId} {xs : List AV} (h : elT (nthO C.st i) = some (T, xs)) :
    ptypL C.P xs T ∧ (((C.ι i).isNil = true ∧ xs = []) ∨ ((C.ι i).isNil = false ∧ (C.ι i).block < C.w.heap.size ∧ MR C xs (C.P.cellsOf T) (cellAt C.w (C.ι i).block) 0)) := by
  have hob := hI.obj i hi
  cases hx : nthO C.st i <;> rw [hx] at h hob <;> simp [elT] at h
  · obtain ⟨rfl, rfl⟩ := h
    obtain ⟨g1, g2 | ⟨g2, _, cc, g3, _, _, _, g4⟩⟩ := hob
    · exact ⟨g1, .inl g2⟩
    · exact ⟨g1, .inr ⟨g2, (Array.getElem?_eq_some_iff.1 g3).1, g4⟩⟩
  · obtain ⟨rfl, rfl⟩ := h
    obtain ⟨g1, g2 | ⟨g2, g3, g4⟩⟩ := hob
    · exact ⟨g1, .inl g2⟩
    · exact ⟨g1, .inr ⟨g2, hI.xs _ g3, g4⟩⟩
def Lent (C : Ctx) (i : Nat) : Prop := ((∃ y, elT (nthO C.st i) = some y) ∧ (C.ι i).isNil = false) ∨ ∃ K V es, nthO C.st i = .map K V es
theorem lent_lt {C : Ctx} (hI : Inv C) {i : Nat} (hi : i < C.st.length) (h : Lent C i) : (C.ι i).block < C.w.heap.size := by
  rcases h with ⟨⟨⟨T, xs⟩, hel⟩, hn⟩ | ⟨K, V, es, hx⟩
  · obtain ⟨_, ⟨h0, _⟩ | ⟨_, h1, _⟩⟩ := row_read hI hi hel
    · rw [hn] at h0; cases h0
    · exact h1
  · exact ((hI.obj i hi).lt (by rw [hx]; rfl)).1
theorem slc_as_lst {C C' : Ctx} (hI : Inv C) (hk : Keeps C C') (hw : C'.w = C.w) {i lo n : Nat} {v : Value} (hi : i < C.st.length) (hs : SlcOK C i lo n v) {T : TypeId} {xs : List AV} (h : elT (nthO C.st i) = some (T, xs))
    (hX : (C.ι i).isNil = false → C'.X (C.ι i).block) (s : Src) (o : Nat) (hv : s o = some v) : M C' (.lst T ((xs.drop lo).take n)) s o := by
  obtain ⟨hlen, hv'⟩ := hs.1 T xs h
  obtain ⟨hp, hrow⟩ := row_read hI hi h
  simp only [M]
  have hl : ((xs.drop lo).take n).length = n := by simp; omega
  refine ⟨by rw [hk.P]; exact ptypL_take _ _ (ptypL_drop _ _ hp), ?_⟩
  rw [hl, hv]
  rcases hv' with ⟨_, rfl, rfl, rfl⟩ | ⟨hn, cap, q, rfl, hq, hc1, hc2⟩
  · exact ⟨none, 0, rfl, Nat.le_refl _, fun hne => absurd (by simp) hne⟩
  · refine ⟨some q, cap, rfl, hc1, fun hne => ?_⟩
    have hn0 : 0 < n := by rw [← hl]; exact List.length_pos_iff.2 hne
    have hq' := hq.resolve_right (by omega)
    rcases hrow with ⟨h0, _⟩ | ⟨_, hlt, hm⟩
    · rw [hn] at h0; cases h0
    · refine ⟨_, _, by rw [hq'], hX hn, ?_⟩
      have h1 := MR_take _ n _ _ _ (MR_drop xs lo _ _ _ hm)
      rw [Nat.zero_add] at h1
      have := MR_pure hk hI.lay ((xs.drop lo).take n) T (cellAt C.w (C.ι i).block) (fun j => C'.w.cell? ⟨(C.ι i).block, j, none⟩) _ (lo * C.P.cellsOf T) (ptypL_take _ _ (ptypL_drop _ _ hp))
        (fun j _ => by rw [hw]; rfl) h1
      rw [hk.P]
      exact this
mutual
theorem pureA_shape {st : List Obj} : ∀ (a b : AV), pureA st a = some b → isAggA b = isAggA a ∧ wid b = wid a ∧ b ≠ .junk ∧ refs b = []
  | .lit v, b, h => by simp only [pureA, Option.some.injEq] at h; subst h; simp [refs]
  | .lst T l, b, h => by simp only [pureA, Option.some.injEq] at h; subst h; simp [refs]
  | .slc i lo n, b, h => by
    simp only [pureA] at h
    split at h
    · simp only [Option.some.injEq] at h; subst h; simp [isAggA, wid, refs]
    · simp at h
  | .agg l, b, h => by
    simp only [pureA, Option.map_eq_some_iff] at h
    obtain ⟨m, h1, rfl⟩ := h
    obtain ⟨h2, h3⟩ := pureL_shape l m h1
    simp [isAggA, wid, refs, h2, h3]
  | .pim T a, b, h => by simp only [pureA, Option.some.injEq] at h; subst h; simp [refs]
  | .ifc T a, b, h => by
    simp only [pureA, Option.map_eq_some_iff] at h
    obtain ⟨m, h1, rfl⟩ := h
    obtain ⟨h2, h3, h4, h5⟩ := pureA_shape a m h1
    simp [isAggA, wid, refs, h5]
  | .clo f [], b, h => by simp only [pureA, Option.some.injEq] at h; subst h; simp [refs, refsL]
  | .clo f (_ :: _), b, h => by simp [pureA] at h
  | .fmp _ _ _ _, b, h => by simp only [pureA, Option.some.injEq] at h; subst h; simp [refs]
  | .mp i, b, h => by
    simp only [pureA] at h
    split at h
    · simp only [Option.some.injEq] at h; subst h; simp [isAggA, wid, refs]
    · simp at h
  | .junk, b, h | .tup _, b, h | .ptr _ _ _ _, b, h | .yld _, b, h | .stp _ _, b, h => by simp [pureA] at h
theorem pureL_shape {st : List Obj} : ∀ (l m : List AV), pureL st l = some m → widL m = widL l ∧ refsL m = []
  | [], m, h => by simp only [pureL, Option.some.injEq] at h; subst h; simp [refsL]
  | a :: l, m, h => by
    simp only [pureL] at h
    split at h
    · rename_i b m' h1 h2
      simp only [Option.some.injEq] at h; subst h
      obtain ⟨_, g1, _, g2⟩ := pureA_shape a b h1
      obtain ⟨g3, g4⟩ := pureL_shape l m' h2
      simp [widL, refsL, g1, g2, g3, g4]
    · simp at h
end
theorem ent_fm {C C' : Ctx} (hk : Keeps C C') (hl : LayOK C.P) {V : TypeId} : ∀ (es : List (Value × AV)) (ents : List MapEntry), EntOK C V es ents → ents.map (·.key) = es.map (·.1) ∧ ptypL C.P (es.map (·.2)) V ∧ MT C' (es.map (·.2)) (ents.map (·.val))
  | [], [], _ => ⟨rfl, trivial, by simp [MT]⟩
  | [], _ :: _, h => by simp [EntOK] at h
  | _ :: _, [], h => by simp [EntOK] at h
  | (k, a) :: es, e :: ents, h => by
    simp only [EntOK] at h
    obtain ⟨h1, h2, h3, h4⟩ := h
    obtain ⟨e1, e2, e3⟩ := ent_fm hk hl es ents h4
    simp only [List.map_cons, ptypL, MT]
    exact ⟨by rw [h1, e1], ⟨h2, e2⟩, h3.1, h3.2.1, M_pure hk hl a V _ _ _ _ h2 (fun _ _ => rfl) h3.2.2, e3⟩
mutual
theorem pureA_M {C C' : Ctx} (hI : Inv C) (hk : Keeps C C') (hw : C'.w = C.w) :
    ∀ (a b : AV) (s : Src) (o : Nat), pureA C.st a = some b → (∀ i, i ∈ rowsOf a → i < C.st.length → Lent C i → C'.X (C.ι i).block) → M C a s o → M C' b s o
  | .lit v, b, s, o, h, _, hm => by simp only [pureA, Option.some.injEq] at h; subst h; simpa [M] using hm
  | .lst T l, b, s, o, h, _, hm => by
    simp only [pureA, Option.some.injEq] at h; subst h
    exact M.keep hk hI.lay (fun i hi => by simp [refs] at hi) (fun _ _ => rfl) hm
  | .slc i lo n, b, s, o, h, hr, hm => by
    simp only [pureA] at h
    split at h
    · rename_i T xs hel
      simp only [Option.some.injEq] at h; subst h
      simp only [M] at hm
      obtain ⟨hi, v, h1, h2, h3⟩ := hm
      exact slc_as_lst hI hk hw hi h3 hel (fun hn => hr i (by simp [rowsOf]) hi (.inl ⟨⟨_, hel⟩, hn⟩)) s o h1
    · simp at h
  | .agg l, b, s, o, h, hr, hm => by
    simp only [pureA, Option.map_eq_some_iff] at h
    obtain ⟨m, h1, rfl⟩ := h
    simp only [M] at hm ⊢
    exact pureL_M hI hk hw l m s o h1 (by simpa [rowsOf] using hr) hm
  | .pim T a, b, s, o, h, _, hm => by
    simp only [pureA, Option.some.injEq] at h; subst h
    exact M.keep hk hI.lay (fun i hi => by simp [refs] at hi) (fun _ _ => rfl) hm
  | .ifc T a, b, s, o, h, hr, hm => by
    simp only [pureA, Option.map_eq_some_iff] at h
    obtain ⟨m, h1, rfl⟩ := h
    simp only [M] at hm ⊢
    obtain ⟨u, h2, h3, h4, h5⟩ := hm
    obtain ⟨g1, g2, _, _⟩ := pureA_shape a m h1
    exact ⟨u, h2, by rw [h3, g1], by rw [h4, g2], pureA_M hI hk hw a m _ _ h1 (by simpa [rowsOf] using hr) h5⟩
  | .clo f [], b, s, o, h, _, hm => by
    simp only [pureA, Option.some.injEq] at h; subst h
    simpa [M, MT] using hm
  | .clo f (_ :: _), b, _, _, h, _, _ => by simp [pureA] at h
  | .fmp K V ks vs, b, s, o, h, _, hm => by
    simp only [pureA, Option.some.injEq] at h; subst h
    exact M.keep hk hI.lay (fun i hi => by simp [refs] at hi) (fun _ _ => rfl) hm
  | .mp i, b, s, o, h, hr, hm => by
    simp only [pureA] at h
    split at h
    · rename_i K V es hst
      simp only [Option.some.injEq] at h; subst h
      simp only [M] at hm ⊢
      obtain ⟨hi, v, h1, h2, h3⟩ := hm
      obtain rfl := h3 K V es hst
      have hob := hI.obj i hi
      rw [hst] at hob
      obtain ⟨_, entries, clock, hh, hent, hmap⟩ := hob
      obtain ⟨e1, e2, e3⟩ := ent_fm hk hI.lay es entries.toList hent
      exact .inr ⟨_, entries, clock, h1, hr i (by simp [rowsOf]) hi (.inr ⟨_, _, _, hst⟩), by rw [hw]; exact hh, by rw [hk.P]; exact hmap, e1, by rw [hk.P]; exact e2, e3⟩
    · simp at h
  | .junk, b, _, _, h, _, _ | .tup _, b, _, _, h, _, _ | .ptr _ _ _ _, b, _, _, h, _, _ | .yld _, b, _, _, h, _, _ | .stp _ _, b, _, _, h, _, _ => by simp [pureA] at h
theorem pureL_M {C C' : Ctx} (hI : Inv C) (hk : Keeps C C') (hw : C'.w = C.w) :
    ∀ (l m : List AV) (s : Src) (o : Nat), pureL C.st l = some m → (∀ i, i ∈ rowsOfL l → i < C.st.length → Lent C i → C'.X (C.ι i).block) → ML C l s o → ML C' m s o
  | [], m, s, o, h, _, _ => by simp only [pureL, Option.some.injEq] at h; subst h; simp [ML]
  | a :: l, m, s, o, h, hr, hm => by
    simp only [pureL] at h
    split at h
    · rename_i b m' h1 h2
      simp only [Option.some.injEq] at h; subst h
      simp only [ML] at hm ⊢
      obtain ⟨_, g1, _, _⟩ := pureA_shape a b h1
      refine ⟨pureA_M hI hk hw a b s o h1 (fun i hi => hr i (by simp [rowsOfL, hi])) hm.1, ?_⟩
      rw [g1]
      exact pureL_M hI hk hw l m' s _ h2 (fun i hi => hr i (by simp [rowsOfL, hi])) hm.2
    · simp at h
end
theorem flat_lit {P : Program} {E : TypeId} {v : Value} (hE : flatT P E = true) (h : ptyp P (.lit v) E) : oneV v = true ∧ P.cellsOf E = 1 := by
  unfold flatT at hE
  simp only [ptyp] at h
  split at hE
  · rename_i k hk
    rw [hk] at h
    obtain ⟨n, rfl⟩ := h
    exact ⟨rfl, by simpa using hE⟩
  · rename_i hk
    rw [hk] at h
    obtain ⟨n, rfl⟩ := h
    exact ⟨rfl, by simpa using hE⟩
  · rename_i hk
    rw [hk] at h
    obtain ⟨n, rfl⟩ := h
    exact ⟨rfl, by simpa using hE⟩
  · cases hE
theorem flat_ptyp {P : Program} {E : TypeId} : ∀ (l : List Value), (∀ v, v ∈ l → ptyp P (.lit v) E) → ptypL P (l.map .lit) E
  | [], _ => trivial
  | v :: l, h => by
    simp only [List.map_cons, ptypL]
    exact ⟨h v (by simp), flat_ptyp l fun u hu => h u (by simp [hu])⟩
theorem flat_MR {C : Ctx} {E : TypeId} (hE : flatT C.P E = true) : ∀ (l : List Value) (s : Src) (o : Nat), (∀ v, v ∈ l → ptyp C.P (.lit v) E) → (∀ j, j < l.length → s (o + j) = l[j]?) → MR C (l.map .lit) 1 s o
  | [], _, _, _, _ => by simp [MR]
  | v :: l, s, o, h, hs => by
    simp only [List.map_cons, MR, M]
    refine ⟨⟨by simpa using hs 0 (by simp), (flat_lit hE (h v (by simp))).1⟩, flat_MR hE l s (o + 1) (fun u hu => h u (by simp [hu])) fun j hj => ?_⟩
    have := hs (j + 1) (by simpa using hj)
    rw [show o + 1 + j = o + (j + 1) by omega, this]; rfl
theorem sub_read {C : Ctx} {B : Nat} {E : TypeId} {k m : Nat} {l : List Value} {v : Value} (hE : flatT C.P E = true) (hl : ∀ v, v ∈ l → ptyp C.P (.lit v) E) (h : SubOK C B E k l m v) :
    ∃ p cap, v = .slice p m cap ∧ m ≤ cap ∧ ((l.take m).map AV.lit).length = m ∧ ptypL C.P ((l.take m).map .lit) E ∧ (m ≠ 0 → ∃ b, p = some ⟨b, 0, none⟩ ∧ b < C.w.heap.size ∧ MR C ((l.take m).map .lit) (C.P.cellsOf E) (cellAt C.w b) 0) := by
  obtain ⟨h1, h2⟩ := h
  have hlen : ((l.take m).map AV.lit).length = m := by simp; omega
  have hp := flat_ptyp (l.take m) fun v hv => hl v (List.mem_of_mem_take hv)
  rcases h2 with ⟨rfl, rfl⟩ | ⟨b, cap, c, rfl, h3, _, _, _, _, h4, _, h5⟩
  · exact ⟨none, 0, rfl, Nat.le_refl _, hlen, hp, fun h => absurd rfl h⟩
  · refine ⟨_, cap, rfl, h3, hlen, hp, fun hm => ⟨b, rfl, (Array.getElem?_eq_some_iff.1 h4).1, ?_⟩⟩
    have hne : l ≠ [] := by intro e; subst e; simp at h1; omega
    have hz : C.P.cellsOf E = 1 := by
      match l, hne with
      | v :: _, _ => exact (flat_lit hE (hl v (by simp))).2
    rw [hz]
    refine flat_MR hE _ _ _ (fun v hv => hl v (List.mem_of_mem_take hv)) fun j hj => ?_
    simp only [List.length_take] at hj
    rw [Nat.zero_add, List.getElem?_take_of_lt (by omega), ← h5 j (by omega)]
    simp only [cellAt, World.cell?, h4]; rfl
theorem foldl_push : ∀ (ns : List Int) (s : ByteArray), ns.foldl (fun r n => r.push (UInt8.ofNat n.toNat)) s = ⟨s.data ++ (ns.map fun n => UInt8.ofNat n.toNat).toArray⟩
  | [], s => by simp
  | n :: ns, s => by
    rw [List.foldl_cons, foldl_push ns]
    congr 1
    show s.data.push _ ++ _ = _
    simp
theorem u8_lits {C : Ctx} {E : TypeId} (hE : C.P.underlying E = some (.int .u8)) : ∀ (l : List AV) (s : Src) (o : Nat), ptypL C.P l E → MR C l 1 s o → ∀ j v, ((l.map toInt).map (Value.int .u8))[j]? = some v → s (o + j) = some v
  | [], _, _, _, _, j, v, h => by simp at h
  | a :: l, s, o, hp, hm, j, v, h => by
    simp only [ptypL] at hp
    simp only [MR] at hm
    cases j with
    | zero =>
      cases a <;> simp only [ptyp, hE, false_and] at hp
      · obtain ⟨⟨n, rfl⟩, _⟩ := hp
        have hm := hm.1
        simp only [M] at hm
        simp only [List.map_cons, List.getElem?_cons_zero, toInt, Option.some.injEq] at h
        rw [Nat.add_zero, ← h]
        exact hm.1
      all_goals simp at hp
    | succ j =>
      have := u8_lits hE l s (o + 1) hp.2 hm.2 j v (by simpa using h)
      rwa [show o + (j + 1) = o + 1 + j by omega]
theorem bytes_run {C : Ctx} {E : TypeId} {l : List AV} {v : Value} (hE : C.P.underlying E = some (.int .u8)) (hc : C.P.cellsOf E = 1) (h : Rel C (.lst E l) v) : (Conv.bytesToString v).run C.P C.w = .ok (.string (bytesOf l)) C.w := by
  obtain ⟨hp, p, cap, rfl, _, h3⟩ := rel_lst h
  cases p with
  | none =>
    have : l = [] := by
      rcases l with _ | ⟨a, l⟩
      · rfl
      · obtain ⟨_, _, h4, _⟩ := h3 (by simp)
        cases h4
    subst this
    rfl
  | some q =>
    have key : (loadCells q l.length).run C.P C.w = .ok ((l.map toInt).map (Value.int .u8)).toArray C.w := by
      have hl : ((l.map toInt).map (Value.int .u8)).length = l.length := by simp
      rw [← hl]
      refine Go.run_loadCells_list C.w q _ fun j v hj => ?_
      rcases l with _ | ⟨a, l⟩
      · simp at hj
      · obtain ⟨b, off, hq, _, hm⟩ := h3 (by simp)
        cases hq
        rw [hc] at hm
        have := u8_lits hE _ _ off hp hm j v hj
        rw [addr_add]
        exact this
    rw [Go.run_bytesToString C.w q l.length cap (l.map toInt) key, foldl_push]
    congr 3
    simp [List.map_map]
theorem bytes_run_slc {C : Ctx} (hI : Inv C) {i lo n : Nat} {E : TypeId} {l : List AV} {v : Value} (hE : C.P.underlying E = some (.int .u8)) (hc : C.P.cellsOf E = 1) (hel : elT (nthO C.st i) = some (E, l)) (h : Rel C (.slc i lo n) v) :
    (Conv.bytesToString v).run C.P C.w = .ok (.string (bytesOf ((l.drop lo).take n))) C.w ∧ isAggV v = false := by
  obtain ⟨hi, hs⟩ := rel_slc h
  have hv : isAggV v = false := by
    obtain ⟨_, ⟨_, rfl, _⟩ | ⟨_, cap, q, rfl, _⟩⟩ := hs.1 E l hel <;> rfl
  have hm := slc_as_lst hI (still_keeps hI) rfl hi hs hel (fun hn => by
    obtain ⟨_, ⟨h0, _⟩ | ⟨_, h1, _⟩⟩ := row_read hI hi hel
    · rw [hn] at h0; cases h0
    · exact h1) (fun _ => some v) 0 rfl
  exact ⟨bytes_run (C := C.still) hE hc (rel_mk rfl hv hm (still_inv hI)), hv⟩
end Go.Dn
