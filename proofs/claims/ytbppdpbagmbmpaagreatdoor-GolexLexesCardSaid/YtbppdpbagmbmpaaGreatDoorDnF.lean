import Derived.Test.YtbppdpbagmbmpaaGreatDoorDnE
import Derived.WalkKit
namespace Go.Dn
open Go
mutual
theorem M_some {C : Ctx} : ∀ (a : AV) (T : TypeId) (s : Src) (o : Nat), ptyp C.P a T → M C a s o → ∀ j, j < wid a → ∃ v, s (o + j) = some v ∧ oneV v = true
  | .lit v, _, s, o, _, h, j, hj => by
    simp only [wid] at hj; obtain rfl : j = 0 := by omega
    simp only [M] at h; exact ⟨v, h⟩
  | .lst E l, _, s, o, _, h, j, hj => by
    simp only [wid] at hj; obtain rfl : j = 0 := by omega
    simp only [M] at h; obtain ⟨_, p, cap, h2, _⟩ := h
    exact ⟨_, h2, rfl⟩
  | .agg l, T, s, o, ht, h, j, hj => by
    simp only [ptyp] at ht; obtain ⟨fs, _, h2⟩ := ht
    simp only [M] at h; simp only [wid] at hj
    exact ML_some l fs.toList s o h2 h j hj
  | .pim E a, _, s, o, _, h, j, hj => by
    simp only [wid] at hj; obtain rfl : j = 0 := by omega
    simp only [M] at h; obtain ⟨b, off, h2, _⟩ := h
    exact ⟨_, h2, rfl⟩
  | .ifc U a, _, s, o, _, h, j, hj => by
    simp only [wid] at hj; obtain rfl : j = 0 := by omega
    simp only [M] at h; obtain ⟨u, h2, _⟩ := h
    exact ⟨_, h2, rfl⟩
  | .fmp K V ks vs, _, s, o, _, h, j, hj => by
    simp only [wid] at hj; obtain rfl : j = 0 := by omega
    simp only [M] at h
    rcases h with ⟨h, _⟩ | ⟨b, _, _, h, _⟩
    · exact ⟨_, h, rfl⟩
    · exact ⟨_, h, rfl⟩
  | .junk, _, _, _, h, _, _, _ => by simp [ptyp] at h
  | .tup _, _, _, _, h, _, _, _ => by simp [ptyp] at h
  | .slc _ _ _, _, _, _, h, _, _, _ => by simp [ptyp] at h
  | .ptr _ _ _ _, _, _, _, h, _, _, _ => by simp [ptyp] at h
  | .mp _, _, _, _, h, _, _, _ => by simp [ptyp] at h
  | .yld _, _, _, _, h, _, _, _ => by simp [ptyp] at h
  | .stp _ _, _, _, _, h, _, _, _ => by simp [ptyp] at h
  | .clo _ _, _, _, _, h, _, _, _ => by simp [ptyp] at h
theorem ML_some {C : Ctx} : ∀ (l : List AV) (fs : List Field) (s : Src) (o : Nat), ptypF C.P l fs → ML C l s o → ∀ j, j < widL l → ∃ v, s (o + j) = some v ∧ oneV v = true
  | [], _, _, _, _, _, j, hj => by simp [widL] at hj
  | _ :: _, [], _, _, h, _, _, _ => by simp [ptypF] at h
  | a :: l, f :: fs, s, o, ht, h, j, hj => by
    simp only [ptypF] at ht
    simp only [ML] at h
    simp only [widL] at hj
    rcases Nat.lt_or_ge j (wid a) with hlt | hge
    · exact M_some a f.type s o ht.1 h.1 j hlt
    · obtain ⟨v, h1, h2⟩ := ML_some l fs s (o + wid a) ht.2 h.2 (j - wid a) (by omega)
      exact ⟨v, by rw [← h1]; congr 1; omega, h2⟩
end
theorem M_same {C : Ctx} {a : AV} {s s' : Src} {o o' : Nat} (hI : Inv C) (hs : ∀ j, j < wid a → s' (o' + j) = s (o + j)) (h : M C a s o) : M C a s' o' :=
  M.keep (Keeps.refl C) hI.lay (fun _ _ hlt => RefOK.refl C hlt) hs h
theorem cells_one {v : Value} (h : isAggV v = false) : v.cells = #[v] := by cases v <;> simp_all [Value.cells, isAggV]
theorem rel_leaf {C : Ctx} (hI : Inv C) {a : AV} {s : Src} {o : Nat} {v : Value} (ha : isAggA a = false) (h : M C a s o) (hv : s o = some v) (hag : isAggV v = false) : Rel C a v := by
  have hw : wid a = 1 := by cases a <;> simp_all [isAggA, wid]
  have hc := cells_one hag
  refine ⟨.inl (by rw [ha, hag]), .inl (by rw [hc, hw]; rfl), M_same hI (fun j hj => ?_) h⟩
  obtain rfl : j = 0 := by omega
  simp [hc, hv]
theorem rel_cells {C : Ctx} (hI : Inv C) {l : List AV} {s : Src} {o : Nat} {cs : Array Value} (h : M C (.agg l) s o) (hsz : cs.size = wid (.agg l)) (hs : ∀ j, j < cs.size → s (o + j) = cs[j]?) : Rel C (.agg l) (.agg cs) :=
  ⟨.inl rfl, .inl (by simpa [Value.cells] using hsz), M_same hI (fun j hj => by simp [Value.cells, hs j (by omega)]) h⟩
section
variable {P : Program} {w : World}
theorem addr_add (b o i : Nat) : (⟨b, o, none⟩ : Addr).add i = ⟨b, o + i, none⟩ := by
  unfold Addr.add; split <;> simp_all
theorem run_load_at {b o : Nat} {v : Value} (h : w.cell? ⟨b, o, none⟩ = some v) : (load ⟨b, o, none⟩).run P w = .ok v w := by
  rw [run_load]; simp [h]
theorem run_loadCellsFrom (b o : Nat) : ∀ (n i : Nat) (acc : Array Value), (∀ j, j < n → (w.cell? ⟨b, o + i + j, none⟩).isSome = true) →
    ∃ cs : Array Value, cs.size = n ∧ (∀ j, j < n → w.cell? ⟨b, o + i + j, none⟩ = cs[j]?) ∧ (loadCellsFrom ⟨b, o, none⟩ i n acc).run P w = .ok (acc ++ cs) w
  | 0, i, acc, _ => ⟨#[], rfl, fun j hj => absurd hj (Nat.not_lt_zero _), by simp [loadCellsFrom]⟩
  | n + 1, i, acc, h => by
    have h0 := h 0 (by omega)
    obtain ⟨v, hv⟩ := Option.isSome_iff_exists.1 h0
    obtain ⟨cs, h1, h2, h3⟩ := run_loadCellsFrom b o n (i + 1) (acc.push v) (fun j hj => by
      have := h (j + 1) (by omega)
      rwa [show o + i + (j + 1) = o + (i + 1) + j by omega] at this)
    refine ⟨#[v] ++ cs, by simp [h1]; omega, fun j hj => ?_, ?_⟩
    · cases j with
      | zero => rw [show (#[v] ++ cs)[0]? = some v by simp [Array.getElem?_append]]; simpa using hv
      | succ j =>
        have := h2 j (by omega)
        rw [show o + i + (j + 1) = o + (i + 1) + j by omega, this]
        simp [Array.getElem?_append]
    · simp only [loadCellsFrom, Sem.run_bind, addr_add]
      simp only [Nat.add_zero] at hv
      rw [run_load_at hv]
      simp only [Result.andThen_ok, h3]
      rw [Array.push_eq_append, Array.append_assoc]
theorem run_loadCells (b o n : Nat) (h : ∀ j, j < n → (w.cell? ⟨b, o + j, none⟩).isSome = true) :
    ∃ cs : Array Value, cs.size = n ∧ (∀ j, j < n → w.cell? ⟨b, o + j, none⟩ = cs[j]?) ∧ (loadCells ⟨b, o, none⟩ n).run P w = .ok cs w := by
  obtain ⟨cs, h1, h2, h3⟩ := run_loadCellsFrom (P := P) (w := w) b o n 0 #[] (by simpa using h)
  exact ⟨cs, h1, by simpa using h2, by simpa [loadCells] using h3⟩
end
theorem underlying_info {P : Program} {T : TypeId} {d : TypeDesc} (h : P.underlying T = some d) : ∃ i, P.info? T = some i := by
  unfold Program.underlying at h
  cases hi : P.info? T with
  | none => simp [hi] at h
  | some i => exact ⟨i, rfl⟩
theorem run_sizeOf {P : Program} {w : World} {T : TypeId} {d : TypeDesc} (h : P.underlying T = some d) : (sizeOf T).run P w = .ok (P.cellsOf T) w := by
  obtain ⟨i, hi⟩ := underlying_info h
  simp [sizeOf, typeInfo, hi, Program.cellsOf]
theorem run_isAgg {P : Program} {w : World} {T : TypeId} {d : TypeDesc} (h : P.underlying T = some d) : (isAgg T).run P w = .ok (isAggT P T) w := by
  simp only [isAgg, Sem.run_bind, run_underlying h, Result.andThen_ok]
  simp only [isAggT, h]
  cases d <;> rfl
theorem run_loadVar_rel {C : Ctx} (hI : Inv C) {T : TypeId} {d : TypeDesc} (hT : C.P.underlying T = some d) {b o : Nat} {a : AV}
    (hm : M C a (cellAt C.w b) o) (hag : isAggT C.P T = isAggA a) (hw : wid a = C.P.cellsOf T) (hex : ∀ j, j < wid a → ∃ v, C.w.cell? ⟨b, o + j, none⟩ = some v ∧ (isAggA a = false → oneV v = true)) :
    ∃ v, (loadVar T ⟨b, o, none⟩).run C.P C.w = .ok v C.w ∧ Rel C a v := by
  cases ha : isAggA a with
  | false =>
    have hw1 : wid a = 1 := by cases a <;> simp_all [isAggA, wid]
    obtain ⟨v, hv, hvag⟩ := hex 0 (by omega)
    simp only [Nat.add_zero] at hv
    refine ⟨v, ?_, rel_leaf hI ha hm hv (oneV_agg (hvag ha))⟩
    simp only [loadVar, Sem.run_bind, run_isAgg hT, Result.andThen_ok, hag, ha, Bool.false_eq_true, if_false]
    exact run_load_at hv
  | true =>
    obtain ⟨cs, h1, h2, h3⟩ := run_loadCells (P := C.P) (w := C.w) b o (wid a) (fun j hj => by obtain ⟨v, hv, _⟩ := hex j hj; simp [hv])
    cases a <;> simp [isAggA] at ha
    rename_i l
    refine ⟨.agg cs, ?_, rel_cells hI hm h1 (fun j hj => h2 j (by omega))⟩
    simp only [loadVar, Sem.run_bind, run_isAgg hT, Result.andThen_ok, hag, isAggA, if_true, run_sizeOf hT, ← hw, h3, Sem.run_pure]
theorem ML_at {C : Ctx} : ∀ (l : List AV) (j : Nat) (s : Src) (o : Nat), j < l.length → ML C l s o → M C (nth l j) s (o + offF l j)
  | [], _, _, _, h, _ => by simp at h
  | a :: l, 0, s, o, _, h => by simp only [ML] at h; simpa [nth, offF] using h.1
  | a :: l, j + 1, s, o, hj, h => by
    simp only [ML] at h
    have := ML_at l j s (o + wid a) (by simpa using hj) h.2
    simp only [nth, offF]
    rwa [show o + (wid a + offF l j) = o + wid a + offF l j by omega]
theorem offF_le : ∀ (l : List AV) (j : Nat), j < l.length → offF l j + wid (nth l j) ≤ widL l
  | [], _, h => by simp at h
  | a :: l, 0, _ => by simp [nth, offF, widL]
  | a :: l, j + 1, h => by
    have := offF_le l j (by simpa using h)
    simp only [nth, offF, widL]; omega
theorem M_at {C : Ctx} : ∀ (p : List Nat) (a : AV) (s : Src) (o : Nat), inP a p = true → M C a s o → M C (atP a p) s (o + offP a p)
  | [], a, s, o, _, h => by cases a <;> simpa [atP, offP] using h
  | j :: p, .agg l, s, o, hp, h => by
    simp only [inP, Bool.and_eq_true, decide_eq_true_eq] at hp
    simp only [M] at h
    have := M_at p (nth l j) s (o + offF l j) hp.2 (ML_at l j s o hp.1 h)
    simp only [atP, fld, offP]
    rwa [show o + (offF l j + offP (nth l j) p) = o + offF l j + offP (nth l j) p by omega]
  | _ :: _, .junk, _, _, hp, _ | _ :: _, .lit _, _, _, hp, _ | _ :: _, .lst _ _, _, _, hp, _ | _ :: _, .tup _, _, _, hp, _ | _ :: _, .slc _ _ _, _, _, hp, _
  | _ :: _, .ptr _ _ _ _, _, _, hp, _ | _ :: _, .pim _ _, _, _, hp, _ | _ :: _, .mp _, _, _, hp, _ | _ :: _, .yld _, _, _, hp, _ | _ :: _, .stp _ _, _, _, hp, _
  | _ :: _, .clo _ _, _, _, hp, _ | _ :: _, .ifc _ _, _, _, hp, _ | _ :: _, .fmp _ _ _ _, _, _, hp, _ => by simp [inP] at hp
theorem offP_le : ∀ (p : List Nat) (a : AV), inP a p = true → offP a p + wid (atP a p) ≤ wid a
  | [], a, _ => by cases a <;> simp [atP, offP]
  | j :: p, .agg l, hp => by
    simp only [inP, Bool.and_eq_true, decide_eq_true_eq] at hp
    have h1 := offP_le p (nth l j) hp.2
    have h2 := offF_le l j hp.1
    simp only [atP, fld, offP, wid]; omega
  | _ :: _, .junk, hp | _ :: _, .lit _, hp | _ :: _, .lst _ _, hp | _ :: _, .tup _, hp | _ :: _, .slc _ _ _, hp
  | _ :: _, .ptr _ _ _ _, hp | _ :: _, .pim _ _, hp | _ :: _, .mp _, hp | _ :: _, .yld _, hp | _ :: _, .stp _ _, hp
  | _ :: _, .clo _ _, hp | _ :: _, .ifc _ _, hp | _ :: _, .fmp _ _ _ _, hp => by simp [inP] at hp
theorem nth_ptypF {P : Program} : ∀ (l : List AV) (fs : List Field) (j : Nat) (f : Field), ptypF P l fs → nthF fs j = some f → j < l.length ∧ ptyp P (nth l j) f.type
  | [], [], _, _, _, h => by simp [nthF] at h
  | [], _ :: _, _, _, h, _ => by simp [ptypF] at h
  | _ :: _, [], _, _, h, _ => by simp [ptypF] at h
  | a :: l, g :: fs, 0, f, ht, h => by
    simp only [nthF, Option.some.injEq] at h; subst h
    simp only [ptypF] at ht
    exact ⟨by simp, by simpa [nth] using ht.1⟩
  | a :: l, g :: fs, j + 1, f, ht, h => by
    simp only [ptypF] at ht
    simp only [nthF] at h
    obtain ⟨h1, h2⟩ := nth_ptypF l fs j f ht.2 h
    exact ⟨by simpa using h1, by simpa [nth] using h2⟩
theorem mapF_spec {C : Ctx} (g : TypeId → AV → AV) (hg : ∀ T a s o, ptyp C.P a T → M C a s o → M C (g T a) s o ∧ ptyp C.P (g T a) T) (hl : LayOK C.P) :
    ∀ (fs : List Field) (l : List AV) (pre : List AV) (s : Src) (o : Nat), ptypF C.P l fs → ML C l s o →
      ML C (mapF g fs pre.length (.agg (pre ++ l))) s o ∧ ptypF C.P (mapF g fs pre.length (.agg (pre ++ l))) fs
  | [], [], _, _, _, _, _ => by simp [mapF, ML, ptypF]
  | [], _ :: _, _, _, _, h, _ => by simp [ptypF] at h
  | _ :: _, [], _, _, _, h, _ => by simp [ptypF] at h
  | f :: fs, a :: l, pre, s, o, ht, h => by
    simp only [ptypF] at ht
    simp only [ML] at h
    have hn : ∀ (pre l : List AV) (a : AV), nth (pre ++ a :: l) pre.length = a := by
      intro pre; induction pre with
      | nil => intro l a; rfl
      | cons b pre ih => intro l a; simp only [List.cons_append, List.length_cons, nth]; exact ih l a
    have ih := mapF_spec g hg hl fs l (pre ++ [a]) s (o + wid a) ht.2 h.2
    rw [List.append_assoc, List.singleton_append] at ih
    have e : (pre ++ [a]).length = pre.length + 1 := by simp
    rw [e] at ih
    simp only [mapF, fld, hn, ML, ptypF]
    obtain ⟨h1, h2⟩ := hg f.type a s o ht.1 h.1
    have hw : wid (g f.type a) = wid a := by rw [ptyp_wid hl _ _ h2, ptyp_wid hl _ _ ht.1]
    rw [hw]
    exact ⟨⟨h1, ih.1⟩, h2, ih.2⟩
theorem M_expand {C : Ctx} (hl : LayOK C.P) : ∀ (d : Nat) (T : TypeId) (a : AV) (s : Src) (o : Nat), ptyp C.P a T → M C a s o → M C (expand C.P d T a) s o ∧ ptyp C.P (expand C.P d T a) T
  | 0, T, a, s, o, ht, h => by simpa [expand] using ⟨h, ht⟩
  | d + 1, T, a, s, o, ht, h => by
    simp only [expand]
    split
    · rename_i k hk
      cases a <;> simp only [ptyp, hk] at ht <;> try (first | exact ht.elim | (obtain ⟨h1, _⟩ := ht; simp at h1; done) | (obtain ⟨fs, h1, _⟩ := ht; simp at h1; done) | (obtain ⟨⟨ms, h1⟩, _⟩ := ht; simp at h1; done))
      obtain ⟨n, rfl⟩ := ht
      exact ⟨h, by simp [toInt, ptyp, hk]⟩
    · rename_i hk
      cases a <;> simp only [ptyp, hk] at ht <;> try (first | exact ht.elim | (obtain ⟨h1, _⟩ := ht; simp at h1; done) | (obtain ⟨fs, h1, _⟩ := ht; simp at h1; done) | (obtain ⟨⟨ms, h1⟩, _⟩ := ht; simp at h1; done))
      obtain ⟨n, rfl⟩ := ht
      exact ⟨h, by simp [toBool, ptyp, hk]⟩
    · rename_i hk
      cases a <;> simp only [ptyp, hk] at ht <;> try (first | exact ht.elim | (obtain ⟨h1, _⟩ := ht; simp at h1; done) | (obtain ⟨fs, h1, _⟩ := ht; simp at h1; done) | (obtain ⟨⟨ms, h1⟩, _⟩ := ht; simp at h1; done))
      obtain ⟨n, rfl⟩ := ht
      exact ⟨h, by simp [toStr, ptyp, hk]⟩
    · rename_i E hk
      cases a <;> simp only [ptyp, hk] at ht <;> try (first | exact ht.elim | (obtain ⟨fs, h1, _⟩ := ht; simp at h1; done) | (obtain ⟨⟨ms, h1⟩, _⟩ := ht; simp at h1; done))
      · subst ht
        simp only [M] at h
        refine ⟨?_, by simp [toLst, ptyp, ptypL, hk]⟩
        simp only [toLst, M, ptypL, List.length_nil]
        exact ⟨trivial, none, 0, h.1, Nat.le_refl _, fun hne => absurd rfl hne⟩
      · obtain ⟨h1, h2⟩ := ht
        simp only [Option.some.injEq, TypeDesc.slice.injEq] at h1
        subst h1
        exact ⟨by simpa [toLst] using h, by simpa [toLst, ptyp, hk] using h2⟩
      · obtain ⟨h1, _⟩ := ht; simp at h1
      · obtain ⟨h1, _⟩ := ht; simp at h1
    · rename_i K V hk
      cases a <;> simp only [ptyp, hk] at ht <;> try (first | exact ht.elim | (obtain ⟨fs, h1, _⟩ := ht; simp at h1; done) | (obtain ⟨⟨ms, h1⟩, _⟩ := ht; simp at h1; done) | (obtain ⟨h1, _⟩ := ht; simp at h1; done))
      · subst ht
        simp only [M] at h
        refine ⟨?_, by simp [toVs, ptyp, ptypL, hk]⟩
        simp only [toKs, toVs, M]
        exact .inl ⟨h.1, trivial, trivial⟩
      · obtain ⟨h1, h2⟩ := ht
        simp only [Option.some.injEq, TypeDesc.map.injEq] at h1
        obtain ⟨rfl, rfl⟩ := h1
        exact ⟨by simpa [toKs, toVs] using h, by simpa [toVs, ptyp, hk] using h2⟩
    · rename_i fs hk
      cases a <;> simp only [ptyp, hk] at ht <;> try (first | exact ht.elim | (obtain ⟨h1, _⟩ := ht; simp at h1; done) | (obtain ⟨⟨ms, h1⟩, _⟩ := ht; simp at h1; done))
      rename_i l
      obtain ⟨fs', ⟨h1, h0⟩, h2⟩ := ht
      simp only [Option.some.injEq, TypeDesc.struct.injEq] at h1
      subst h1
      simp only [M] at h
      have := mapF_spec (expand C.P d) (fun T a s o => M_expand hl d T a s o) hl fs.toList l [] s o h2 h
      simp only [List.length_nil, List.nil_append] at this
      refine ⟨by simpa [M] using this.1, ?_⟩
      simp only [ptyp]
      exact ⟨fs, ⟨hk, h0⟩, this.2⟩
    · exact ⟨h, ht⟩
end Go.Dn
