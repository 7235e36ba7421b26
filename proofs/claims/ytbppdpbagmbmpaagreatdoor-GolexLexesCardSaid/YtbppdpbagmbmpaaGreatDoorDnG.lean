import Derived.Test.YtbppdpbagmbmpaaGreatDoorDnF
namespace Go.Dn
open Go
theorem rel_cell {C : Ctx} {a : AV} {v : Value} (h : Rel C a v) (ha : isAggA a = false) (hj : a ≠ .junk) : v.cells = #[v] ∧ isAggV v = false := by
  have h1 := h.1.resolve_right hj
  rw [ha] at h1
  exact ⟨cells_one h1, h1⟩
theorem rel_lit_inv {C : Ctx} {u v : Value} (h : Rel C (.lit u) v) : v = u := by
  have h1 := rel_cell h rfl (by simp)
  have h2 := h.2.2
  simp only [M] at h2
  rw [h1.1] at h2
  simpa using h2.1
theorem rel_ptr {C : Ctx} {i k off : Nat} {p : List Nat} {v : Value} (h : Rel C (.ptr i k p off) v) : i < C.st.length ∧ PtrOK C i k off v := by
  have h1 := rel_cell h rfl (by simp)
  have h2 := h.2.2
  simp only [M] at h2
  rw [h1.1] at h2
  obtain ⟨hi, u, hu, _, hp⟩ := h2
  simp at hu; subst hu
  exact ⟨hi, hp⟩
theorem rel_slc {C : Ctx} {i lo n : Nat} {v : Value} (h : Rel C (.slc i lo n) v) : i < C.st.length ∧ SlcOK C i lo n v := by
  have h1 := rel_cell h rfl (by simp)
  have h2 := h.2.2
  simp only [M] at h2
  rw [h1.1] at h2
  obtain ⟨hi, u, hu, _, hp⟩ := h2
  simp at hu; subst hu
  exact ⟨hi, hp⟩
theorem rel_mp {C : Ctx} {i : Nat} {v : Value} (h : Rel C (.mp i) v) : i < C.st.length ∧ MpOK C i v := by
  have h1 := rel_cell h rfl (by simp)
  have h2 := h.2.2
  simp only [M] at h2
  rw [h1.1] at h2
  obtain ⟨hi, u, hu, _, hp⟩ := h2
  simp at hu; subst hu
  exact ⟨hi, hp⟩
theorem rel_ifc {C : Ctx} {T : TypeId} {a : AV} {v : Value} (h : Rel C (.ifc T a) v) : ∃ u, v = .iface T u := by
  have hl := h.2.1.resolve_right (by simp)
  have ha := h.1.resolve_right (by simp)
  have hc := cells_one (v := v) (by rw [ha]; rfl)
  have hm := h.2.2
  simp only [M] at hm
  obtain ⟨u, h1, _⟩ := hm
  rw [hc] at h1
  exact ⟨u, by simpa using h1⟩
theorem rel_yld {C : Ctx} {i : Nat} {v : Value} (h : Rel C (.yld i) v) : i < C.st.length ∧ YldOK C i v := by
  have h1 := rel_cell h rfl (by simp)
  have h2 := h.2.2
  simp only [M] at h2
  rw [h1.1] at h2
  obtain ⟨hi, u, hu, _, hp⟩ := h2
  simp at hu; subst hu
  exact ⟨hi, hp⟩
theorem rel_stp {C : Ctx} {i : Nat} {k v : Value} (h : Rel C (.stp i k) v) : i < C.st.length ∧ StpOK C i k v := by
  have h1 := rel_cell h rfl (by simp)
  have h2 := h.2.2
  simp only [M] at h2
  rw [h1.1] at h2
  obtain ⟨hi, u, hu, _, hp⟩ := h2
  simp at hu; subst hu
  exact ⟨hi, hp⟩
theorem rel_lst {C : Ctx} {T : TypeId} {l : List AV} {v : Value} (h : Rel C (.lst T l) v) : ptypL C.P l T ∧ ∃ p cap, v = .slice p l.length cap ∧ l.length ≤ cap ∧
    (l ≠ [] → ∃ b off, p = some ⟨b, off, none⟩ ∧ C.X b ∧ MR C l (C.P.cellsOf T) (cellAt C.w b) off) := by
  have h1 := rel_cell h rfl (by simp)
  have h2 := h.2.2
  simp only [M] at h2
  rw [h1.1] at h2
  obtain ⟨hp, p, cap, hu, h3⟩ := h2
  simp at hu; subst hu
  exact ⟨hp, p, cap, rfl, h3⟩
theorem rel_pim {C : Ctx} {T : TypeId} {a : AV} {v : Value} (h : Rel C (.pim T a) v) : ∃ b off, v = .pointer (some ⟨b, off, none⟩) ∧ C.X b ∧ ptyp C.P a T ∧ M C a (cellAt C.w b) off := by
  have h1 := rel_cell h rfl (by simp)
  have h2 := h.2.2
  simp only [M] at h2
  rw [h1.1] at h2
  obtain ⟨b, off, hu, h3⟩ := h2
  simp at hu; subst hu
  exact ⟨b, off, rfl, h3⟩
theorem rel_tup {C : Ctx} {l : List AV} {v : Value} (h : Rel C (.tup l) v) : ∃ vs, v = .tuple vs ∧ MT C l vs.toList := by
  have h1 := rel_cell h rfl (by simp)
  have h2 := h.2.2
  simp only [M] at h2
  rw [h1.1] at h2
  obtain ⟨vs, hu, h3⟩ := h2
  simp at hu; subst hu
  exact ⟨vs, rfl, h3⟩
theorem rel_clo {C : Ctx} {f : FuncId} {l : List AV} {v : Value} (h : Rel C (.clo f l) v) : ∃ vs, v = .func (.func f) #[] vs ∧ MT C l vs.toList := by
  have h1 := rel_cell h rfl (by simp)
  have h2 := h.2.2
  simp only [M] at h2
  rw [h1.1] at h2
  obtain ⟨vs, hu, h3⟩ := h2
  simp at hu; subst hu
  exact ⟨vs, rfl, h3⟩
theorem rel_agg {C : Ctx} {l : List AV} {v : Value} (h : Rel C (.agg l) v) : ∃ cs : Array Value, v = .agg cs ∧ cs.size = widL l ∧ ML C l (fun j => cs[j]?) 0 := by
  have h1 := h.1.resolve_right (by simp)
  have h2 := h.2.1.resolve_right (by simp)
  have h3 := h.2.2
  cases v <;> simp [isAggV, isAggA] at h1
  rename_i cs
  simp only [Value.cells, wid] at h2
  simp only [M, Value.cells] at h3
  exact ⟨cs, rfl, h2, h3⟩
theorem rel_mk {C : Ctx} {a : AV} {v : Value} (ha : isAggA a = false) (hv : isAggV v = false) (h : M C a (fun _ => some v) 0 ) (hI : Inv C) : Rel C a v := by
  have hw : wid a = 1 := by cases a <;> simp_all [isAggA, wid]
  have hc := cells_one hv
  refine ⟨.inl (by rw [ha, hv]), .inl (by rw [hc, hw]; rfl), M_same hI (fun j hj => ?_) h⟩
  obtain rfl : j = 0 := by omega
  simp [hc]
theorem MR_at {C : Ctx} : ∀ (l : List AV) (k z : Nat) (s : Src) (o : Nat), k < l.length → MR C l z s o → M C (nth l k) s (o + k * z)
  | [], _, _, _, _, h, _ => by simp at h
  | a :: l, 0, z, s, o, _, h => by simp only [MR] at h; simpa [nth] using h.1
  | a :: l, k + 1, z, s, o, hk, h => by
    simp only [MR] at h
    have := MR_at l k z s (o + z) (by simpa using hk) h.2
    simp only [nth]
    rwa [show o + (k + 1) * z = o + z + k * z by rw [Nat.add_mul]; omega]
theorem ptypL_at {P : Program} : ∀ (l : List AV) (k : Nat) (T : TypeId), k < l.length → ptypL P l T → ptyp P (nth l k) T
  | [], _, _, h, _ => by simp at h
  | a :: l, 0, T, _, h => by simp only [ptypL] at h; simpa [nth] using h.1
  | a :: l, k + 1, T, hk, h => by
    simp only [ptypL] at h
    simpa [nth] using ptypL_at l k T (by simpa using hk) h.2
theorem solid_at : ∀ (l : List AV) (j : Nat), j < l.length → solidL l = true → solid (nth l j) = true
  | [], _, h, _ => by simp at h
  | a :: l, 0, _, h => by
    simp only [solidL, Bool.and_eq_true] at h
    exact h.1
  | a :: l, j + 1, hj, h => by
    simp only [solidL, Bool.and_eq_true] at h
    simpa [nth] using solid_at l j (by simpa using hj) h.2
theorem solid_atP : ∀ (p : List Nat) (a : AV), inP a p = true → solid a = true → solid (atP a p) = true
  | [], a, _, h => by cases a <;> exact h
  | j :: p, .agg l, hp, h => by
    simp only [inP, Bool.and_eq_true, decide_eq_true_eq] at hp
    simp only [atP, fld]
    exact solid_atP p (nth l j) hp.2 (solid_at l j hp.1 h)
  | _ :: _, .junk, hp, _ | _ :: _, .lit _, hp, _ | _ :: _, .lst _ _, hp, _ | _ :: _, .tup _, hp, _ | _ :: _, .slc _ _ _, hp, _
  | _ :: _, .ptr _ _ _ _, hp, _ | _ :: _, .pim _ _, hp, _ | _ :: _, .mp _, hp, _ | _ :: _, .yld _, hp, _ | _ :: _, .stp _ _, hp, _
  | _ :: _, .clo _ _, hp, _ | _ :: _, .ifc _ _, hp, _ | _ :: _, .fmp _ _ _ _, hp, _ => by simp [inP] at hp
theorem M_leafV {C : Ctx} : ∀ {a : AV} {s : Src} {o : Nat}, isAggA a = false → solid a = true → M C a s o → ∃ v, s o = some v ∧ oneV v = true
  | .junk, _, _, _, hs, _ => by simp [solid] at hs
  | .tup _, _, _, _, hs, _ => by simp [solid] at hs
  | .agg _, _, _, ha, _, _ => by simp [isAggA] at ha
  | .lit _, _, _, _, _, h => by simp only [M] at h; exact ⟨_, h⟩
  | .lst _ _, _, _, _, _, h => by simp only [M] at h; obtain ⟨_, p, cap, h1, _⟩ := h; exact ⟨_, h1, rfl⟩
  | .slc _ _ _, _, _, _, _, h => by simp only [M] at h; obtain ⟨_, v, h1, h2, _⟩ := h; exact ⟨v, h1, h2⟩
  | .ptr _ _ _ _, _, _, _, _, h => by simp only [M] at h; obtain ⟨_, v, h1, h2, _⟩ := h; exact ⟨v, h1, h2⟩
  | .pim _ _, _, _, _, _, h => by simp only [M] at h; obtain ⟨b, off, h1, _⟩ := h; exact ⟨_, h1, rfl⟩
  | .mp _, _, _, _, _, h => by simp only [M] at h; obtain ⟨_, v, h1, h2, _⟩ := h; exact ⟨v, h1, h2⟩
  | .yld _, _, _, _, _, h => by simp only [M] at h; obtain ⟨_, v, h1, h2, _⟩ := h; exact ⟨v, h1, h2⟩
  | .stp _ _, _, _, _, _, h => by simp only [M] at h; obtain ⟨_, v, h1, h2, _⟩ := h; exact ⟨v, h1, h2⟩
  | .clo _ _, _, _, _, _, h => by simp only [M] at h; obtain ⟨vs, h1, _⟩ := h; exact ⟨_, h1, rfl⟩
  | .ifc _ _, _, _, _, _, h => by simp only [M] at h; obtain ⟨u, h1, _⟩ := h; exact ⟨_, h1, rfl⟩
  | .fmp _ _ _ _, _, _, _, _, h => by
    simp only [M] at h
    rcases h with ⟨h, _⟩ | ⟨b, _, _, h, _⟩
    · exact ⟨_, h, rfl⟩
    · exact ⟨_, h, rfl⟩
theorem load_ptyp {C : Ctx} (hI : Inv C) {T : TypeId} {b o : Nat} {a : AV} {T0 : TypeId} {p : List Nat} (ht : ptyp C.P a T0) (hm : M C a (cellAt C.w b) o)
    (hp : inP a p = true) (hag : isAggT C.P T = isAggA (atP a p)) (hw : wid (atP a p) = C.P.cellsOf T) (hs : (C.P.underlying T).isSome = true) :
    ∃ v, (loadVar T ⟨b, o + offP a p, none⟩).run C.P C.w = .ok v C.w ∧ Rel C (atP a p) v := by
  obtain ⟨d, hd⟩ := Option.isSome_iff_exists.1 hs
  refine run_loadVar_rel hI hd (M_at p a _ o hp hm) hag hw (fun j hj => ?_)
  have hle := offP_le p a hp
  obtain ⟨v, h1, h2⟩ := M_some a T0 _ o ht hm (offP a p + j) (by omega)
  exact ⟨v, by rw [← h1]; simp only [cellAt]; congr 2; omega, fun _ => h2⟩
theorem load_sound {C : Ctx} (hI : Inv C) {T : TypeId} {p x : AV} {c : Bool} {vp : Value} (h : loadA C.P C.st T p = some (c, x)) (hr : Rel C p vp) :
    ∃ v, (Instr.loadAt T vp).run C.P C.w = .ok v C.w ∧ Rel C x v := by
  cases p <;> simp only [loadA] at h <;> try (simp at h; done)
  · rename_i i k path off
    obtain ⟨hi, hp⟩ := rel_ptr hr
    have hob := hI.obj i hi
    split at h
    · rename_i Tb a hst
      split at h
      · rename_i hc
        simp only [Bool.and_eq_true, beq_iff_eq] at hc
        obtain ⟨⟨⟨⟨h1, h2⟩, h3⟩, h4⟩, h5⟩ := hc
        simp only [Option.some.injEq, Prod.mk.injEq] at h
        obtain ⟨_, rfl⟩ := h
        obtain ⟨rfl, rfl⟩ := hp.2.1 Tb a hst
        rw [hst] at hob
        obtain ⟨_, hsol, cc, e, hh, hsz, hm⟩ := hob
        obtain ⟨d, hd⟩ := Option.isSome_iff_exists.1 h5
        have hM := M_at path a _ 0 h1 hm
        have := run_loadVar_rel hI hd (b := (C.ι i).block) hM h3 h4 (fun j hj => by
          have hle := offP_le path a h1
          cases hag : isAggA (atP a path) with
          | false =>
            have hw1 : wid (atP a path) = 1 := by cases hx : atP a path <;> simp_all [isAggA, wid]
            obtain rfl : j = 0 := by omega
            obtain ⟨v, h6, h7⟩ := M_leafV hag (solid_atP path a h1 hsol) hM
            exact ⟨v, h6, fun _ => h7⟩
          | true =>
            have : (C.w.cell? ⟨(C.ι i).block, 0 + offP a path + j, none⟩) = cc[0 + offP a path + j]? := by simp [World.cell?, hh]
            rw [this, Array.getElem?_eq_getElem (by omega)]
            exact ⟨_, rfl, fun e => by cases e⟩)
        simp only [Nat.zero_add, h2] at this
        simpa [Instr.loadAt, Instr.sureAddr] using this
      · simp at h
    · rename_i T0 E ls hst
      split at h
      · split at h
        · rename_i hc
          simp only [Bool.and_eq_true, beq_iff_eq] at hc
          obtain ⟨⟨⟨h1, h2⟩, rfl⟩, h5⟩ := hc
          simp only [Option.some.injEq, Prod.mk.injEq] at h
          obtain ⟨_, rfl⟩ := h
          obtain ⟨hk, _, rfl⟩ := hp.2.2.2.2.2 T E ls none hst
          rw [hst] at hob
          obtain ⟨_, hU, _, _, c, hh, hsz, hc⟩ := hob
          obtain ⟨v, hv, hsub⟩ := hc k hk (by simp)
          obtain ⟨d, hd⟩ := Option.isSome_iff_exists.1 h5
          have hcell : C.w.cell? ⟨(C.ι i).block, k, none⟩ = some v := by simp only [World.cell?, hh]; exact hv
          have hv1 : oneV v = true ∧ isAggV v = false := by
            rcases hsub.2 with ⟨rfl, _⟩ | ⟨b, cap, c, rfl, _⟩ <;> exact ⟨rfl, rfl⟩
          refine ⟨v, ?_, .inl hv1.2, .inl (by rw [cells_one hv1.2]; rfl), ?_⟩
          · simp only [Instr.loadAt, Instr.sureAddr, Sem.run_bind, Sem.run_pure, Result.andThen_ok, loadVar, run_isAgg hd, h1, Bool.false_eq_true, if_false]
            exact run_load_at hcell
          · rw [cells_one hv1.2]
            simp only [M]
            refine ⟨hi, v, rfl, hv1.1, fun T' xs hx => by rw [hst] at hx; simp [elT] at hx, fun T' E' ls' pd hx => ?_⟩
            rw [hst] at hx
            cases hx
            exact ⟨hk, hsub⟩
        · simp at h
      · simp at h
    · rename_i hno hno2
      split at h
      · rename_i T0 xs hel
        split at h
        · rename_i hc
          simp only [Bool.and_eq_true, beq_iff_eq] at hc
          obtain ⟨⟨⟨⟨h1, h2⟩, h3⟩, h4⟩, h5⟩ := hc
          simp only [Option.some.injEq, Prod.mk.injEq] at h
          obtain ⟨_, rfl⟩ := h
          obtain ⟨hk, rfl⟩ := hp.1 T0 xs hel
          have hrow : ptypL C.P xs T0 ∧ MR C xs (C.P.cellsOf T0) (cellAt C.w (C.ι i).block) 0 := by
            cases hx : nthO C.st i <;> rw [hx] at hel hob <;> simp [elT] at hel
            · obtain ⟨rfl, rfl⟩ := hel
              obtain ⟨g1, ⟨_, g2⟩ | ⟨_, _, cc, _, _, _, _, g3⟩⟩ := hob
              · subst g2; simp at hk
              · exact ⟨g1, g3⟩
            · obtain ⟨rfl, rfl⟩ := hel
              obtain ⟨g1, ⟨_, g2⟩ | ⟨_, _, g3⟩⟩ := hob
              · subst g2; simp at hk
              · exact ⟨g1, g3⟩
          have hM := MR_at xs k _ _ _ hk hrow.2
          have hT := ptypL_at xs k T0 hk hrow.1
          obtain ⟨hE, hTE⟩ := M_expand hI.lay depthE T0 _ _ _ hT hM
          have := load_ptyp hI hTE hE h1 h3 h4 h5
          simp only [Nat.zero_add, h2] at this
          simpa [Instr.loadAt, Instr.sureAddr] using this
        · simp at h
      · simp at h
  · rename_i T0 a
    split at h
    · rename_i hc
      simp only [Bool.and_eq_true, beq_iff_eq] at hc
      obtain ⟨⟨h3, h4⟩, h5⟩ := hc
      simp only [Option.some.injEq, Prod.mk.injEq] at h
      obtain ⟨_, rfl⟩ := h
      obtain ⟨b, off, rfl, hX, ht, hm⟩ := rel_pim hr
      obtain ⟨hE, hTE⟩ := M_expand hI.lay depthE T0 _ _ _ ht hm
      have hnil : ∀ y : AV, inP y [] = true ∧ offP y [] = 0 ∧ atP y [] = y := fun y => by cases y <;> simp [inP, offP, atP]
      have := load_ptyp hI (p := []) hTE hE (hnil _).1 (by rw [(hnil _).2.2]; exact h3) (by rw [(hnil _).2.2]; exact h4) h5
      rw [(hnil _).2.1, (hnil _).2.2, Nat.add_zero] at this
      simpa [Instr.loadAt, Instr.sureAddr] using this
    · simp at h
end Go.Dn
