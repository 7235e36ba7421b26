import Derived.Test.YtbppdpbagmbmpaaGreatDoorDnU
namespace Go.Dn
open Go
theorem memN_iff : ∀ (l : List Nat) (i : Nat), memN i l = true ↔ i ∈ l
  | [], i => by simp [memN]
  | j :: l, i => by simp [memN, memN_iff l i, Nat.beq_eq]
theorem allIn_spec {ids : List Nat} : ∀ {l : List Nat}, allIn ids l = true → ∀ i, i ∈ l → i ∈ ids
  | [], _, i, h => by simp at h
  | j :: l, h, i, hi => by
    simp only [allIn, Bool.and_eq_true] at h
    rcases List.mem_cons.1 hi with rfl | hi
    · exact (memN_iff _ _).1 h.1
    · exact allIn_spec h.2 i hi
theorem allLt_spec {n : Nat} : ∀ {l : List Nat}, allLt n l = true → ∀ i, i ∈ l → i < n
  | [], _, i, h => by simp at h
  | j :: l, h, i, hi => by
    simp only [allLt, Bool.and_eq_true, decide_eq_true_eq] at h
    rcases List.mem_cons.1 hi with rfl | hi
    · exact h.1
    · exact allLt_spec h.2 i hi
theorem nodupN_spec : ∀ {l : List Nat}, nodupN l = true → l.Nodup
  | [], _ => by simp
  | j :: l, h => by
    simp only [nodupN, Bool.and_eq_true, Bool.not_eq_true'] at h
    rw [List.nodup_cons]
    exact ⟨fun hm => by rw [(memN_iff _ _).2 hm] at h; simp at h, nodupN_spec h.2⟩
theorem idxN_at : ∀ {ids : List Nat} {i n j : Nat}, idxN i ids n = some j → ∃ k, j = n + k ∧ ids[k]? = some i
  | [], _, _, _, h => by simp [idxN] at h
  | a :: ids, i, n, j, h => by
    simp only [idxN] at h
    cases hb : Nat.beq i a with
    | true =>
      rw [hb] at h
      simp only [cond_true, Option.some.injEq] at h
      exact ⟨0, by omega, by simp [Nat.eq_of_beq_eq_true hb]⟩
    | false =>
      rw [hb] at h
      simp only [cond_false] at h
      obtain ⟨k, h1, h2⟩ := idxN_at h
      exact ⟨k + 1, by omega, by simpa using h2⟩
theorem idxN_mem : ∀ {ids : List Nat} {i : Nat} (n : Nat), i ∈ ids → ∃ j, idxN i ids n = some j
  | [], _, _, h => by simp at h
  | a :: ids, i, n, h => by
    simp only [idxN]
    cases hb : Nat.beq i a with
    | true => exact ⟨n, rfl⟩
    | false =>
      simp only [cond_false]
      rcases List.mem_cons.1 h with rfl | h
      · rw [Nat.beq_refl] at hb; cases hb
      · exact idxN_mem (n + 1) h
theorem getSt_nth {st : List Obj} : ∀ {ids : List Nat} {k i : Nat}, ids[k]? = some i → nthO (getSt st ids) k = nthO st i
  | [], _, _, h => by simp at h
  | a :: ids, 0, i, h => by simp at h; subst h; rfl
  | a :: ids, k + 1, i, h => by simp only [getSt, nthO]; exact getSt_nth (by simpa using h)
theorem getSt_length {st : List Obj} : ∀ ids : List Nat, (getSt st ids).length = ids.length
  | [] => rfl
  | a :: ids => by simp [getSt, getSt_length ids]
theorem renSt_length (ρ : Nat → Option Nat) : ∀ l : List Obj, (renSt ρ l).length = l.length
  | [] => rfl
  | a :: l => by simp [renSt, renSt_length ρ l]
theorem renSt_nth (ρ : Nat → Option Nat) : ∀ (l : List Obj) (k : Nat), nthO (renSt ρ l) k = renO ρ (nthO l k)
  | [], _ => rfl
  | a :: l, 0 => rfl
  | a :: l, k + 1 => by simp only [renSt, nthO]; exact renSt_nth ρ l k
theorem refsOs_mem {st : List Obj} : ∀ {ids : List Nat} {i j : Nat}, i ∈ ids → j ∈ refsO (nthO st i) → j ∈ refsOs st ids
  | [], _, _, h, _ => by simp at h
  | a :: ids, i, j, h, hj => by
    simp only [refsOs, List.mem_append]
    rcases List.mem_cons.1 h with rfl | h
    · exact .inl hj
    · exact .inr (refsOs_mem h hj)
theorem elT_ren (ρ : Nat → Option Nat) (o : Obj) : elT (renO ρ o) = elT o := by cases o <;> rfl
theorem upto_mem : ∀ {n i : Nat}, i < n → i ∈ upto n
  | 0, _, h => by omega
  | n + 1, i, h => by
    simp only [upto, List.mem_append, List.mem_singleton]
    rcases Nat.lt_or_ge i n with h' | h'
    · exact .inl (upto_mem h')
    · exact .inr (by omega)
theorem prefixN_spec {ids : List Nat} : ∀ {l : List Nat}, prefixN ids l = true → ∀ i, i ∈ l → idxN i ids 0 = some i
  | [], _, _, h => by simp at h
  | j :: l, h, i, hi => by
    simp only [prefixN, Bool.and_eq_true] at h
    rcases List.mem_cons.1 hi with rfl | hi
    · have := h.1
      split at this
      · rename_i k hk; rw [hk, Nat.eq_of_beq_eq_true this]
      · cases this
    · exact prefixN_spec h.2 i hi
def Ctx.by (C : Ctx) (ids : List Nat) : Ctx := { C with st := renSt (fun i => idxN i ids 0) (getSt C.st ids), ι := fun k => C.ι (ids.getD k 0) }
theorem by_nth {C : Ctx} {ids : List Nat} {k i : Nat} (h : ids[k]? = some i) : nthO (C.by ids).st k = renO (fun i => idxN i ids 0) (nthO C.st i) ∧ (C.by ids).ι k = C.ι i := by
  refine ⟨?_, ?_⟩
  · simp only [Ctx.by]; rw [renSt_nth, getSt_nth h]
  · simp only [Ctx.by]; rw [List.getD_eq_getElem?_getD, h]; rfl
theorem by_len {C : Ctx} {ids : List Nat} : (C.by ids).st.length = ids.length := by simp [Ctx.by, renSt_length, getSt_length]
theorem by_refOK {C : Ctx} {ids : List Nat} {i j : Nat} (h : idxN i ids 0 = some j) : RefOK C (C.by ids) i j := by
  obtain ⟨k, hk, hi⟩ := idxN_at h
  obtain rfl : j = k := by omega
  obtain ⟨h1, h2⟩ := by_nth (C := C) hi
  refine ⟨by rw [by_len]; exact (List.getElem?_eq_some_iff.1 hi).1, fun T xs hx => ?_, fun T a hx => ?_, fun K V es hx => ?_, fun r hx => ?_, fun m n ks hx => ?_, fun t hx => ?_, fun s p hx => ?_, fun K V ks vs met hx => ?_, fun T E ls pd hx => ?_⟩
  · rw [h1, elT_ren] at hx; exact ⟨xs, hx, h2, Nat.le_refl _⟩
  · rw [h1] at hx
    cases ho : nthO C.st i <;> rw [ho] at hx <;> simp [renO] at hx
    obtain ⟨rfl, _⟩ := hx
    exact ⟨_, rfl, h2⟩
  · rw [h1] at hx
    cases ho : nthO C.st i <;> rw [ho] at hx <;> simp [renO] at hx
    obtain ⟨rfl, rfl, rfl⟩ := hx
    exact ⟨_, rfl, h2, fun ents clock hh => ⟨ents, clock, hh, MapLater.refl _ _⟩⟩
  · rw [h1] at hx
    cases ho : nthO C.st i <;> rw [ho] at hx <;> simp [renO] at hx
    exact ⟨_, rfl, h2⟩
  · rw [h1] at hx
    cases ho : nthO C.st i <;> rw [ho] at hx <;> simp [renO] at hx
    obtain ⟨_, rfl, _⟩ := hx
    exact ⟨_, _, rfl, h2⟩
  · rw [h1] at hx
    cases ho : nthO C.st i <;> rw [ho] at hx <;> simp [renO] at hx
    exact ⟨_, rfl, h2⟩
  · rw [h1] at hx
    cases ho : nthO C.st i <;> rw [ho] at hx <;> simp [renO] at hx
    obtain ⟨rfl, _⟩ := hx
    exact ⟨_, rfl, h2⟩
  · rw [h1] at hx
    cases ho : nthO C.st i <;> rw [ho] at hx <;> simp [renO] at hx
    obtain ⟨rfl, rfl, rfl, rfl, _⟩ := hx
    exact ⟨_, rfl, h2⟩
  · rw [h1] at hx
    cases ho : nthO C.st i <;> rw [ho] at hx <;> simp [renO] at hx
    obtain ⟨rfl, rfl, rfl, _⟩ := hx
    exact ⟨_, _, rfl, h2, rfl, fun _ _ _ h => h⟩
theorem by_ctx {C : Ctx} (hI : Inv C) {base : Nat} {roots ids : List Nat} (hok : idsOk base C.st roots ids = true) : Inv (C.by ids) ∧ Ext base C (C.by ids) ∧ (∀ i, i ∈ roots → ∃ j, idxN i ids 0 = some j) := by
  simp only [idsOk, Bool.and_eq_true] at hok
  obtain ⟨⟨⟨⟨h1, h2⟩, h3⟩, h4⟩, h5⟩ := hok
  have hnd := nodupN_spec h1
  have hk : Keeps C (C.by ids) := ⟨rfl, fun _ h => h, fun _ _ => rfl⟩
  have hat : ∀ k, k < ids.length → ∃ i, ids[k]? = some i ∧ i < C.st.length := fun k hk => ⟨ids[k], by simp [hk], allLt_spec h2 _ (List.getElem_mem hk)⟩
  refine ⟨⟨hI.lay, fun k hk' => ?_, fun k l hk' hl hkl hok hol => ?_, hI.xs, fun k hk' hok => ?_, hI.clt, hI.kept' hk⟩, ⟨hk, Nat.le_refl _, rfl, rfl, rfl, fun _ _ _ => rfl, fun b hb => .inl hb, fun b hb => ?_, fun i hi => by_refOK (prefixN_spec h3 i (upto_mem hi)), fun _ => .inl ⟨rfl, rfl⟩, rfl⟩, fun i hi => idxN_mem 0 (allIn_spec h4 i hi)⟩
  · rw [by_len] at hk'
    obtain ⟨i, hi, hlt⟩ := hat k hk'
    obtain ⟨g1, g2⟩ := by_nth (C := C) hi
    rw [g1, g2]
    have hmem : i ∈ ids := List.mem_iff_getElem?.2 ⟨k, hi⟩
    refine (hI.obj i hlt).move hk hI.lay _ (fun j hj hlt' => ?_) (hI.cown i hlt) ⟨fun b ho hb => ⟨(hI.own_lt ⟨i, hlt, ho, hb.symm⟩).2, rfl⟩, fun _ _ => ⟨Iff.rfl, fun _ => rfl⟩, SameOs.refl _, Nat.le_refl _, fun _ _ => rfl⟩
    obtain ⟨m, hm⟩ := idxN_mem (ids := ids) 0 (allIn_spec h5 j (refsOs_mem hmem hj))
    exact ⟨m, hm, by_refOK hm⟩
  · rw [by_len] at hk' hl
    obtain ⟨i, hi, hlt⟩ := hat k hk'
    obtain ⟨j, hj, hlt'⟩ := hat l hl
    obtain ⟨g1, g2⟩ := by_nth (C := C) hi
    obtain ⟨g3, g4⟩ := by_nth (C := C) hj
    rw [g1, g2, ownd_ren] at hok
    rw [g3, g4, ownd_ren] at hol
    rw [g2, g4]
    refine hI.dis i j hlt hlt' (fun e => hkl ?_) hok hol
    subst e
    obtain ⟨_, e1⟩ := List.getElem?_eq_some_iff.1 hi
    obtain ⟨_, e2⟩ := List.getElem?_eq_some_iff.1 hj
    exact (List.getElem_inj hnd).1 (e1.trans e2.symm)
  · rw [by_len] at hk'
    obtain ⟨i, hi, hlt⟩ := hat k hk'
    obtain ⟨g1, g2⟩ := by_nth (C := C) hi
    rw [g1, g2, ownd_ren] at hok
    rw [g2]
    exact hI.cown i hlt hok
  · obtain ⟨k, hk', ho, hb'⟩ := hb
    rw [by_len] at hk'
    obtain ⟨i, hi, hlt⟩ := hat k hk'
    obtain ⟨g1, g2⟩ := by_nth (C := C) hi
    rw [g1, g2, ownd_ren] at ho
    rw [g2] at hb'
    exact .inl ⟨i, hlt, ho, hb'⟩
theorem keepRegs_length (live : List (Nat × Option TypeId)) : ∀ (l : List AV) (n : Nat), (keepRegs live l n).length = l.length
  | [], _ => rfl
  | a :: l, n => by simp [keepRegs, keepRegs_length live l]
theorem keepRegs_nth (live : List (Nat × Option TypeId)) : ∀ (l : List AV) (n i : Nat), nth (keepRegs live l n) i = nth l i ∨ nth (keepRegs live l n) i = .junk
  | [], _, _ => .inl rfl
  | a :: l, n, 0 => by
    simp only [keepRegs, nth]
    cases keepRegs.memL n live
    · exact .inr rfl
    · exact .inl rfl
  | a :: l, n, i + 1 => by simp only [keepRegs, nth]; exact keepRegs_nth live l (n + 1) i
theorem keepRegs_ok {C : Ctx} {live : List (Nat × Option TypeId)} {regs : List AV} {tmps : Array Value} (h : RegsOK C regs tmps) : RegsOK C (keepRegs live regs 0) tmps := by
  refine ⟨by rw [keepRegs_length]; exact h.1, fun i hi => ?_⟩
  rw [keepRegs_length] at hi
  rcases keepRegs_nth live regs 0 i with h' | h'
  · rw [h']; exact h.2 i hi
  · rw [h']; exact rel_junk _
theorem nil_row {C : Ctx} (hI : Inv C) (T : TypeId) : Inv (C.add (.row T []) ⟨C.w.heap.size, 0, true⟩ C.w) ∧ Ext C.st.length C (C.add (.row T []) ⟨C.w.heap.size, 0, true⟩ C.w) :=
  add_ctx hI (o := .row T []) (g := ⟨C.w.heap.size, 0, true⟩) (w := C.w) rfl (Nat.le_refl _) ⟨rfl, rfl, rfl⟩ (fun _ _ => rfl) ⟨trivial, .inl ⟨rfl, rfl⟩⟩
theorem nil_slcOK {C : Ctx} (T : TypeId) : SlcOK (C.add (.row T []) ⟨C.w.heap.size, 0, true⟩ C.w) C.st.length 0 0 (.slice none 0 0) := by
  refine ⟨fun T0 xs hx => ?_, fun _ _ _ _ hx => (by rw [add_new.1] at hx; cases hx)⟩
  rw [add_new.1] at hx
  simp only [elT, Option.some.injEq, Prod.mk.injEq] at hx
  obtain ⟨rfl, rfl⟩ := hx
  rw [add_new.2]
  exact ⟨by simp, .inl ⟨rfl, rfl, rfl, rfl⟩⟩
theorem matRegs_ok : ∀ (live : List (Nat × Option TypeId)) {C : Ctx} {s : S} {a : Act}, Inv C → SRel C s a → ∃ C', C'.w = C.w ∧ Inv C' ∧ SRel C' (matRegs live s) a ∧ Ext C.st.length C C'
  | [], C, s, a, hI, hs => ⟨C, rfl, hI, hs, Ext.refl C (Nat.le_refl _)⟩
  | (r, none) :: l, C, s, a, hI, hs => by simp only [matRegs]; exact matRegs_ok l hI hs
  | (r, some T) :: l, C, s, a, hI, hs => by
    simp only [matRegs]
    split
    · rename_i hr
      have hsame : a.tmps.setIfInBounds r (a.tmps.getD r undef) = a.tmps := by
        apply Array.ext_getElem?
        intro k
        by_cases hk : r = k
        · subst hk
          by_cases hlt' : r < a.tmps.size
          · simp [hlt']
          · simp [hlt']
        · rw [Array.getElem?_setIfInBounds_ne hk]
      split
      · have hv : Rel C (.lst (T - limT) []) (a.tmps.getD r undef) := by
          rcases Nat.lt_or_ge r s.regs.length with hlt | hge
          · have hv := hs.regs.2 r hlt
            rw [hr] at hv
            rw [rel_lit_inv hv]
            refine rel_mk rfl rfl ?_ hI
            simp only [M]
            exact ⟨trivial, none, 0, rfl, Nat.le_refl _, fun h => absurd rfl h⟩
          · rw [nth_out _ _ hge] at hr; cases hr
        have hput := hs.regs.put hv (d := r)
        rw [hsame] at hput
        obtain ⟨C', g1, g2, g3, g4⟩ := matRegs_ok l (s := { regs := setN s.regs r (.lst (T - limT) []), st := s.st }) (a := a) hI ⟨hs.st, hput⟩
        exact ⟨C', g1, g2, g3, g4⟩
      obtain ⟨h1, h2⟩ := nil_row hI T
      have hst := hs.step hI h2
      rcases Nat.lt_or_ge r s.regs.length with hlt | hge
      · have hv := hs.regs.2 r hlt
        rw [hr] at hv
        have hv' := rel_lit_inv hv
        have hrel : Rel (C.add (.row T []) ⟨C.w.heap.size, 0, true⟩ C.w) (.slc C.st.length 0 0) (a.tmps.getD r undef) := by
          rw [hv']
          refine rel_mk rfl rfl ?_ h1
          simp only [M]
          exact ⟨by simp [Ctx.add], _, rfl, rfl, nil_slcOK T⟩
        have hput := hst.regs.put hrel (d := r)
        rw [hsame] at hput
        obtain ⟨C', g1, g2, g3, g4⟩ := matRegs_ok l (s := { regs := setN s.regs r (.slc s.st.length 0 0), st := s.st ++ [.row T []] }) (a := a) h1
          ⟨by simp [Ctx.add, hs.st], by rw [← hs.st]; exact hput⟩
        exact ⟨C', g1, g2, g3, h2.trans g4 (by simp [Ctx.add])⟩
      · rw [nth_out _ _ hge] at hr; cases hr
    · exact matRegs_ok l hI hs
theorem matBox_ok {C : Ctx} {s : S} {a : Act} (P : Program) (i : Nat) (hI : Inv C) (hs : SRel C s a) : ∃ C', C'.w = C.w ∧ Inv C' ∧ SRel C' (matBox P i s) a ∧ Ext C.st.length C C' := by
  unfold matBox
  split
  · rename_i Tb hst
    split
    · rename_i Te _
      obtain ⟨h1, h2⟩ := nil_row hI Te
      rw [← hs.st] at hst
      have hi : i < C.st.length := by
        rcases Nat.lt_or_ge i C.st.length with h | h
        · exact h
        · rw [nthO_out _ _ h] at hst; cases hst
      generalize hC1 : C.add (.row Te []) ⟨C.w.heap.size, 0, true⟩ C.w = C1 at *
      have hw1 : C1.w = C.w := by rw [← hC1]; rfl
      have hl1 : C1.st.length = C.st.length + 1 := by rw [← hC1]; simp [Ctx.add]
      have hn1 : nthO C1.st i = .box Tb (.lit (.slice none 0 0)) := by rw [← hC1, (add_old hi).1]; exact hst
      have hι1 : C1.ι i = C.ι i := by rw [← hC1]; exact (add_old hi).2
      have hslc : SlcOK C1 C.st.length 0 0 (.slice none 0 0) := by rw [← hC1]; exact nil_slcOK Te
      have hob := h1.obj i (by omega)
      rw [hn1] at hob
      obtain ⟨g1, g2, c, e, g3, g4, g5⟩ := hob
      have hr : RefOK C1 (C1.upd i (.box Tb (.slc C.st.length 0 0)) C1.w) i i := refs_atP_box (by omega) hn1 Tb _ rfl rfl
      have hk : Keeps C1 (C1.upd i (.box Tb (.slc C.st.length 0 0)) C1.w) := ⟨rfl, fun _ h => h, fun _ _ => rfl⟩
      have hupd := upd_ctx h1 (i := i) (by omega) (o := .box Tb (.slc C.st.length 0 0)) (w := C1.w) (by rw [hn1]; rfl) rfl ⟨rfl, rfl, rfl⟩ (fun _ _ => rfl) hr (by
        refine ⟨g1, rfl, c, e, g3, by simpa [wid] using g4, ?_⟩
        simp only [M] at g5 ⊢
        refine ⟨by simp only [Ctx.upd, setO_length]; omega, _, g5.1, rfl, ?_⟩
        refine SlcOK.move hk (refs_same h1 (by omega) (by simp only [Ctx.upd, setO_length]; omega) (nthO_setO_other _ _ _ _ (by omega)) rfl (fun _ _ _ => ⟨rfl, rfl, rfl⟩)) hslc)
      refine ⟨C1.upd i (.box Tb (.slc C.st.length 0 0)) C1.w, hw1, hupd.1, ?_, h2.trans hupd.2 (by omega)⟩
      have := (hs.step hI h2).step h1 hupd.2
      refine ⟨?_, this.regs⟩
      simp only [Ctx.upd, ← hC1, Ctx.add, hs.st]
      have : ∀ (l m : List Obj) (i : Nat) (x : Obj), i < l.length → setO (l ++ m) i x = setO l i x ++ m := by
        intro l; induction l with
        | nil => intro m i x h; simp at h
        | cons a l ih =>
          intro m i x h
          cases i with
          | zero => rfl
          | succ i => simp only [List.cons_append, setO]; rw [ih m i x (by simpa using h)]
      exact this _ _ _ _ (by rw [← hs.st]; exact hi)
    · exact ⟨C, rfl, hI, hs, Ext.refl C (Nat.le_refl _)⟩
  · exact ⟨C, rfl, hI, hs, Ext.refl C (Nat.le_refl _)⟩
theorem matBoxes_ok (P : Program) : ∀ (is : List Nat) {C : Ctx} {s : S} {a : Act}, Inv C → SRel C s a → ∃ C', C'.w = C.w ∧ Inv C' ∧ SRel C' (matBoxes P is s) a ∧ Ext C.st.length C C'
  | [], C, s, a, hI, hs => ⟨C, rfl, hI, hs, Ext.refl C (Nat.le_refl _)⟩
  | i :: is, C, s, a, hI, hs => by
    simp only [matBoxes]
    obtain ⟨C1, g1, g2, g3, g4⟩ := matBox_ok P i hI hs
    obtain ⟨C2, g5, g6, g7, g8⟩ := matBoxes_ok P is g2 g3
    refine ⟨C2, g5.trans g1, g6, g7, g4.trans g8 ?_⟩
    rcases Nat.eq_zero_or_pos C.st.length with h | h
    · omega
    · have := (g4.refs (C.st.length - 1) (by omega)).lt; omega
theorem widL_set : ∀ (l : List AV) (j k : Nat), nth l j = .lit (.slice none 0 0) → widL (setN l j (.slc k 0 0)) = widL l
  | [], _, _, h => by simp [nth] at h
  | a :: l, 0, k, h => by
    simp only [nth] at h
    subst h; rfl
  | a :: l, j + 1, k, h => by
    simp only [nth] at h
    simp only [setN, widL, widL_set l j k h]
theorem solidL_set : ∀ (l : List AV) (j k : Nat), solidL l = true → solidL (setN l j (.slc k 0 0)) = true
  | [], _, _, _ => rfl
  | a :: l, 0, k, h => by
    simp only [solidL, Bool.and_eq_true, setN] at h ⊢
    exact ⟨rfl, h.2⟩
  | a :: l, j + 1, k, h => by
    simp only [solidL, Bool.and_eq_true, setN] at h ⊢
    exact ⟨h.1, solidL_set l j k h.2⟩
theorem ML_nilF {C : Ctx} {k : Nat} (hk : k < C.st.length) (hs : SlcOK C k 0 0 (.slice none 0 0)) : ∀ (l : List AV) (j : Nat) (s : Src) (o : Nat), nth l j = .lit (.slice none 0 0) → ML C l s o → ML C (setN l j (.slc k 0 0)) s o
  | [], _, _, _, h, _ => by simp [nth] at h
  | a :: l, 0, s, o, h, hm => by
    simp only [nth] at h
    subst h
    simp only [setN, ML, M, wid] at hm ⊢
    exact ⟨⟨hk, _, hm.1.1, rfl, hs⟩, hm.2⟩
  | a :: l, j + 1, s, o, h, hm => by
    simp only [nth] at h
    simp only [setN, ML] at hm ⊢
    exact ⟨hm.1, ML_nilF hk hs l j s _ h hm.2⟩
theorem setO_app : ∀ (l m : List Obj) (i : Nat) (x : Obj), i < l.length → setO (l ++ m) i x = setO l i x ++ m
  | [], _, _, _, h => by simp at h
  | a :: l, m, 0, x, _ => rfl
  | a :: l, m, i + 1, x, h => by
    simp only [List.cons_append, setO]
    rw [setO_app l m i x (by simpa using h)]
theorem matF_ok {C : Ctx} (hI : Inv C) (i j : Nat) (T : TypeId) : ∃ C', C'.w = C.w ∧ C'.P = C.P ∧ Inv C' ∧ C'.st = matF i j T C.st ∧ Ext C.st.length C C' := by
  unfold matF
  split
  · rename_i Tb fs hst
    split
    · rename_i hf
      obtain ⟨h1, h2⟩ := nil_row hI T
      have hi : i < C.st.length := by
        rcases Nat.lt_or_ge i C.st.length with h | h
        · exact h
        · rw [nthO_out _ _ h] at hst; cases hst
      generalize hC1 : C.add (.row T []) ⟨C.w.heap.size, 0, true⟩ C.w = C1 at *
      have hw1 : C1.w = C.w := by rw [← hC1]; rfl
      have hP1 : C1.P = C.P := by rw [← hC1]; rfl
      have hl1 : C1.st.length = C.st.length + 1 := by rw [← hC1]; simp [Ctx.add]
      have hn1 : nthO C1.st i = .box Tb (.agg fs) := by rw [← hC1, (add_old hi).1]; exact hst
      have hslc : SlcOK C1 C.st.length 0 0 (.slice none 0 0) := by rw [← hC1]; exact nil_slcOK T
      have hob := h1.obj i (by omega)
      rw [hn1] at hob
      obtain ⟨g1, g2, c, e, g3, g4, g5⟩ := hob
      have hr : RefOK C1 (C1.upd i (.box Tb (.agg (setN fs j (.slc C.st.length 0 0)))) C1.w) i i := refs_atP_box (by omega) hn1 Tb _ rfl rfl
      have hk : Keeps C1 (C1.upd i (.box Tb (.agg (setN fs j (.slc C.st.length 0 0)))) C1.w) := ⟨rfl, fun _ h => h, fun _ _ => rfl⟩
      have hlen : (C1.upd i (.box Tb (.agg (setN fs j (.slc C.st.length 0 0)))) C1.w).st.length = C1.st.length := setO_length _ _ _
      have hrefs : ∀ q, q < C1.st.length → RefOK C1 (C1.upd i (.box Tb (.agg (setN fs j (.slc C.st.length 0 0)))) C1.w) q q := fun q hq => by
        by_cases hqi : i = q
        · subst hqi; exact hr
        · exact refs_same h1 hq (by omega) (nthO_setO_other _ _ _ _ hqi) rfl (fun _ _ _ => ⟨rfl, rfl, rfl⟩)
      have hslc' := SlcOK.move hk (hrefs C.st.length (by omega)) hslc
      have hupd := upd_ctx h1 (i := i) (by omega) (o := .box Tb (.agg (setN fs j (.slc C.st.length 0 0)))) (w := C1.w) (by rw [hn1]; rfl) rfl ⟨rfl, rfl, rfl⟩ (fun _ _ => rfl) hr (by
        refine ⟨g1, by simp only [solid] at g2 ⊢; exact solidL_set _ _ _ g2, c, e, g3, by simpa [wid, widL_set _ _ _ hf] using g4, ?_⟩
        simp only [M] at g5 ⊢
        refine ML_nilF (by rw [hlen]; omega) hslc' fs j _ _ hf ?_
        have := ML_move hk h1.lay some fs _ _ 0 0 (fun q hq hql => ⟨q, rfl, hrefs q hql⟩) (fun _ _ => rfl) g5
        rwa [renL_some] at this)
      refine ⟨C1.upd i (.box Tb (.agg (setN fs j (.slc C.st.length 0 0)))) C1.w, hw1, hP1, hupd.1, ?_, h2.trans hupd.2 (by omega)⟩
      simp only [Ctx.upd]
      rw [← hC1]
      exact setO_app _ _ _ _ hi
    · exact ⟨C, rfl, rfl, hI, rfl, Ext.refl C (Nat.le_refl _)⟩
  · exact ⟨C, rfl, rfl, hI, rfl, Ext.refl C (Nat.le_refl _)⟩
theorem matFs_ok : ∀ (l : List (Nat × Nat × TypeId)) {C : Ctx}, Inv C → ∃ C', C'.w = C.w ∧ C'.P = C.P ∧ Inv C' ∧ C'.st = matFs l C.st ∧ Ext C.st.length C C'
  | [], C, hI => ⟨C, rfl, rfl, hI, rfl, Ext.refl C (Nat.le_refl _)⟩
  | (i, j, T) :: l, C, hI => by
    obtain ⟨C1, a1, a2, a3, a4, a5⟩ := matF_ok hI i j T
    obtain ⟨C2, b1, b2, b3, b4, b5⟩ := matFs_ok l a3
    refine ⟨C2, b1.trans a1, b2.trans a2, b3, by rw [b4, a4]; rfl, a5.trans b5 ?_⟩
    rcases Nat.eq_zero_or_pos C.st.length with h | h
    · omega
    · have := (a5.refs (C.st.length - 1) (by omega)).lt; omega
theorem matFlds_ok (l : List (Nat × Nat × TypeId)) {C : Ctx} {s : S} {a : Act} (hI : Inv C) (hs : SRel C s a) : ∃ C', C'.w = C.w ∧ Inv C' ∧ SRel C' (matFlds l s) a ∧ Ext C.st.length C C' := by
  have key : ∃ C', C'.w = C.w ∧ Inv C' ∧ SRel C' { s with st := matFs l s.st } a ∧ Ext C.st.length C C' := by
    obtain ⟨C', h1, _, h3, h4, h5⟩ := matFs_ok l hI
    refine ⟨C', h1, h3, ?_, h5⟩
    have := hs.step hI h5
    exact ⟨by rw [h4, hs.st], this.regs⟩
  unfold matFlds
  split
  · exact ⟨C, rfl, hI, hs, Ext.refl C (Nat.le_refl _)⟩
  · exact key
theorem canon_ok {C : Ctx} {s : S} {a : Act} (P : Program) (live : List (Nat × Option TypeId)) {base : Nat} (hI : Inv C) (hs : SRel C s a) (hb : base ≤ s.st.length) (hok : canonOk P live base s = true) :
    ∃ C', C'.w = C.w ∧ Inv C' ∧ SRel C' (canon P live base s) a ∧ Ext base C C' ∧ base ≤ (canon P live base s).st.length := by
  obtain ⟨C1, g1, g2, g3, g4⟩ := matRegs_ok live hI (s := { s with regs := keepRegs live s.regs 0 }) ⟨hs.st, keepRegs_ok hs.regs⟩
  obtain ⟨C3, g9, ga, gb, gc⟩ := matBoxes_ok P (upto (matRegs live { s with regs := keepRegs live s.regs 0 }).st.length) g2 g3
  obtain ⟨C2, gd, g6, g7, ge⟩ := matFlds_ok (fldsOf live) ga gb
  have g5 : C2.w = C1.w := gd.trans g9
  have g8 : Ext C1.st.length C1 C2 := gc.trans ge (by
    rcases Nat.eq_zero_or_pos C1.st.length with h | h
    · omega
    · have := (gc.refs (C1.st.length - 1) (by omega)).lt; omega)
  have hpre : SRel C2 (canonPre P live s) a := g7
  unfold canonOk at hok
  rw [← hpre.st] at hok
  obtain ⟨h1, h2, h3⟩ := by_ctx g6 hok
  have hl1 : C.st.length ≤ C1.st.length := by
    rcases Nat.eq_zero_or_pos C.st.length with h | h
    · omega
    · have := (g4.refs (C.st.length - 1) (by omega)).lt; omega
  have hl2 : C1.st.length ≤ C2.st.length := by
    rcases Nat.eq_zero_or_pos C1.st.length with h | h
    · omega
    · have := (g8.refs (C1.st.length - 1) (by omega)).lt; omega
  have hsl : s.st.length = C.st.length := by rw [hs.st]
  refine ⟨C2.by (canonIds base C2.st (refsL (canonPre P live s).regs)), g5.trans g1, h1, ?_, (g4.mono (by omega)).trans ((g8.mono (by omega)).trans h2 (Nat.le_refl _)) (Nat.le_refl _), ?_⟩
  · refine ⟨?_, ?_⟩
    · simp only [canon, canonBy, Ctx.by, hpre.st]
    · simp only [canon, canonBy]
      rw [← hpre.st]
      exact hpre.regs.move h2.keeps g6.lay _ (fun i hi _ => by obtain ⟨j, hj⟩ := h3 i hi; exact ⟨j, hj, by_refOK hj⟩)
  · have hrefs := h2.refs
    have e : (canon P live base s).st.length = (C2.by (canonIds base C2.st (refsL (canonPre P live s).regs))).st.length := by
      simp only [canon, canonBy, Ctx.by, hpre.st]
    rw [e]
    rcases Nat.eq_zero_or_pos base with h | h
    · omega
    · have := (hrefs (base - 1) (by omega)).lt; omega
end Go.Dn
