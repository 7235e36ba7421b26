import Derived.Test.YtbppdpbagmbmpaaGreatDoorDnQ
namespace Go.Dn
open Go
def Ctx.app (C : Ctx) (i : Nat) (o : Obj) (g : G) (w : World) : Ctx := { C with st := setO C.st i .dead ++ [o], ι := addι C g, w }
theorem app_len {C : Ctx} {i : Nat} {o : Obj} {g : G} {w : World} : (C.app i o g w).st.length = C.st.length + 1 := by simp [Ctx.app, setO_length]
theorem app_new {C : Ctx} {i : Nat} {o : Obj} {g : G} {w : World} : nthO (C.app i o g w).st C.st.length = o ∧ (C.app i o g w).ι C.st.length = g := by
  refine ⟨?_, ?_⟩
  · have := nthO_append_right (setO C.st i .dead) [o] 0
    simpa [Ctx.app, nthO, setO_length] using this
  · simp only [Ctx.app, addι, if_true]
theorem app_self {C : Ctx} {i : Nat} {o : Obj} {g : G} {w : World} (hi : i < C.st.length) : nthO (C.app i o g w).st i = .dead := by
  simp only [Ctx.app]
  rw [nthO_append_left _ _ _ (by rw [setO_length]; exact hi), nthO_setO_same _ _ _ hi]
theorem app_old {C : Ctx} {i j : Nat} {o : Obj} {g : G} {w : World} (hj : j < C.st.length) (hij : i ≠ j) : nthO (C.app i o g w).st j = nthO C.st j := by
  simp only [Ctx.app]
  rw [nthO_append_left _ _ _ (by rw [setO_length]; exact hj), nthO_setO_other _ _ _ _ hij]
theorem app_ι {C : Ctx} {i j : Nat} {o : Obj} {g : G} {w : World} (hj : j < C.st.length) : (C.app i o g w).ι j = C.ι j := by
  simp only [Ctx.app, addι]; rw [if_neg (by omega)]
theorem app_keeps {C : Ctx} (hI : Inv C) {i : Nat} (hi : i < C.st.length) {T : TypeId} {xs : List AV} (hrow : nthO C.st i = .row T xs) {o : Obj} {g : G} {w : World}
    (hg : (g.block = (C.ι i).block ∧ (C.ι i).isNil = false) ∨ g.block = C.w.heap.size) (hold : ∀ b, b < C.w.heap.size → b ≠ g.block → w.heap[b]? = C.w.heap[b]?) : Keeps C (C.app i o g w) := by
  refine ⟨rfl, fun _ h => h, fun b hb => hold b (hI.xs b hb) (fun e => ?_)⟩
  rcases hg with ⟨hg, hn⟩ | hg
  · have := ((hI.obj i hi).lt (by rw [hrow]; simp [ownd, hn])).2
    exact this (hg ▸ e ▸ hb)
  · have := hI.xs b hb; omega
theorem app_refs {C : Ctx} (hI : Inv C) {i : Nat} (hi : i < C.st.length) {T : TypeId} {xs : List AV} (hrow : nthO C.st i = .row T xs) {o : Obj} {g : G} {w : World}
    (hg : (g.block = (C.ι i).block ∧ (C.ι i).isNil = false) ∨ g.block = C.w.heap.size) (hold : ∀ b, b < C.w.heap.size → b ≠ g.block → w.heap[b]? = C.w.heap[b]?) {j : Nat} (hj : j < C.st.length) : RefOK C (C.app i o g w) j j := by
  by_cases hij : i = j
  · subst hij; exact refs_dead (by rw [app_len]; omega) (app_self hi)
  · refine refs_same hI hj (by rw [app_len]; omega) (app_old hj hij) (app_ι hj) (fun h b hb => ⟨rfl, rfl, hold _ (hI.own_lt ⟨j, hj, h, hb.symm⟩).1 (fun e => ?_)⟩)
    rcases hg with ⟨hg, hn⟩ | hg
    · have ho : ownd (C.ι i) (nthO C.st i) = true := by rw [hrow]; simp [ownd, hn]
      rw [e, hg, hI.cown i hi ho] at hb
      exact hI.dis j i hj hi (Ne.symm hij) h ho hb.symm
    · have := (hI.own_lt ⟨j, hj, h, hb.symm⟩).1; omega
theorem app_ctx {C : Ctx} (hI : Inv C) {i : Nat} (hi : i < C.st.length) {T : TypeId} {xs : List AV} (hrow : nthO C.st i = .row T xs) {o : Obj} {g : G} {w : World}
    (hg : (g.block = (C.ι i).block ∧ (C.ι i).isNil = false) ∨ g.block = C.w.heap.size) (hsz : C.w.heap.size ≤ w.heap.size) (hos : SameOs C.w w) (hold : ∀ b, b < C.w.heap.size → b ≠ g.block → w.heap[b]? = C.w.heap[b]?)
    (ho : ObjOK (C.app i o g w) g o) : Inv (C.app i o g w) ∧ Ext C.st.length C (C.app i o g w) := by
  have hk := app_keeps hI hi hrow hg hold (o := o)
  have hrefs : ∀ j, j < C.st.length → RefOK C (C.app i o g w) j j := fun j hj => app_refs hI hi hrow hg hold hj
  have hne : ∀ j, j < C.st.length → i ≠ j → ownd (C.ι j) (nthO C.st j) = true → (C.ι j).block ≠ g.block := fun j hj hij h e => by
    rcases hg with ⟨hg, hn⟩ | hg
    · exact hI.dis j i hj hi (Ne.symm hij) h (by rw [hrow]; simp [ownd, hn]) (e.trans hg)
    · have := ((hI.obj j hj).lt h).1; omega
  have hownd : ∀ j, j < C.st.length → ownd ((C.app i o g w).ι j) (nthO (C.app i o g w).st j) = true → i ≠ j ∧ ownd (C.ι j) (nthO C.st j) = true := fun j hj h => by
    by_cases e : i = j
    · subst e; rw [app_self hi] at h; simp [ownd] at h
    · rw [app_old hj e, app_ι hj] at h; exact ⟨e, h⟩
  have hgown : g.block < C.w.heap.size → Own C g.block := fun h => by
    rcases hg with ⟨hg, hn⟩ | hg
    · rw [hg]; exact hI.own_at hi (by rw [hrow]; simp [ownd, hn])
    · omega
  have hgcls : C.cls g.block = g.block := by
    rcases hg with ⟨hg, hn⟩ | hg
    · rw [hg]; exact hI.cown i hi (by rw [hrow]; simp [ownd, hn])
    · exact hI.fresh (by omega)
  refine ⟨⟨hI.lay, fun j hj => ?_, fun j k hj hk' hjk hoj hok => ?_, fun b hb => by have := hI.xs b hb; show b < w.heap.size; omega, fun j hj hoj => ?_, fun b hb => ?_, hI.kept' hk⟩, ⟨hk, hsz, hos.os, hos.tape, hos.output, fun b hb hnb => hold b hb (fun e => hnb (e ▸ hgown (e ▸ hb))), fun b hb => .inl hb, fun b hb => ?_, hrefs, fun _ => .inl ⟨rfl, rfl⟩, rfl⟩⟩
  · rw [app_len] at hj
    rcases Nat.lt_or_ge j C.st.length with h | h
    · by_cases hij : i = j
      · subst hij; rw [app_self hi]; trivial
      · rw [app_old h hij, app_ι h]
        exact (hI.obj j h).keep hk hI.lay (fun j hj _ => hrefs j hj) (hI.cown j h) ⟨fun b h' hb => ⟨(hI.own_lt ⟨j, h, h', hb.symm⟩).2, hold _ (hI.own_lt ⟨j, h, h', hb.symm⟩).1 (fun e => hne j h hij h' (by rw [← hb, e, hgcls]))⟩, fun _ _ => ⟨Iff.rfl, fun _ => rfl⟩, hos, hsz, fun _ _ => rfl⟩
    · obtain rfl : j = C.st.length := by omega
      rw [app_new.1, app_new.2]; exact ho
  · rw [app_len] at hj hk'
    rcases Nat.lt_or_ge j C.st.length with h | h <;> rcases Nat.lt_or_ge k C.st.length with h' | h'
    · rw [app_ι h, app_ι h']
      exact hI.dis j k h h' hjk (hownd j h hoj).2 (hownd k h' hok).2
    · obtain rfl : k = C.st.length := by omega
      rw [app_ι h, app_new.2]
      exact hne j h (hownd j h hoj).1 (hownd j h hoj).2
    · obtain rfl : j = C.st.length := by omega
      rw [app_ι h', app_new.2]
      exact (hne k h' (hownd k h' hok).1 (hownd k h' hok).2).symm
    · omega
  · rw [app_len] at hj
    rcases Nat.lt_or_ge j C.st.length with h | h
    · rw [app_ι h]; exact hI.cown j h (hownd j h hoj).2
    · obtain rfl : j = C.st.length := by omega
      rw [app_new.2]; exact hgcls
  · have := hI.clt b hb
    exact ⟨by show b < w.heap.size; omega, this.2.1, by show C.cls b < w.heap.size; omega⟩
  · obtain ⟨j, hj, ho', hb'⟩ := hb
    rw [app_len] at hj
    rcases Nat.lt_or_ge j C.st.length with h | h
    · rw [app_ι h] at hb'
      exact .inl ⟨j, h, (hownd j h ho').2, hb'⟩
    · obtain rfl : j = C.st.length := by omega
      rw [app_new.2] at hb'
      have hb2 : g.block = C.cls b := hb'
      rcases Nat.lt_or_ge b C.w.heap.size with h' | h'
      · refine .inl ?_
        rcases hg with ⟨hg, hn⟩ | hg
        · exact ⟨i, hi, by rw [hrow]; simp [ownd, hn], hg.symm.trans hb2⟩
        · exfalso
          by_cases e : C.cls b = b
          · omega
          · have := (hI.clt b e).2.2; omega
      · exact .inr h'
theorem src_cells {C : Ctx} (hI : Inv C) {Te : TypeId} {y : AV} {Ty : Option TypeId} {ys : List AV} {vy : Value} (h : sliceOf C.st y = some (Ty, ys)) (hT : tyFits Ty Te = true) (hr : Rel C y vy) :
    ∃ p c, vy = .slice p ys.length c ∧ ptypL C.P ys Te ∧ (ys ≠ [] → ∃ b off, p = some ⟨b, off, none⟩ ∧ MR C ys (C.P.cellsOf Te) (cellAt C.w b) off) := by
  unfold sliceOf at h
  split at h
  · simp only [Option.some.injEq, Prod.mk.injEq] at h
    obtain ⟨rfl, rfl⟩ := h
    have := rel_lit_inv hr
    exact ⟨none, 0, this, trivial, fun hne => absurd rfl hne⟩
  · simp only [Option.some.injEq, Prod.mk.injEq] at h
    obtain ⟨rfl, rfl⟩ := h
    simp only [tyFits, beq_iff_eq] at hT; subst hT
    obtain ⟨hp, p, cap, rfl, _, hne⟩ := rel_lst hr
    exact ⟨p, cap, rfl, hp, fun h => by obtain ⟨b, off, h1, _, h2⟩ := hne h; exact ⟨b, off, h1, h2⟩⟩
  · rename_i i lo n
    split at h
    · rename_i T xs hel
      simp only [Option.some.injEq, Prod.mk.injEq] at h
      obtain ⟨rfl, rfl⟩ := h
      simp only [tyFits, beq_iff_eq] at hT; subst hT
      obtain ⟨hi, hs⟩ := rel_slc hr
      obtain ⟨hlen, hv⟩ := hs.1 _ xs hel
      obtain ⟨hp, hrow⟩ := row_read hI hi hel
      have hl : ((xs.drop lo).take n).length = n := by simp; omega
      rw [hl]
      rcases hv with ⟨_, rfl, rfl, rfl⟩ | ⟨hn, cap, q, rfl, hq, hc1, hc2⟩
      · exact ⟨none, 0, rfl, by simp [ptypL], fun hne => absurd (by simp) hne⟩
      · refine ⟨some q, cap, rfl, ptypL_take _ _ (ptypL_drop _ _ hp), fun hne => ?_⟩
        have hn0 : 0 < n := by rw [← hl]; exact List.length_pos_iff.2 hne
        have hq' := hq.resolve_right (by omega)
        rcases hrow with ⟨h0, _⟩ | ⟨_, _, hm⟩
        · rw [hn] at h0; cases h0
        · have h1 := MR_take _ n _ _ _ (MR_drop xs lo _ _ _ hm)
          rw [Nat.zero_add] at h1
          exact ⟨_, _, by rw [hq'], h1⟩
    · split at h
      · rename_i T E ls pd k hst
        simp only [Option.some.injEq, Prod.mk.injEq] at h
        obtain ⟨rfl, rfl⟩ := h
        simp only [tyFits, beq_iff_eq] at hT; subst hT
        obtain ⟨hi, hs⟩ := rel_slc hr
        have hob := hI.obj i hi
        rw [hst] at hob
        obtain ⟨_, _, hE, hty, _⟩ := hob
        obtain ⟨p, cap, rfl, h1, h2, h3, h4⟩ := sub_read hE (hty k) (hs.2 _ _ _ _ hst).2
        rw [h2]
        refine ⟨p, cap, rfl, h3, fun hne => ?_⟩
        obtain ⟨b, hb, _, hm⟩ := h4 (by intro e; subst e; simp at hne)
        exact ⟨b, 0, hb, hm⟩
      · simp at h
  · simp at h
theorem MR_some {C : Ctx} (hl : LayOK C.P) {T : TypeId} : ∀ (l : List AV) (s : Src) (o : Nat), ptypL C.P l T → MR C l (C.P.cellsOf T) s o → ∀ j, j < l.length * C.P.cellsOf T → ∃ v, s (o + j) = some v ∧ oneV v = true
  | [], _, _, _, _, j, hj => by simp at hj
  | a :: l, s, o, ht, h, j, hj => by
    simp only [ptypL] at ht
    simp only [MR] at h
    have hw := ptyp_wid hl a T ht.1
    simp only [List.length_cons, Nat.add_mul, Nat.one_mul] at hj
    rcases Nat.lt_or_ge j (C.P.cellsOf T) with hlt | hge
    · exact M_some a T s o ht.1 h.1 j (by omega)
    · obtain ⟨v, h1, h2⟩ := MR_some hl l s (o + C.P.cellsOf T) ht.2 h.2 (j - C.P.cellsOf T) (by omega)
      exact ⟨v, by rw [← h1]; congr 1; omega, h2⟩
def cellsL (s : Src) (o n : Nat) : List Value := (List.range n).map fun j => (s (o + j)).getD undef
theorem cellsL_length (s : Src) (o n : Nat) : (cellsL s o n).length = n := by simp [cellsL]
theorem cellsL_at {s : Src} {o n : Nat} (h : ∀ j, j < n → ∃ v, s (o + j) = some v ∧ oneV v = true) {j : Nat} (hj : j < n) : (cellsL s o n)[j]? = s (o + j) := by
  obtain ⟨v, hv, _⟩ := h j hj
  simp [cellsL, hj, hv]
theorem cellsL_one {s : Src} {o n : Nat} (h : ∀ j, j < n → ∃ v, s (o + j) = some v ∧ oneV v = true) : ∀ u, u ∈ cellsL s o n → u.oneCell' = true := by
  intro u hu
  simp only [cellsL, List.mem_map, List.mem_range] at hu
  obtain ⟨j, hj, rfl⟩ := hu
  obtain ⟨v, hv, h1⟩ := h j hj
  rw [hv]; rw [oneV_cell] at h1; exact h1
theorem MR_append {C : Ctx} : ∀ (l m : List AV) (z : Nat) (s : Src) (o : Nat), MR C l z s o → MR C m z s (o + l.length * z) → MR C (l ++ m) z s o
  | [], m, z, s, o, _, h => by simpa using h
  | a :: l, m, z, s, o, h, hm => by
    simp only [MR] at h
    simp only [List.cons_append, MR]
    refine ⟨h.1, MR_append l m z s (o + z) h.2 ?_⟩
    rwa [show o + z + l.length * z = o + (a :: l).length * z by simp only [List.length_cons, Nat.add_mul]; omega]
theorem ptypL_append {P : Program} {T : TypeId} : ∀ (l m : List AV), ptypL P l T → ptypL P m T → ptypL P (l ++ m) T
  | [], m, _, h => by simpa using h
  | a :: l, m, h, hm => by simp only [ptypL] at h; simp only [List.cons_append, ptypL]; exact ⟨h.1, ptypL_append l m h.2 hm⟩
theorem run_append_zero {P : Program} {w : World} {t ty e : TypeId} {d : TypeDesc} (ht : P.underlying t = some (.slice e)) (he : P.underlying e = some d) (base p : Option Addr) (n cap c : Nat) (h : n ≤ cap) :
    (Builtin.append_ #[t, t] ty #[.slice base n cap, .slice p 0 c]).run P w = .ok (.slice base n cap) w := by
  have hf : ∀ z, (Builtin.firstCells z 0 (.slice p 0 c)).run P w = .ok #[] w := by
    intro z; cases p <;> simp [Builtin.firstCells, loadCells, loadCellsFrom]
  simp only [Builtin.append_]
  simp [run_underlying ht, run_sizeOf he, Builtin.lenOf, h, hf]
  cases base <;> simp [storeCells]
end Go.Dn
