import Derived.Test.YtbppdpbagmbmpaaGreatDoorDnL
namespace Go.Dn
open Go
mutual
theorem ptyp_refs {P : Program} : ∀ (a : AV) (T : TypeId), ptyp P a T → refs a = []
  | .lit _, _, _ | .lst _ _, _, _ | .pim _ _, _, _ | .fmp _ _ _ _, _, _ => by simp [refs]
  | .agg l, T, h => by simp only [ptyp] at h; obtain ⟨fs, _, h2⟩ := h; simp only [refs]; exact ptypF_refs l _ h2
  | .ifc U a, T, h => by simp only [ptyp] at h; simp only [refs]; exact ptyp_refs a U h.2
  | .junk, _, h | .tup _, _, h | .slc _ _ _, _, h | .ptr _ _ _ _, _, h | .mp _, _, h | .yld _, _, h | .stp _ _, _, h | .clo _ _, _, h => by simp [ptyp] at h
theorem ptypF_refs {P : Program} : ∀ (l : List AV) (fs : List Field), ptypF P l fs → refsL l = []
  | [], _, _ => by simp [refsL]
  | _ :: _, [], h => by simp [ptypF] at h
  | a :: l, f :: fs, h => by simp only [ptypF] at h; simp [refsL, ptyp_refs a _ h.1, ptypF_refs l fs h.2]
end
theorem Rel.pure {C C' : Ctx} (hk : Keeps C C') (hl : LayOK C.P) {a : AV} {T : TypeId} (ht : ptyp C.P a T) {v : Value} (h : Rel C a v) : Rel C' a v :=
  h.keep hk hl (fun i hi => by rw [ptyp_refs a T ht] at hi; simp at hi)
theorem EntOK.keep {C C' : Ctx} (hk : Keeps C C') (hl : LayOK C.P) {V : TypeId} : ∀ {es : List (Value × AV)} {ents : List MapEntry}, EntOK C V es ents → EntOK C' V es ents
  | [], [], _ => trivial
  | [], _ :: _, h => by simp [EntOK] at h
  | _ :: _, [], h => by simp [EntOK] at h
  | (k, a) :: es, e :: ents, h => by
    simp only [EntOK] at h ⊢
    exact ⟨h.1, by rw [hk.P]; exact h.2.1, h.2.2.1.pure hk hl h.2.1, h.2.2.2.keep hk hl⟩
mutual
theorem ren_solid (ρ : Nat → Option Nat) : ∀ a : AV, solid a = true → (∀ i, i ∈ refs a → ∃ j, ρ i = some j) → solid (ren ρ a) = true
  | .agg l, h, hr => by simp only [ren, solid] at h ⊢; exact renL_solid ρ l h (by simpa [refs] using hr)
  | .lit _, h, _ => by simpa [ren, solid] using h
  | .lst _ _, _, _ | .pim _ _, _, _ | .clo _ _, _, _ | .ifc _ _, _, _ | .fmp _ _ _ _, _, _ => by simp [ren, solid]
  | .slc i _ _, _, hr | .ptr i _ _ _, _, hr | .mp i, _, hr | .yld i, _, hr | .stp i _, _, hr => by
    obtain ⟨j, hj⟩ := hr i (by simp [refs])
    simp [ren, hj, solid]
  | .junk, h, _ | .tup _, h, _ => by simp [solid] at h
theorem renL_solid (ρ : Nat → Option Nat) : ∀ l : List AV, solidL l = true → (∀ i, i ∈ refsL l → ∃ j, ρ i = some j) → solidL (renL ρ l) = true
  | [], _, _ => by simp [renL, solidL]
  | a :: l, h, hr => by
    simp only [solidL, Bool.and_eq_true] at h
    simp only [renL, solidL, Bool.and_eq_true]
    exact ⟨ren_solid ρ a h.1 (fun i hi => hr i (by simp [refsL, hi])), renL_solid ρ l h.2 (fun i hi => hr i (by simp [refsL, hi]))⟩
end
theorem ownd_ren (g : G) (ρ : Nat → Option Nat) (o : Obj) : ownd g (renO ρ o) = ownd g o := by cases o <;> rfl
theorem SubOK.keep {C C' : Ctx} {B : Nat} {E : TypeId} {k m : Nat} {l : List Value} {v : Value} (hs : ∀ b, C.cls b = B → C'.cls b = C.cls b ∧ C'.elt b = C.elt b ∧ C'.w.heap[b]? = C.w.heap[b]?) (h : SubOK C B E k l m v) : SubOK C' B E k l m v := by
  obtain ⟨h1, h2 | ⟨b, cap, c, h2, h3, h4, h5, h6, h7, h8, h9⟩⟩ := h
  · exact ⟨h1, .inl h2⟩
  · obtain ⟨g1, g2, g3⟩ := hs b h5
    exact ⟨h1, .inr ⟨b, cap, c, h2, h3, h4, by rw [g1]; exact h5, h6, by rw [g2]; exact h7, by rw [g3]; exact h8, h9⟩⟩
def multiB : Obj → Bool
  | .ext _ | .rows _ _ _ _ => true
  | _ => false
structure Still (C C' : Ctx) (g : G) (o : Obj) : Prop where
  blk : ∀ b, ownd g o = true → C.cls b = g.block → ¬ C'.X b ∧ C'.w.heap[b]? = C.w.heap[b]?
  cls : multiB o = true → ∀ b, (C'.cls b = g.block ↔ C.cls b = g.block) ∧ (C.cls b = g.block → C'.elt b = C.elt b)
  os : SameOs C.w C'.w
  size : C.w.heap.size ≤ C'.w.heap.size
  phi : ∀ t, o = .ext t → C'.phi = C.phi
theorem ObjOK.move {C C' : Ctx} (hk : Keeps C C') (hl : LayOK C.P) (ρ : Nat → Option Nat) {g : G} {o : Obj}
    (hr : ∀ i, i ∈ refsO o → i < C.st.length → ∃ j, ρ i = some j ∧ RefOK C C' i j) (hc : ownd g o = true → C.cls g.block = g.block) (hS : Still C C' g o)
    (h : ObjOK C g o) : ObjOK C' g (renO ρ o) := by
  have hX : ownd g o = true → ¬ C'.X g.block := fun e => (hS.blk _ e (hc e)).1
  have hh : ownd g o = true → C'.w.heap[g.block]? = C.w.heap[g.block]? := fun e => (hS.blk _ e (hc e)).2
  have cell : ∀ b, C'.w.heap[b]? = C.w.heap[b]? → ∀ j, cellAt C'.w b j = cellAt C.w b j := fun b hb j => by simp only [cellAt, World.cell?, hb]
  cases o with
  | dead => trivial
  | box T a =>
    obtain ⟨h1, h2, c, e, h3, h4, h5⟩ := h
    have hb := hh rfl
    refine ⟨hX rfl, ren_solid ρ a h2 (fun i hi => ?_), c, e, by rw [hb]; exact h3, by rw [ren_wid]; exact h4, ?_⟩
    · obtain ⟨j, hj, _⟩ := hr i hi (refs_lt h5 i hi); exact ⟨j, hj⟩
    · exact M_move hk hl ρ a _ _ _ _ hr (fun j _ => cell _ hb _) h5
  | row T xs =>
    obtain ⟨h1, h2 | ⟨h2, h3, c, h4, h5, h6, h7, h8⟩⟩ := h
    · exact ⟨by rw [hk.P]; exact h1, .inl h2⟩
    · have ho : ownd g (.row T xs) = true := by simp [ownd, h2]
      have hb := hh ho
      refine ⟨by rw [hk.P]; exact h1, .inr ⟨h2, hX ho, c, by rw [hb]; exact h4, h5, h6, by rw [hk.P]; exact h7, ?_⟩⟩
      rw [hk.P]
      exact MR_pure hk hl xs T _ _ _ _ h1 (fun j _ => cell _ hb _) h8
  | frz T xs =>
    obtain ⟨h1, h2 | ⟨h2, h3, h4⟩⟩ := h
    · exact ⟨by rw [hk.P]; exact h1, .inl h2⟩
    · refine ⟨by rw [hk.P]; exact h1, .inr ⟨h2, hk.X _ h3, ?_⟩⟩
      rw [hk.P]
      exact MR_pure hk hl xs T _ _ _ _ h1 (fun j _ => cell _ (hk.heap _ h3) _) h4
  | map K V es =>
    obtain ⟨h1, entries, clock, h2, h3, h4⟩ := h
    exact ⟨hX rfl, entries, clock, by rw [hh rfl]; exact h2, h3.keep hk hl, by rw [hk.P]; exact h4⟩
  | loop r =>
    obtain ⟨h1, rec, h2, h3⟩ := h
    refine ⟨hX rfl, rec, by rw [hh rfl]; exact h2, ⟨h3.state, h3.pending, h3.params, h3.assign, h3.body, h3.regs.move hk hl ρ hr⟩⟩
  | iter i n ks =>
    obtain ⟨h1, hi, m, since, seen, stepped, h2, h3⟩ := h
    obtain ⟨j, hj, hrf⟩ := hr i (by simp [refsO]) hi
    simp only [renO, hj]
    exact ⟨hX rfl, hrf.lt, m, since, seen, stepped, by rw [hh rfl]; exact h2, h3.move hrf⟩
  | siter s p => exact ⟨hX rfl, by rw [hh rfl]; exact h.2⟩
  | rows T E ls pd =>
    obtain ⟨h1, h2, h3, h4, c, h5, h6, h7⟩ := h
    refine ⟨hX rfl, by rw [hk.P]; exact h2, by rw [hk.P]; exact h3, by rw [hk.P]; exact h4, c, by rw [hh rfl]; exact h5, h6, fun k hk' hp => ?_⟩
    obtain ⟨v, h8, h9⟩ := h7 k hk' hp
    exact ⟨v, h8, h9.keep fun b hb => ⟨((hS.cls rfl b).1.2 hb).trans hb.symm, (hS.cls rfl b).2 hb, (hS.blk b rfl hb).2⟩⟩
  | fit K V ks vs met =>
    obtain ⟨h1, m, since, seen, stepped, h2, h3⟩ := h
    refine ⟨hX rfl, m, since, seen, stepped, by rw [hh rfl]; exact h2, ?_⟩
    rcases h3 with h3 | ⟨b, ents, clock, g1, g2, g3, g4, g5, g6, g7, g8⟩
    · exact .inl h3
    · exact .inr ⟨b, ents, clock, g1, hk.X b g2, by rw [hk.heap b g2]; exact g3, by rw [hk.P]; exact g4, g5, by rw [hk.P]; exact g6, MT_pure hk hl vs V _ g6 g7, g8⟩
  | ext t =>
    obtain ⟨h1, h2, h3, h4⟩ := h
    refine ⟨hX rfl, by have := hS.size; omega, ?_, by rw [hk.P, hS.phi t rfl]; exact h4⟩
    rw [hS.phi t rfl, show (fun b => C'.cls b = g.block) = (fun b => C.cls b = g.block) from funext fun b => propext (hS.cls rfl b).1]
    exact h4.still t _ C.X C'.X C.w C'.w h3 hk.X (fun b hb => (hS.blk b rfl hb).1) (fun b hb => hb.elim (fun h => (hS.blk b rfl h).2) (hk.heap b)) hS.os hS.size
theorem renO_some (o : Obj) : renO some o = o := by
  cases o <;> simp only [renO]
  · rw [ren_some]
  · rename_i r; rw [renL_some]
theorem ObjOK.keep {C C' : Ctx} (hk : Keeps C C') (hl : LayOK C.P) {g : G} {o : Obj} (hr : ∀ i, i < C.st.length → i ∈ refsO o → RefOK C C' i i) (hc : ownd g o = true → C.cls g.block = g.block) (hS : Still C C' g o)
    (h : ObjOK C g o) : ObjOK C' g o := by
  have := h.move hk hl some (fun i hi hlt => ⟨i, rfl, hr i hlt hi⟩) hc hS
  rwa [renO_some] at this
theorem setO_length : ∀ (l : List Obj) (i : Nat) (x : Obj), (setO l i x).length = l.length
  | [], _, _ => rfl
  | _ :: _, 0, _ => rfl
  | _ :: l, i + 1, x => by simp [setO, setO_length l i x]
theorem nthO_setO_same : ∀ (l : List Obj) (i : Nat) (x : Obj), i < l.length → nthO (setO l i x) i = x
  | [], _, _, h => by simp at h
  | _ :: _, 0, _, _ => rfl
  | _ :: l, i + 1, x, h => by simp only [setO, nthO]; exact nthO_setO_same l i x (by simpa using h)
theorem nthO_setO_other : ∀ (l : List Obj) (i j : Nat) (x : Obj), i ≠ j → nthO (setO l i x) j = nthO l j
  | [], _, _, _, _ => rfl
  | _ :: _, 0, j, _, h => by cases j with | zero => exact absurd rfl h | succ j => rfl
  | _ :: l, i + 1, j, x, h => by
    cases j with
    | zero => rfl
    | succ j => simp only [setO, nthO]; exact nthO_setO_other l i j x (by omega)
theorem nthO_append_left : ∀ (l m : List Obj) (i : Nat), i < l.length → nthO (l ++ m) i = nthO l i
  | [], _, _, h => by simp at h
  | _ :: _, _, 0, _ => rfl
  | _ :: l, m, i + 1, h => by simp only [List.cons_append, nthO]; exact nthO_append_left l m i (by simpa using h)
theorem nthO_append_right : ∀ (l m : List Obj) (i : Nat), nthO (l ++ m) (l.length + i) = nthO m i
  | [], _, _ => by simp
  | _ :: l, m, i => by
    simp only [List.cons_append, List.length_cons, show l.length + 1 + i = (l.length + i) + 1 by omega, nthO]
    exact nthO_append_right l m i
theorem nthO_out : ∀ (l : List Obj) (i : Nat), l.length ≤ i → nthO l i = .dead
  | [], _, _ => rfl
  | _ :: l, 0, h => by simp at h
  | _ :: l, i + 1, h => by simp only [nthO]; exact nthO_out l i (by simpa using h)
def addι (C : Ctx) (g : G) : Nat → G := fun i => if i = C.st.length then g else C.ι i
def Ctx.add (C : Ctx) (o : Obj) (g : G) (w : World) : Ctx := { C with st := C.st ++ [o], ι := addι C g, w }
theorem add_old {C : Ctx} {o : Obj} {g : G} {w : World} {i : Nat} (h : i < C.st.length) : nthO (C.add o g w).st i = nthO C.st i ∧ (C.add o g w).ι i = C.ι i := by
  refine ⟨nthO_append_left _ _ _ h, ?_⟩
  simp only [Ctx.add, addι]; rw [if_neg (by omega)]
theorem add_new {C : Ctx} {o : Obj} {g : G} {w : World} : nthO (C.add o g w).st C.st.length = o ∧ (C.add o g w).ι C.st.length = g := by
  refine ⟨?_, ?_⟩
  · have := nthO_append_right C.st [o] 0
    simpa [Ctx.add, nthO] using this
  · simp only [Ctx.add, addι, if_true]
theorem refs_same {C C' : Ctx} (hI : Inv C) {i : Nat} (hi : i < C.st.length) (h : i < C'.st.length) (h1 : nthO C'.st i = nthO C.st i) (h2 : C'.ι i = C.ι i)
    (h3 : ownd (C.ι i) (nthO C.st i) = true → ∀ b, C.cls b = (C.ι i).block → C'.cls b = C.cls b ∧ C'.elt b = C.elt b ∧ C'.w.heap[b]? = C.w.heap[b]?) : RefOK C C' i i := by
  refine ⟨h, fun T xs hx => ⟨xs, by rw [← h1]; exact hx, h2, Nat.le_refl _⟩, fun T a hx => ⟨a, by rw [← h1]; exact hx, h2⟩, fun K V es hx => ?_, fun r hx => ⟨r, by rw [← h1]; exact hx, h2⟩, fun m n ks hx => ⟨m, ks, by rw [← h1]; exact hx, h2⟩, fun t hx => ⟨t, by rw [← h1]; exact hx, h2⟩, fun s p hx => ⟨p, by rw [← h1]; exact hx, h2⟩,
    fun K V ks vs met hx => ⟨met, by rw [← h1]; exact hx, h2⟩, fun T E ls pd hx => ?_⟩ <;> rw [h1] at hx
  · refine ⟨es, hx, h2, fun ents clock hh => ⟨ents, clock, ?_, MapLater.refl _ _⟩⟩
    have ho : ownd (C.ι i) (nthO C.st i) = true := by rw [hx]; rfl
    rw [(h3 ho _ (hI.cown i hi ho)).2.2]; exact hh
  · exact ⟨ls, pd, hx, h2, rfl, fun k m v hv => hv.keep (h3 (by rw [hx]; rfl))⟩
theorem refs_dead {C C' : Ctx} {i : Nat} (h : i < C'.st.length) (h1 : nthO C'.st i = .dead) : RefOK C C' i i :=
  ⟨h, fun T xs hx => (by rw [h1] at hx; simp [elT] at hx), fun T a hx => (by rw [h1] at hx; cases hx), fun K V es hx => (by rw [h1] at hx; cases hx), fun r hx => (by rw [h1] at hx; cases hx), fun _ _ _ hx => (by rw [h1] at hx; cases hx), fun _ hx => (by rw [h1] at hx; cases hx), fun _ _ hx => (by rw [h1] at hx; cases hx), fun _ _ _ _ _ hx => (by rw [h1] at hx; cases hx), fun _ _ _ _ hx => (by rw [h1] at hx; cases hx)⟩
theorem add_ctx {C : Ctx} (hI : Inv C) {o : Obj} {g : G} {w : World} (hg : g.block = C.w.heap.size) (hsz : C.w.heap.size ≤ w.heap.size) (hos : SameOs C.w w) (hold : ∀ b, b < C.w.heap.size → w.heap[b]? = C.w.heap[b]?)
    (ho : ObjOK (C.add o g w) g o) : Inv (C.add o g w) ∧ Ext C.st.length C (C.add o g w) := by
  have hk : Keeps C (C.add o g w) := ⟨rfl, fun _ h => h, fun b hb => hold b (hI.xs b hb)⟩
  have hlen : (C.add o g w).st.length = C.st.length + 1 := by simp [Ctx.add]
  have hrefs : ∀ i, i < C.st.length → RefOK C (C.add o g w) i i := fun i hi =>
    refs_same hI hi (by omega) (add_old hi).1 (add_old hi).2 (fun h b hb => ⟨rfl, rfl, hold _ (hI.own_lt ⟨i, hi, h, hb.symm⟩).1⟩)
  refine ⟨⟨hI.lay, fun i hi => ?_, fun i j hi hj hij hoi hoj => ?_, fun b hb => by have := hI.xs b hb; show b < w.heap.size; omega, fun i hi hoi => ?_, fun b hb => ?_, hI.kept' hk⟩, ⟨hk, hsz, hos.os, hos.tape, hos.output, fun b hb _ => hold b hb, fun b hb => .inl hb, fun b hb => ?_, hrefs, fun _ => .inl ⟨rfl, rfl⟩, rfl⟩⟩
  · rcases Nat.lt_or_ge i C.st.length with h | h
    · rw [(add_old h).1, (add_old h).2]
      exact (hI.obj i h).keep hk hI.lay (fun j hj _ => hrefs j hj) (hI.cown i h) ⟨fun b h' hb => ⟨(hI.own_lt ⟨i, h, h', hb.symm⟩).2, hold _ (hI.own_lt ⟨i, h, h', hb.symm⟩).1⟩, fun _ _ => ⟨Iff.rfl, fun _ => rfl⟩, hos, hsz, fun _ _ => rfl⟩
    · obtain rfl : i = C.st.length := by omega
      rw [add_new.1, add_new.2]; exact ho
  · rcases Nat.lt_or_ge i C.st.length with h | h <;> rcases Nat.lt_or_ge j C.st.length with h' | h'
    · rw [(add_old h).1, (add_old h).2] at hoi
      rw [(add_old h').1, (add_old h').2] at hoj
      rw [(add_old h).2, (add_old h').2]
      exact hI.dis i j h h' hij hoi hoj
    · obtain rfl : j = C.st.length := by omega
      rw [(add_old h).1, (add_old h).2] at hoi
      rw [(add_old h).2, add_new.2, hg]
      have := ((hI.obj i h).lt hoi).1; omega
    · obtain rfl : i = C.st.length := by omega
      rw [(add_old h').1, (add_old h').2] at hoj
      rw [(add_old h').2, add_new.2, hg]
      have := ((hI.obj j h').lt hoj).1; omega
    · omega
  · rcases Nat.lt_or_ge i C.st.length with h | h
    · rw [(add_old h).1, (add_old h).2] at hoi
      rw [(add_old h).2]
      exact hI.cown i h hoi
    · obtain rfl : i = C.st.length := by omega
      rw [add_new.2, hg]
      exact hI.fresh (Nat.le_refl _)
  · have := hI.clt b hb
    exact ⟨by show b < w.heap.size; omega, this.2.1, by show C.cls b < w.heap.size; omega⟩
  · obtain ⟨i, hi, ho', hb'⟩ := hb
    rcases Nat.lt_or_ge i C.st.length with h | h
    · rw [(add_old h).1, (add_old h).2] at ho'
      rw [(add_old h).2] at hb'
      exact .inl ⟨i, h, ho', hb'⟩
    · obtain rfl : i = C.st.length := by omega
      rw [add_new.2, hg] at hb'
      refine .inr ?_
      by_cases e : C.cls b = b
      · have hb2 : C.w.heap.size = C.cls b := hb'
        omega
      · have := (hI.clt b e).2.2
        have hb2 : C.w.heap.size = C.cls b := hb'
        omega
def Ctx.upd (C : Ctx) (i : Nat) (o : Obj) (w : World) : Ctx := { C with st := setO C.st i o, w }
theorem upd_ctx {C : Ctx} (hI : Inv C) {i : Nat} (hi : i < C.st.length) {o : Obj} {w : World} (hown : ownd (C.ι i) (nthO C.st i) = true) (hsz : w.heap.size = C.w.heap.size) (hos : SameOs C.w w)
    (hold : ∀ b, b ≠ (C.ι i).block → w.heap[b]? = C.w.heap[b]?) (hr : RefOK C (C.upd i o w) i i) (ho : ObjOK (C.upd i o w) (C.ι i) o) : Inv (C.upd i o w) ∧ Ext C.st.length C (C.upd i o w) := by
  have hi' := (hI.obj i hi).lt hown
  have hk : Keeps C (C.upd i o w) := ⟨rfl, fun _ h => h, fun b hb => hold b (fun e => hi'.2 (e ▸ hb))⟩
  have hlen : (C.upd i o w).st.length = C.st.length := setO_length _ _ _
  have hn : ∀ j, i ≠ j → nthO (C.upd i o w).st j = nthO C.st j := fun j h => nthO_setO_other _ _ _ _ h
  have hs : nthO (C.upd i o w).st i = o := nthO_setO_same _ _ _ hi
  have hne : ∀ j, j < C.st.length → i ≠ j → ownd (C.ι j) (nthO C.st j) = true → (C.ι j).block ≠ (C.ι i).block := fun j hj hij h => hI.dis j i hj hi (Ne.symm hij) h hown
  have hrefs : ∀ j, j < C.st.length → RefOK C (C.upd i o w) j j := fun j hj => by
    by_cases hij : i = j
    · subst hij; exact hr
    · exact refs_same hI hj (by omega) (hn j hij) rfl (fun h b hb => ⟨rfl, rfl, hold _ (fun e => hne j hj hij h (by rw [← hb, e, hI.cown i hi hown]))⟩)
  refine ⟨⟨hI.lay, fun j hj => ?_, fun j k hj hk' hjk hoj hok => ?_, fun b hb => by have := hI.xs b hb; show b < w.heap.size; omega, fun j hj hoj => ?_, fun b hb => ?_, hI.kept' hk⟩, ⟨hk, by show _ ≤ w.heap.size; omega, hos.os, hos.tape, hos.output, fun b _ hb => hold b (fun e => hb (e ▸ hI.own_at hi hown)), fun b hb => .inl hb, fun b hb => ?_, hrefs, fun _ => .inl ⟨rfl, rfl⟩, rfl⟩⟩
  · rw [hlen] at hj
    by_cases hij : i = j
    · subst hij; rw [hs]; exact ho
    · rw [hn j hij]
      refine (hI.obj j hj).keep hk hI.lay (fun j hj _ => hrefs j hj) (hI.cown j hj) ⟨fun b h' hb => ⟨(hI.own_lt ⟨j, hj, h', hb.symm⟩).2, hold _ (fun e => ?_)⟩, fun _ _ => ⟨Iff.rfl, fun _ => rfl⟩, hos, by show _ ≤ w.heap.size; omega, fun _ _ => rfl⟩
      subst e
      rw [hI.cown i hi hown] at hb
      exact hne j hj hij h' hb.symm
  · rw [hlen] at hj hk'
    have hh : ∀ k, k < C.st.length → ownd ((C.upd i o w).ι k) (nthO (C.upd i o w).st k) = true → ownd (C.ι k) (nthO C.st k) = true := fun k hk h => by
      by_cases e : i = k
      · subst e; exact hown
      · rwa [hn k e] at h
    exact hI.dis j k hj hk' hjk (hh j hj hoj) (hh k hk' hok)
  · rw [hlen] at hj
    by_cases e : i = j
    · subst e; exact hI.cown i hi hown
    · rw [hn j e] at hoj
      exact hI.cown j hj hoj
  · have := hI.clt b hb
    exact ⟨by show b < w.heap.size; omega, this.2.1, by show C.cls b < w.heap.size; omega⟩
  · obtain ⟨j, hj, ho', hb'⟩ := hb
    rw [hlen] at hj
    refine .inl ⟨j, hj, ?_, hb'⟩
    by_cases e : i = j
    · subst e; exact hown
    · rwa [hn j e] at ho'
theorem SRel.step {C C' : Ctx} (hI : Inv C) {s : S} {a : Act} (h : SRel C s a) (he : Ext C.st.length C C') : SRel C' { s with st := C'.st } a :=
  ⟨rfl, h.regs.keep he.keeps hI.lay he.refs⟩
end Go.Dn
