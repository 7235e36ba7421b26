import Derived.Test.YtdpmikfheebicaaGreatDoorDnL
namespace Go.Dn
open Go
mutual
theorem qh {P : Program} : ∀ (a : AV) (T : TypeId), bk P a T → refs a = []
 | .lit _, _, _ | .ae _ _, _, _ | .iz _ _, _, _ | .iq _ _ _ _, _, _ => by simp [refs]
 | .agg l, T, h => by simp only [bk] at h; obtain ⟨fs, _, h2⟩ := h; simp only [refs]; exact rR l _ h2
 | .gO U a, T, h => by simp only [bk] at h; simp only [refs]; exact qh a U h.2
 | .b7, _, h | .bj _, _, h | .aB _ _ _, _, h | .ptr _ _ _ _, _, h | .mp _, _, h | .ct _, _, h | .jk _ _, _, h | .bL _ _, _, h => by simp [bk] at h
theorem rR {P : Program} : ∀ (l : List AV) (fs : List Field), cW P l fs → cw l = []
 | [], _, _ => by simp [cw]
 | _ :: _, [], h => by simp [cW] at h
 | a :: l, f :: fs, h => by simp only [cW] at h; simp [cw, qh a _ h.1, rR l fs h.2]
end
theorem Rel.pure {C C' : Ctx} (hk : bD C C') (hl : dR C.P) {a : AV} {T : TypeId} (ht : bk C.P a T) {v : Value} (h : Rel C a v) : Rel C' a v :=
 h.dN hk hl (fun i hi => by rw [qh a T ht] at hi; simp at hi)
theorem bR.dN {C C' : Ctx} (hk : bD C C') (hl : dR C.P) {V : TypeId} : ∀ {es : List (Value × AV)} {ents : List MapEntry}, bR C V es ents → bR C' V es ents
 | [], [], _ => trivial
 | [], _ :: _, h => by simp [bR] at h
 | _ :: _, [], h => by simp [bR] at h
 | (k, a) :: es, e :: ents, h => by
  simp only [bR] at h ⊢
  exact ⟨h.1, by rw [hk.P]; exact h.2.1, h.2.2.1.pure hk hl h.2.1, h.2.2.2.dN hk hl⟩
mutual
theorem vR (ρ : Nat → Option Nat) : ∀ a : AV, ck a = true → (∀ i, i ∈ refs a → ∃ j, ρ i = some j) → ck (j3 ρ a) = true
 | .agg l, h, hr => by simp only [j3, ck] at h ⊢; exact r5 ρ l h (by simpa [refs] using hr)
 | .lit _, h, _ => by simpa [j3, ck] using h
 | .ae _ _, _, _ | .iz _ _, _, _ | .bL _ _, _, _ | .gO _ _, _, _ | .iq _ _ _ _, _, _ => by simp [j3, ck]
 | .aB i _ _, _, hr | .ptr i _ _ _, _, hr | .mp i, _, hr | .ct i, _, hr | .jk i _, _, hr => by
  obtain ⟨j, hj⟩ := hr i (by simp [refs])
  simp [j3, hj, ck]
 | .b7, h, _ | .bj _, h, _ => by simp [ck] at h
theorem r5 (ρ : Nat → Option Nat) : ∀ l : List AV, du l = true → (∀ i, i ∈ cw l → ∃ j, ρ i = some j) → du (fo ρ l) = true
 | [], _, _ => by simp [fo, du]
 | a :: l, h, hr => by
  simp only [du, aa1] at h
  simp only [fo, du, aa1]
  exact ⟨vR ρ a h.1 (fun i hi => hr i (by simp [cw, hi])), r5 ρ l h.2 (fun i hi => hr i (by simp [cw, hi]))⟩
end
theorem da (g : G) (ρ : Nat → Option Nat) (o : Obj) : bW g (eb ρ o) = bW g o := by cases o <;> rfl
theorem kb.dN {C C' : Ctx} {B : Nat} {E : TypeId} {k m : Nat} {l : List Value} {v : Value} (hs : ∀ b, C.cls b = B → C'.cls b = C.cls b ∧ C'.pC b = C.pC b ∧ C'.w.heap[b]? = C.w.heap[b]?) (h : kb C B E k l m v) : kb C' B E k l m v := by
 obtain ⟨h1, h2 | ⟨b, cap, c, h2, h3, h4, h5, h6, h7, h8, h9⟩⟩ := h
 ·exact ⟨h1, .inl h2⟩
 ·obtain ⟨g1, g2, g3⟩ := hs b h5
  exact ⟨h1, .inr ⟨b, cap, c, h2, h3, h4, by rw [g1]; exact h5, h6, by rw [g2]; exact h7, by rw [g3]; exact h8, h9⟩⟩
def xr : Obj → Bool
 | .ext _ | .rows _ _ _ _ => true
 | _ => false
structure Still (C C' : Ctx) (g : G) (o : Obj) : Prop where
 OM : ∀ b, bW g o = true → C.cls b = g.block → ¬ C'.X b ∧ C'.w.heap[b]? = C.w.heap[b]?
 cls : xr o = true → ∀ b, (C'.cls b = g.block ↔ C.cls b = g.block) ∧ (C.cls b = g.block → C'.pC b = C.pC b)
 os : dm C.w C'.w
 size : C.w.heap.size ≤ C'.w.heap.size
 kg : ∀ t, o = .ext t → C'.kg = C.kg
theorem iT.move {C C' : Ctx} (hk : bD C C') (hl : dR C.P) (ρ : Nat → Option Nat) {g : G} {o : Obj}
  (hr : ∀ i, i ∈ vl o → i < C.st.length → ∃ j, ρ i = some j ∧ bP C C' i j) (hc : bW g o = true → C.cls g.block = g.block) (hS : Still C C' g o)
  (h : iT C g o) : iT C' g (eb ρ o) := by
 have hX : bW g o = true → ¬ C'.X g.block := fun e => (hS.OM _ e (hc e)).1
 have hh : bW g o = true → C'.w.heap[g.block]? = C.w.heap[g.block]? := fun e => (hS.OM _ e (hc e)).2
 have cell : ∀ b, C'.w.heap[b]? = C.w.heap[b]? → ∀ j, cellAt C'.w b j = cellAt C.w b j := fun b hb j => by simp only [cellAt, World.cell?, hb]
 cases o with
 | dead => trivial
 | box T a =>
  obtain ⟨h1, h2, c, e, h3, h4, h5⟩ := h
  have hb := hh rfl
  refine ⟨hX rfl, vR ρ a h2 (fun i hi => ?_), c, e, by rw [hb]; exact h3, by rw [mZ]; exact h4, ?_⟩
  ·obtain ⟨j, hj, _⟩ := hr i hi (J0 h5 i hi); exact ⟨j, hj⟩
  ·exact qk hk hl ρ a _ _ _ _ hr (fun j _ => cell _ hb _) h5
 | row T xs =>
  obtain ⟨h1, h2 | ⟨h2, h3, c, h4, h5, h6, h7, h8⟩⟩ := h
  ·exact ⟨by rw [hk.P]; exact h1, .inl h2⟩
  ·have ho : bW g (.row T xs) = true := by simp [bW, h2]
   have hb := hh ho
   refine ⟨by rw [hk.P]; exact h1, .inr ⟨h2, hX ho, c, by rw [hb]; exact h4, h5, h6, by rw [hk.P]; exact h7, ?_⟩⟩
   rw [hk.P]
   exact eL hk hl xs T _ _ _ _ h1 (fun j _ => cell _ hb _) h8
 | lG T xs =>
  obtain ⟨h1, h2 | ⟨h2, h3, h4⟩⟩ := h
  ·exact ⟨by rw [hk.P]; exact h1, .inl h2⟩
  ·refine ⟨by rw [hk.P]; exact h1, .inr ⟨h2, hk.X _ h3, ?_⟩⟩
   rw [hk.P]
   exact eL hk hl xs T _ _ _ _ h1 (fun j _ => cell _ (hk.heap _ h3) _) h4
 | map K V es =>
  obtain ⟨h1, entries, clock, h2, h3, h4⟩ := h
  exact ⟨hX rfl, entries, clock, by rw [hh rfl]; exact h2, h3.dN hk hl, by rw [hk.P]; exact h4⟩
 | loop r =>
  obtain ⟨h1, rec, h2, h3⟩ := h
  refine ⟨hX rfl, rec, by rw [hh rfl]; exact h2, ⟨h3.state, h3.pending, h3.params, h3.assign, h3.body, h3.a5.move hk hl ρ hr⟩⟩
 | iter i n ks =>
  obtain ⟨h1, hi, m, since, seen, stepped, h2, h3⟩ := h
  obtain ⟨j, hj, hrf⟩ := hr i (by simp [vl]) hi
  simp only [eb, hj]
  exact ⟨hX rfl, hrf.lt, m, since, seen, stepped, by rw [hh rfl]; exact h2, h3.move hrf⟩
 | cL s p => exact ⟨hX rfl, by rw [hh rfl]; exact h.2⟩
 | rows T E ls pd =>
  obtain ⟨h1, h2, h3, h4, c, h5, h6, h7⟩ := h
  refine ⟨hX rfl, by rw [hk.P]; exact h2, by rw [hk.P]; exact h3, by rw [hk.P]; exact h4, c, by rw [hh rfl]; exact h5, h6, fun k hk' hp => ?_⟩
  obtain ⟨v, h8, h9⟩ := h7 k hk' hp
  exact ⟨v, h8, h9.dN fun b hb => ⟨((hS.cls rfl b).1.2 hb).trans hb.symm, (hS.cls rfl b).2 hb, (hS.OM b rfl hb).2⟩⟩
 | fit K V ks vs met =>
  obtain ⟨h1, m, since, seen, stepped, h2, h3⟩ := h
  refine ⟨hX rfl, m, since, seen, stepped, by rw [hh rfl]; exact h2, ?_⟩
  rcases h3 with h3 | ⟨b, ents, clock, g1, g2, g3, g4, g5, g6, g7, g8⟩
  ·exact .inl h3
  ·exact .inr ⟨b, ents, clock, g1, hk.X b g2, by rw [hk.heap b g2]; exact g3, by rw [hk.P]; exact g4, g5, by rw [hk.P]; exact g6, nj hk hl vs V _ g6 g7, g8⟩
 | ext t =>
  obtain ⟨h1, h2, h3, h4⟩ := h
  refine ⟨hX rfl, by have := hS.size; omega, ?_, by rw [hk.P, hS.kg t rfl]; exact h4⟩
  rw [hS.kg t rfl, show (fun b => C'.cls b = g.block) = (fun b => C.cls b = g.block) from funext fun b => propext (hS.cls rfl b).1]
  exact h4.still t _ C.X C'.X C.w C'.w h3 hk.X (fun b hb => (hS.OM b rfl hb).1) (fun b hb => hb.elim (fun h => (hS.OM b rfl h).2) (hk.heap b)) hS.os hS.size
theorem Em (o : Obj) : eb some o = o := by
 cases o <;> simp only [eb]
 ·rw [kB]
 ·rename_i r; rw [gi]
theorem iT.dN {C C' : Ctx} (hk : bD C C') (hl : dR C.P) {g : G} {o : Obj} (hr : ∀ i, i < C.st.length → i ∈ vl o → bP C C' i i) (hc : bW g o = true → C.cls g.block = g.block) (hS : Still C C' g o)
  (h : iT C g o) : iT C' g o := by
 have := h.move hk hl some (fun i hi hlt => ⟨i, rfl, hr i hlt hi⟩) hc hS
 rwa [Em] at this
theorem aP : ∀ (l : List Obj) (i : Nat) (x : Obj), (cP l i x).length = l.length
 | [], _, _ => rfl
 | _ :: _, 0, _ => rfl
 | _ :: l, i + 1, x => by simp [cP, aP l i x]
theorem bd : ∀ (l : List Obj) (i : Nat) (x : Obj), i < l.length → ar (cP l i x) i = x
 | [], _, _, h => by simp at h
 | _ :: _, 0, _, _ => rfl
 | _ :: l, i + 1, x, h => by simp only [cP, ar]; exact bd l i x (by simpa using h)
theorem bI : ∀ (l : List Obj) (i j : Nat) (x : Obj), i ≠ j → ar (cP l i x) j = ar l j
 | [], _, _, _, _ => rfl
 | _ :: _, 0, j, _, h => by cases j with | zero => exact absurd rfl h | succ j => rfl
 | _ :: l, i + 1, j, x, h => by
  cases j with
  | zero => rfl
  | succ j => simp only [cP, ar]; exact bI l i j x (by omega)
theorem dg : ∀ (l m : List Obj) (i : Nat), i < l.length → ar (l ++ m) i = ar l i
 | [], _, _, h => by simp at h
 | _ :: _, _, 0, _ => rfl
 | _ :: l, m, i + 1, h => by simp only [List.cons_append, ar]; exact dg l m i (by simpa using h)
theorem fa : ∀ (l m : List Obj) (i : Nat), ar (l ++ m) (l.length + i) = ar m i
 | [], _, _ => by simp
 | _ :: l, m, i => by
  simp only [List.cons_append, List.length_cons, show l.length + 1 + i = (l.length + i) + 1 by omega, ar]
  exact fa l m i
theorem ee : ∀ (l : List Obj) (i : Nat), l.length ≤ i → ar l i = .dead
 | [], _, _ => rfl
 | _ :: l, 0, h => by simp at h
 | _ :: l, i + 1, h => by simp only [ar]; exact ee l i (by simpa using h)
def u9 (C : Ctx) (g : G) : Nat → G := fun i => if i = C.st.length then g else C.ι i
def Ctx.add (C : Ctx) (o : Obj) (g : G) (w : World) : Ctx := { C with st := C.st ++ [o], ι := u9 C g, w }
theorem cn {C : Ctx} {o : Obj} {g : G} {w : World} {i : Nat} (h : i < C.st.length) : ar (C.add o g w).st i = ar C.st i ∧ (C.add o g w).ι i = C.ι i := by
 refine ⟨dg _ _ _ h, ?_⟩
 simp only [Ctx.add, u9]; rw [if_neg (by omega)]
theorem bf {C : Ctx} {o : Obj} {g : G} {w : World} : ar (C.add o g w).st C.st.length = o ∧ (C.add o g w).ι C.st.length = g := by
 refine ⟨?_, ?_⟩
 ·have := fa C.st [o] 0
  simpa [Ctx.add, ar] using this
 ·simp only [Ctx.add, u9, if_true]
theorem dW {C C' : Ctx} (hI : Inv C) {i : Nat} (hi : i < C.st.length) (h : i < C'.st.length) (h1 : ar C'.st i = ar C.st i) (h2 : C'.ι i = C.ι i)
  (h3 : bW (C.ι i) (ar C.st i) = true → ∀ b, C.cls b = (C.ι i).block → C'.cls b = C.cls b ∧ C'.pC b = C.pC b ∧ C'.w.heap[b]? = C.w.heap[b]?) : bP C C' i i := by
 refine ⟨h, fun T xs hx => ⟨xs, by rw [← h1]; exact hx, h2, Nat.le_refl _⟩, fun T a hx => ⟨a, by rw [← h1]; exact hx, h2⟩, fun K V es hx => ?_, fun r hx => ⟨r, by rw [← h1]; exact hx, h2⟩, fun m n ks hx => ⟨m, ks, by rw [← h1]; exact hx, h2⟩, fun t hx => ⟨t, by rw [← h1]; exact hx, h2⟩, fun s p hx => ⟨p, by rw [← h1]; exact hx, h2⟩,
  fun K V ks vs met hx => ⟨met, by rw [← h1]; exact hx, h2⟩, fun T E ls pd hx => ?_⟩ <;> rw [h1] at hx
 ·refine ⟨es, hx, h2, fun ents clock hh => ⟨ents, clock, ?_, dp.refl _ _⟩⟩
  have ho : bW (C.ι i) (ar C.st i) = true := by rw [hx]; rfl
  rw [(h3 ho _ (hI.ei i hi ho)).2.2]; exact hh
 ·exact ⟨ls, pd, hx, h2, rfl, fun k m v hv => hv.dN (h3 (by rw [hx]; rfl))⟩
theorem qx {C C' : Ctx} {i : Nat} (h : i < C'.st.length) (h1 : ar C'.st i = .dead) : bP C C' i i :=
 ⟨h, fun T xs hx => (by rw [h1] at hx; simp [fP] at hx), fun T a hx => (by rw [h1] at hx; cases hx), fun K V es hx => (by rw [h1] at hx; cases hx), fun r hx => (by rw [h1] at hx; cases hx), fun _ _ _ hx => (by rw [h1] at hx; cases hx), fun _ hx => (by rw [h1] at hx; cases hx), fun _ _ hx => (by rw [h1] at hx; cases hx), fun _ _ _ _ _ hx => (by rw [h1] at hx; cases hx), fun _ _ _ _ hx => (by rw [h1] at hx; cases hx)⟩
theorem fD {C : Ctx} (hI : Inv C) {o : Obj} {g : G} {w : World} (hg : g.block = C.w.heap.size) (hsz : C.w.heap.size ≤ w.heap.size) (hos : dm C.w w) (hold : ∀ b, b < C.w.heap.size → w.heap[b]? = C.w.heap[b]?)
  (ho : iT (C.add o g w) g o) : Inv (C.add o g w) ∧ Ext C.st.length C (C.add o g w) := by
 have hk : bD C (C.add o g w) := ⟨rfl, fun _ h => h, fun b hb => hold b (hI.xs b hb)⟩
 have hlen : (C.add o g w).st.length = C.st.length + 1 := by simp [Ctx.add]
 have hrefs : ∀ i, i < C.st.length → bP C (C.add o g w) i i := fun i hi =>
  dW hI hi (by omega) (cn hi).1 (cn hi).2 (fun h b hb => ⟨rfl, rfl, hold _ (hI.cZ ⟨i, hi, h, hb.symm⟩).1⟩)
 refine ⟨⟨hI.lay, fun i hi => ?_, fun i j hi hj hij hoi hoj => ?_, fun b hb => by have := hI.xs b hb; show b < w.heap.size; omega, fun i hi hoi => ?_, fun b hb => ?_, hI.kH hk⟩, ⟨hk, hsz, hos.os, hos.tape, hos.output, fun b hb _ => hold b hb, fun b hb => .inl hb, fun b hb => ?_, hrefs, fun _ => .inl ⟨rfl, rfl⟩, rfl⟩⟩
 ·rcases Nat.lt_or_ge i C.st.length with h | h
  ·rw [(cn h).1, (cn h).2]
   exact (hI.obj i h).dN hk hI.lay (fun j hj _ => hrefs j hj) (hI.ei i h) ⟨fun b h' hb => ⟨(hI.cZ ⟨i, h, h', hb.symm⟩).2, hold _ (hI.cZ ⟨i, h, h', hb.symm⟩).1⟩, fun _ _ => ⟨Iff.rfl, fun _ => rfl⟩, hos, hsz, fun _ _ => rfl⟩
  ·obtain rfl : i = C.st.length := by omega
   rw [bf.1, bf.2]; exact ho
 ·rcases Nat.lt_or_ge i C.st.length with h | h <;> rcases Nat.lt_or_ge j C.st.length with h' | h'
  ·rw [(cn h).1, (cn h).2] at hoi
   rw [(cn h').1, (cn h').2] at hoj
   rw [(cn h).2, (cn h').2]
   exact hI.rh i j h h' hij hoi hoj
  ·obtain rfl : j = C.st.length := by omega
   rw [(cn h).1, (cn h).2] at hoi
   rw [(cn h).2, bf.2, hg]
   have := ((hI.obj i h).lt hoi).1; omega
  ·obtain rfl : i = C.st.length := by omega
   rw [(cn h').1, (cn h').2] at hoj
   rw [(cn h').2, bf.2, hg]
   have := ((hI.obj j h').lt hoj).1; omega
  ·omega
 ·rcases Nat.lt_or_ge i C.st.length with h | h
  ·rw [(cn h).1, (cn h).2] at hoi
   rw [(cn h).2]
   exact hI.ei i h hoi
  ·obtain rfl : i = C.st.length := by omega
   rw [bf.2, hg]
   exact hI.fresh (Nat.le_refl _)
 ·have := hI.nq b hb
  exact ⟨by show b < w.heap.size; omega, this.2.1, by show C.cls b < w.heap.size; omega⟩
 ·obtain ⟨i, hi, ho', hb'⟩ := hb
  rcases Nat.lt_or_ge i C.st.length with h | h
  ·rw [(cn h).1, (cn h).2] at ho'
   rw [(cn h).2] at hb'
   exact .inl ⟨i, h, ho', hb'⟩
  ·obtain rfl : i = C.st.length := by omega
   rw [bf.2, hg] at hb'
   refine .inr ?_
   by_cases e : C.cls b = b
   ·have hb2 : C.w.heap.size = C.cls b := hb'
    omega
   ·have := (hI.nq b e).2.2
    have hb2 : C.w.heap.size = C.cls b := hb'
    omega
def Ctx.dk (C : Ctx) (i : Nat) (o : Obj) (w : World) : Ctx := { C with st := cP C.st i o, w }
theorem gE {C : Ctx} (hI : Inv C) {i : Nat} (hi : i < C.st.length) {o : Obj} {w : World} (hown : bW (C.ι i) (ar C.st i) = true) (hsz : w.heap.size = C.w.heap.size) (hos : dm C.w w)
  (hold : ∀ b, b ≠ (C.ι i).block → w.heap[b]? = C.w.heap[b]?) (hr : bP C (C.dk i o w) i i) (ho : iT (C.dk i o w) (C.ι i) o) : Inv (C.dk i o w) ∧ Ext C.st.length C (C.dk i o w) := by
 have hi' := (hI.obj i hi).lt hown
 have hk : bD C (C.dk i o w) := ⟨rfl, fun _ h => h, fun b hb => hold b (fun e => hi'.2 (e ▸ hb))⟩
 have hlen : (C.dk i o w).st.length = C.st.length := aP _ _ _
 have hn : ∀ j, i ≠ j → ar (C.dk i o w).st j = ar C.st j := fun j h => bI _ _ _ _ h
 have hs : ar (C.dk i o w).st i = o := bd _ _ _ hi
 have hne : ∀ j, j < C.st.length → i ≠ j → bW (C.ι j) (ar C.st j) = true → (C.ι j).block ≠ (C.ι i).block := fun j hj hij h => hI.rh j i hj hi (Ne.symm hij) h hown
 have hrefs : ∀ j, j < C.st.length → bP C (C.dk i o w) j j := fun j hj => by
  by_cases hij : i = j
  ·subst hij; exact hr
  ·exact dW hI hj (by omega) (hn j hij) rfl (fun h b hb => ⟨rfl, rfl, hold _ (fun e => hne j hj hij h (by rw [← hb, e, hI.ei i hi hown]))⟩)
 refine ⟨⟨hI.lay, fun j hj => ?_, fun j k hj hk' hjk hoj hok => ?_, fun b hb => by have := hI.xs b hb; show b < w.heap.size; omega, fun j hj hoj => ?_, fun b hb => ?_, hI.kH hk⟩, ⟨hk, by show _ ≤ w.heap.size; omega, hos.os, hos.tape, hos.output, fun b _ hb => hold b (fun e => hb (e ▸ hI.pL hi hown)), fun b hb => .inl hb, fun b hb => ?_, hrefs, fun _ => .inl ⟨rfl, rfl⟩, rfl⟩⟩
 ·rw [hlen] at hj
  by_cases hij : i = j
  ·subst hij; rw [hs]; exact ho
  ·rw [hn j hij]
   refine (hI.obj j hj).dN hk hI.lay (fun j hj _ => hrefs j hj) (hI.ei j hj) ⟨fun b h' hb => ⟨(hI.cZ ⟨j, hj, h', hb.symm⟩).2, hold _ (fun e => ?_)⟩, fun _ _ => ⟨Iff.rfl, fun _ => rfl⟩, hos, by show _ ≤ w.heap.size; omega, fun _ _ => rfl⟩
   subst e
   rw [hI.ei i hi hown] at hb
   exact hne j hj hij h' hb.symm
 ·rw [hlen] at hj hk'
  have hh : ∀ k, k < C.st.length → bW ((C.dk i o w).ι k) (ar (C.dk i o w).st k) = true → bW (C.ι k) (ar C.st k) = true := fun k hk h => by
   by_cases e : i = k
   ·subst e; exact hown
   ·rwa [hn k e] at h
  exact hI.rh j k hj hk' hjk (hh j hj hoj) (hh k hk' hok)
 ·rw [hlen] at hj
  by_cases e : i = j
  ·subst e; exact hI.ei i hi hown
  ·rw [hn j e] at hoj
   exact hI.ei j hj hoj
 ·have := hI.nq b hb
  exact ⟨by show b < w.heap.size; omega, this.2.1, by show C.cls b < w.heap.size; omega⟩
 ·obtain ⟨j, hj, ho', hb'⟩ := hb
  rw [hlen] at hj
  refine .inl ⟨j, hj, ?_, hb'⟩
  by_cases e : i = j
  ·subst e; exact hown
  ·rwa [hn j e] at ho'
theorem cQ.step {C C' : Ctx} (hI : Inv C) {s : S} {a : Act} (h : cQ C s a) (he : Ext C.st.length C C') : cQ C' { s with st := C'.st } a :=
 ⟨rfl, h.a5.dN he.keeps hI.lay he.refs⟩
end Go.Dn
