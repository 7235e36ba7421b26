import Derived.Test.YtdpmikfheebicaaGreatDoorDnL
namespace Go.Dn
open Go
mutual
theorem re {P : Program} : ∀ (a : AV) (T : TypeId), bE P a T → refs a = []
 | .lit _, _, _ | .ae _ _, _, _ | .jH _ _, _, _ => by simp [refs]
 | .agg l, T, h => by simp only [bE] at h; obtain ⟨fs, _, h2⟩ := h; simp only [refs]; exact vB l _ h2
 | .jb U a, T, h => by simp only [bE] at h; simp only [refs]; exact re a U h.2
 | .cw, _, h | .bR _, _, h | .a7 _ _ _, _, h | .ptr _ _ _ _, _, h | .mp _, _, h | .dv _, _, h | .kr _ _, _, h | .dq _ _, _, h => by simp [bE] at h
theorem vB {P : Program} : ∀ (l : List AV) (fs : List Field), dk P l fs → cP l = []
 | [], _, _ => by simp [cP]
 | _ :: _, [], h => by simp [dk] at h
 | a :: l, f :: fs, h => by simp only [dk] at h; simp [cP, re a _ h.1, vB l fs h.2]
end
theorem Rel.pure {C C' : Ctx} (hk : bL C C') (hl : eQ C.P) {a : AV} {T : TypeId} (ht : bE C.P a T) {v : Value} (h : Rel C a v) : Rel C' a v :=
 h.fu hk hl (fun i hi => by rw [re a T ht] at hi; simp at hi)
theorem cn.fu {C C' : Ctx} (hk : bL C C') (hl : eQ C.P) {V : TypeId} : ∀ {es : List (Value × AV)} {ents : List MapEntry}, cn C V es ents → cn C' V es ents
 | [], [], _ => trivial
 | [], _ :: _, h => by simp [cn] at h
 | _ :: _, [], h => by simp [cn] at h
 | (k, a) :: es, e :: ents, h => by
  simp only [cn] at h ⊢
  exact ⟨h.1, by rw [hk.P]; exact h.2.1, h.2.2.1.pure hk hl h.2.1, h.2.2.2.fu hk hl⟩
mutual
theorem wo (ρ : Nat → Option Nat) : ∀ a : AV, cH a = true → (∀ i, i ∈ refs a → ∃ j, ρ i = some j) → cH (kR ρ a) = true
 | .agg l, h, hr => by simp only [kR, cH] at h ⊢; exact ug ρ l h (by simpa [refs] using hr)
 | .lit _, h, _ => by simpa [kR, cH] using h
 | .ae _ _, _, _ | .jH _ _, _, _ | .dq _ _, _, _ | .jb _ _, _, _ => by simp [kR, cH]
 | .a7 i _ _, _, hr | .ptr i _ _ _, _, hr | .mp i, _, hr | .dv i, _, hr | .kr i _, _, hr => by
  obtain ⟨j, hj⟩ := hr i (by simp [refs])
  simp [kR, hj, cH]
 | .cw, h, _ | .bR _, h, _ => by simp [cH] at h
theorem ug (ρ : Nat → Option Nat) : ∀ l : List AV, dT l = true → (∀ i, i ∈ cP l → ∃ j, ρ i = some j) → dT (gB ρ l) = true
 | [], _, _ => by simp [gB, dT]
 | a :: l, h, hr => by
  simp only [dT, aa1] at h
  simp only [gB, dT, aa1]
  exact ⟨wo ρ a h.1 (fun i hi => hr i (by simp [cP, hi])), ug ρ l h.2 (fun i hi => hr i (by simp [cP, hi]))⟩
end
theorem dr (g : G) (ρ : Nat → Option Nat) (o : Obj) : cD g (fI ρ o) = cD g o := by cases o <;> rfl
structure Still (C C' : Ctx) (g : G) (o : Obj) : Prop where
 QN : ∀ b, cD g o = true → C.cls b = g.block → ¬ C'.X b ∧ C'.w.heap[b]? = C.w.heap[b]?
 cls : ∀ t b, o = .ext t → (C'.cls b = g.block ↔ C.cls b = g.block)
 os : ed C.w C'.w
 size : C.w.heap.size ≤ C'.w.heap.size
 mx : ∀ t, o = .ext t → C'.mx = C.mx
theorem lG.move {C C' : Ctx} (hk : bL C C') (hl : eQ C.P) (ρ : Nat → Option Nat) {g : G} {o : Obj}
  (hr : ∀ i, i ∈ xp o → i < C.st.length → ∃ j, ρ i = some j ∧ cd C C' i j) (hc : cD g o = true → C.cls g.block = g.block) (hS : Still C C' g o)
  (h : lG C g o) : lG C' g (fI ρ o) := by
 have hX : cD g o = true → ¬ C'.X g.block := fun e => (hS.QN _ e (hc e)).1
 have hh : cD g o = true → C'.w.heap[g.block]? = C.w.heap[g.block]? := fun e => (hS.QN _ e (hc e)).2
 have cell : ∀ b, C'.w.heap[b]? = C.w.heap[b]? → ∀ j, cellAt C'.w b j = cellAt C.w b j := fun b hb j => by simp only [cellAt, World.cell?, hb]
 cases o with
 | dead => trivial
 | box T a =>
  obtain ⟨h1, h2, c, e, h3, h4, h5⟩ := h
  have hb := hh rfl
  refine ⟨hX rfl, wo ρ a h2 (fun i hi => ?_), c, e, by rw [hb]; exact h3, by rw [nY]; exact h4, ?_⟩
  ·obtain ⟨j, hj, _⟩ := hr i hi (J7 h5 i hi); exact ⟨j, hj⟩
  ·exact rn hk hl ρ a _ _ _ _ hr (fun j _ => cell _ hb _) h5
 | row T xs =>
  obtain ⟨h1, h2 | ⟨h2, h3, c, h4, h5, h6, h7, h8⟩⟩ := h
  ·exact ⟨by rw [hk.P]; exact h1, .inl h2⟩
  ·have ho : cD g (.row T xs) = true := by simp [cD, h2]
   have hb := hh ho
   refine ⟨by rw [hk.P]; exact h1, .inr ⟨h2, hX ho, c, by rw [hb]; exact h4, h5, h6, by rw [hk.P]; exact h7, ?_⟩⟩
   rw [hk.P]
   exact fW hk hl xs T _ _ _ _ h1 (fun j _ => cell _ hb _) h8
 | ow T xs =>
  obtain ⟨h1, h2 | ⟨h2, h3, h4⟩⟩ := h
  ·exact ⟨by rw [hk.P]; exact h1, .inl h2⟩
  ·refine ⟨by rw [hk.P]; exact h1, .inr ⟨h2, hk.X _ h3, ?_⟩⟩
   rw [hk.P]
   exact fW hk hl xs T _ _ _ _ h1 (fun j _ => cell _ (hk.heap _ h3) _) h4
 | map K V es =>
  obtain ⟨h1, entries, clock, h2, h3, h4⟩ := h
  exact ⟨hX rfl, entries, clock, by rw [hh rfl]; exact h2, h3.fu hk hl, by rw [hk.P]; exact h4⟩
 | loop r =>
  obtain ⟨h1, rec, h2, h3⟩ := h
  refine ⟨hX rfl, rec, by rw [hh rfl]; exact h2, ⟨h3.state, h3.pending, h3.params, h3.assign, h3.body, h3.bf.move hk hl ρ hr⟩⟩
 | iter i n ks =>
  obtain ⟨h1, hi, m, since, seen, stepped, h2, h3⟩ := h
  obtain ⟨j, hj, hrf⟩ := hr i (by simp [xp]) hi
  simp only [fI, hj]
  exact ⟨hX rfl, hrf.lt, m, since, seen, stepped, by rw [hh rfl]; exact h2, h3.move hrf⟩
 | db s p => exact ⟨hX rfl, by rw [hh rfl]; exact h.2⟩
 | ext t =>
  obtain ⟨h1, h2, h3, h4⟩ := h
  refine ⟨hX rfl, by have := hS.size; omega, ?_, by rw [hk.P, hS.mx t rfl]; exact h4⟩
  rw [hS.mx t rfl, show (fun b => C'.cls b = g.block) = (fun b => C.cls b = g.block) from funext fun b => propext (hS.cls t b rfl)]
  exact h4.still t _ C.X C'.X C.w C'.w h3 hk.X (fun b hb => (hS.QN b rfl hb).1) (fun b hb => hb.elim (fun h => (hS.QN b rfl h).2) (hk.heap b)) hS.os hS.size
theorem Gb (o : Obj) : fI some o = o := by
 cases o <;> simp only [fI]
 ·rw [lz]
 ·rename_i r; rw [hU]
theorem lG.fu {C C' : Ctx} (hk : bL C C') (hl : eQ C.P) {g : G} {o : Obj} (hr : ∀ i, i < C.st.length → i ∈ xp o → cd C C' i i) (hc : cD g o = true → C.cls g.block = g.block) (hS : Still C C' g o)
  (h : lG C g o) : lG C' g o := by
 have := h.move hk hl some (fun i hi hlt => ⟨i, rfl, hr i hlt hi⟩) hc hS
 rwa [Gb] at this
theorem bd : ∀ (l : List Obj) (i : Nat) (x : Obj), (dU l i x).length = l.length
 | [], _, _ => rfl
 | _ :: _, 0, _ => rfl
 | _ :: l, i + 1, x => by simp [dU, bd l i x]
theorem bD : ∀ (l : List Obj) (i : Nat) (x : Obj), i < l.length → aD (dU l i x) i = x
 | [], _, _, h => by simp at h
 | _ :: _, 0, _, _ => rfl
 | _ :: l, i + 1, x, h => by simp only [dU, aD]; exact bD l i x (by simpa using h)
theorem bK : ∀ (l : List Obj) (i j : Nat) (x : Obj), i ≠ j → aD (dU l i x) j = aD l j
 | [], _, _, _, _ => rfl
 | _ :: _, 0, j, _, h => by cases j with | zero => exact absurd rfl h | succ j => rfl
 | _ :: l, i + 1, j, x, h => by
  cases j with
  | zero => rfl
  | succ j => simp only [dU, aD]; exact bK l i j x (by omega)
theorem dD : ∀ (l m : List Obj) (i : Nat), i < l.length → aD (l ++ m) i = aD l i
 | [], _, _, h => by simp at h
 | _ :: _, _, 0, _ => rfl
 | _ :: l, m, i + 1, h => by simp only [List.cons_append, aD]; exact dD l m i (by simpa using h)
theorem fT : ∀ (l m : List Obj) (i : Nat), aD (l ++ m) (l.length + i) = aD m i
 | [], _, _ => by simp
 | _ :: l, m, i => by
  simp only [List.cons_append, List.length_cons, show l.length + 1 + i = (l.length + i) + 1 by omega, aD]
  exact fT l m i
theorem dY : ∀ (l : List Obj) (i : Nat), l.length ≤ i → aD l i = .dead
 | [], _, _ => rfl
 | _ :: l, 0, h => by simp at h
 | _ :: l, i + 1, h => by simp only [aD]; exact dY l i (by simpa using h)
def wN (C : Ctx) (g : G) : Nat → G := fun i => if i = C.st.length then g else C.ι i
def Ctx.add (C : Ctx) (o : Obj) (g : G) (w : World) : Ctx := { C with st := C.st ++ [o], ι := wN C g, w }
theorem cF {C : Ctx} {o : Obj} {g : G} {w : World} {i : Nat} (h : i < C.st.length) : aD (C.add o g w).st i = aD C.st i ∧ (C.add o g w).ι i = C.ι i := by
 refine ⟨dD _ _ _ h, ?_⟩
 simp only [Ctx.add, wN]; rw [if_neg (by omega)]
theorem b9 {C : Ctx} {o : Obj} {g : G} {w : World} : aD (C.add o g w).st C.st.length = o ∧ (C.add o g w).ι C.st.length = g := by
 refine ⟨?_, ?_⟩
 ·have := fT C.st [o] 0
  simpa [Ctx.add, aD] using this
 ·simp only [Ctx.add, wN, if_true]
theorem ea {C C' : Ctx} {i : Nat} (h : i < C'.st.length) (h1 : aD C'.st i = aD C.st i) (h2 : C'.ι i = C.ι i) (h3 : cD (C.ι i) (aD C.st i) = true → C'.w.heap[(C.ι i).block]? = C.w.heap[(C.ι i).block]?) : cd C C' i i := by
 refine ⟨h, fun T xs hx => ⟨xs, by rw [← h1]; exact hx, h2, Nat.le_refl _⟩, fun T a hx => ⟨a, by rw [← h1]; exact hx, h2⟩, fun K V es hx => ?_, fun r hx => ⟨r, by rw [← h1]; exact hx, h2⟩, fun m n ks hx => ⟨m, ks, by rw [← h1]; exact hx, h2⟩, fun t hx => ⟨t, by rw [← h1]; exact hx, h2⟩, fun s p hx => ⟨p, by rw [← h1]; exact hx, h2⟩⟩
 rw [h1] at hx
 refine ⟨es, hx, h2, fun ents clock hh => ⟨ents, clock, ?_, dG.refl _ _⟩⟩
 rw [h3 (by rw [hx]; rfl)]; exact hh
theorem rj {C C' : Ctx} {i : Nat} (h : i < C'.st.length) (h1 : aD C'.st i = .dead) : cd C C' i i :=
 ⟨h, fun T xs hx => (by rw [h1] at hx; simp [iE] at hx), fun T a hx => (by rw [h1] at hx; cases hx), fun K V es hx => (by rw [h1] at hx; cases hx), fun r hx => (by rw [h1] at hx; cases hx), fun _ _ _ hx => (by rw [h1] at hx; cases hx), fun _ hx => (by rw [h1] at hx; cases hx), fun _ _ hx => (by rw [h1] at hx; cases hx)⟩
theorem ij {C : Ctx} (hI : Inv C) {o : Obj} {g : G} {w : World} (hg : g.block = C.w.heap.size) (hsz : C.w.heap.size ≤ w.heap.size) (hos : ed C.w w) (hold : ∀ b, b < C.w.heap.size → w.heap[b]? = C.w.heap[b]?)
  (ho : lG (C.add o g w) g o) : Inv (C.add o g w) ∧ Ext C.st.length C (C.add o g w) := by
 have hk : bL C (C.add o g w) := ⟨rfl, fun _ h => h, fun b hb => hold b (hI.xs b hb)⟩
 have hlen : (C.add o g w).st.length = C.st.length + 1 := by simp [Ctx.add]
 have hrefs : ∀ i, i < C.st.length → cd C (C.add o g w) i i := fun i hi =>
  ea (by omega) (cF hi).1 (cF hi).2 (fun h => hold _ ((hI.obj i hi).lt h).1)
 refine ⟨⟨hI.lay, fun i hi => ?_, fun i j hi hj hij hoi hoj => ?_, fun b hb => by have := hI.xs b hb; show b < w.heap.size; omega, fun i hi hoi => ?_, fun b hb => ?_, hI.lq hk⟩, ⟨hk, hsz, hos.os, hos.tape, hos.output, fun b hb _ => hold b hb, fun b hb => .inl hb, fun b hb => ?_, hrefs, fun _ => .inl rfl, rfl⟩⟩
 ·rcases Nat.lt_or_ge i C.st.length with h | h
  ·rw [(cF h).1, (cF h).2]
   exact (hI.obj i h).fu hk hI.lay (fun j hj _ => hrefs j hj) (hI.fB i h) ⟨fun b h' hb => ⟨(hI.dB ⟨i, h, h', hb.symm⟩).2, hold _ (hI.dB ⟨i, h, h', hb.symm⟩).1⟩, fun _ _ _ => Iff.rfl, hos, hsz, fun _ _ => rfl⟩
  ·obtain rfl : i = C.st.length := by omega
   rw [b9.1, b9.2]; exact ho
 ·rcases Nat.lt_or_ge i C.st.length with h | h <;> rcases Nat.lt_or_ge j C.st.length with h' | h'
  ·rw [(cF h).1, (cF h).2] at hoi
   rw [(cF h').1, (cF h').2] at hoj
   rw [(cF h).2, (cF h').2]
   exact hI.sK i j h h' hij hoi hoj
  ·obtain rfl : j = C.st.length := by omega
   rw [(cF h).1, (cF h).2] at hoi
   rw [(cF h).2, b9.2, hg]
   have := ((hI.obj i h).lt hoi).1; omega
  ·obtain rfl : i = C.st.length := by omega
   rw [(cF h').1, (cF h').2] at hoj
   rw [(cF h').2, b9.2, hg]
   have := ((hI.obj j h').lt hoj).1; omega
  ·omega
 ·rcases Nat.lt_or_ge i C.st.length with h | h
  ·rw [(cF h).1, (cF h).2] at hoi
   rw [(cF h).2]
   exact hI.fB i h hoi
  ·obtain rfl : i = C.st.length := by omega
   rw [b9.2, hg]
   exact hI.fresh (Nat.le_refl _)
 ·have := hI.oE b hb
  exact ⟨by show b < w.heap.size; omega, this.2.1, by show C.cls b < w.heap.size; omega⟩
 ·obtain ⟨i, hi, ho', hb'⟩ := hb
  rcases Nat.lt_or_ge i C.st.length with h | h
  ·rw [(cF h).1, (cF h).2] at ho'
   rw [(cF h).2] at hb'
   exact .inl ⟨i, h, ho', hb'⟩
  ·obtain rfl : i = C.st.length := by omega
   rw [b9.2, hg] at hb'
   refine .inr ?_
   by_cases e : C.cls b = b
   ·have hb2 : C.w.heap.size = C.cls b := hb'
    omega
   ·have := (hI.oE b e).2.2
    have hb2 : C.w.heap.size = C.cls b := hb'
    omega
def Ctx.eX (C : Ctx) (i : Nat) (o : Obj) (w : World) : Ctx := { C with st := dU C.st i o, w }
theorem jI {C : Ctx} (hI : Inv C) {i : Nat} (hi : i < C.st.length) {o : Obj} {w : World} (hown : cD (C.ι i) (aD C.st i) = true) (hsz : w.heap.size = C.w.heap.size) (hos : ed C.w w)
  (hold : ∀ b, b ≠ (C.ι i).block → w.heap[b]? = C.w.heap[b]?) (hr : cd C (C.eX i o w) i i) (ho : lG (C.eX i o w) (C.ι i) o) : Inv (C.eX i o w) ∧ Ext C.st.length C (C.eX i o w) := by
 have hi' := (hI.obj i hi).lt hown
 have hk : bL C (C.eX i o w) := ⟨rfl, fun _ h => h, fun b hb => hold b (fun e => hi'.2 (e ▸ hb))⟩
 have hlen : (C.eX i o w).st.length = C.st.length := bd _ _ _
 have hn : ∀ j, i ≠ j → aD (C.eX i o w).st j = aD C.st j := fun j h => bK _ _ _ _ h
 have hs : aD (C.eX i o w).st i = o := bD _ _ _ hi
 have hne : ∀ j, j < C.st.length → i ≠ j → cD (C.ι j) (aD C.st j) = true → (C.ι j).block ≠ (C.ι i).block := fun j hj hij h => hI.sK j i hj hi (Ne.symm hij) h hown
 have hrefs : ∀ j, j < C.st.length → cd C (C.eX i o w) j j := fun j hj => by
  by_cases hij : i = j
  ·subst hij; exact hr
  ·exact ea (by omega) (hn j hij) rfl (fun h => hold _ (hne j hj hij h))
 refine ⟨⟨hI.lay, fun j hj => ?_, fun j k hj hk' hjk hoj hok => ?_, fun b hb => by have := hI.xs b hb; show b < w.heap.size; omega, fun j hj hoj => ?_, fun b hb => ?_, hI.lq hk⟩, ⟨hk, by show _ ≤ w.heap.size; omega, hos.os, hos.tape, hos.output, fun b _ hb => hold b (fun e => hb (e ▸ hI.oY hi hown)), fun b hb => .inl hb, fun b hb => ?_, hrefs, fun _ => .inl rfl, rfl⟩⟩
 ·rw [hlen] at hj
  by_cases hij : i = j
  ·subst hij; rw [hs]; exact ho
  ·rw [hn j hij]
   refine (hI.obj j hj).fu hk hI.lay (fun j hj _ => hrefs j hj) (hI.fB j hj) ⟨fun b h' hb => ⟨(hI.dB ⟨j, hj, h', hb.symm⟩).2, hold _ (fun e => ?_)⟩, fun _ _ _ => Iff.rfl, hos, by show _ ≤ w.heap.size; omega, fun _ _ => rfl⟩
   subst e
   rw [hI.fB i hi hown] at hb
   exact hne j hj hij h' hb.symm
 ·rw [hlen] at hj hk'
  have hh : ∀ k, k < C.st.length → cD ((C.eX i o w).ι k) (aD (C.eX i o w).st k) = true → cD (C.ι k) (aD C.st k) = true := fun k hk h => by
   by_cases e : i = k
   ·subst e; exact hown
   ·rwa [hn k e] at h
  exact hI.sK j k hj hk' hjk (hh j hj hoj) (hh k hk' hok)
 ·rw [hlen] at hj
  by_cases e : i = j
  ·subst e; exact hI.fB i hi hown
  ·rw [hn j e] at hoj
   exact hI.fB j hj hoj
 ·have := hI.oE b hb
  exact ⟨by show b < w.heap.size; omega, this.2.1, by show C.cls b < w.heap.size; omega⟩
 ·obtain ⟨j, hj, ho', hb'⟩ := hb
  rw [hlen] at hj
  refine .inl ⟨j, hj, ?_, hb'⟩
  by_cases e : i = j
  ·subst e; exact hown
  ·rwa [hn j e] at ho'
theorem dn.step {C C' : Ctx} (hI : Inv C) {s : S} {a : Act} (h : dn C s a) (he : Ext C.st.length C C') : dn C' { s with st := C'.st } a :=
 ⟨rfl, h.bf.fu he.keeps hI.lay he.refs⟩
end Go.Dn
