import Derived.Test.YtdpmikfheebicaaGreatDoorDnU
namespace Go.Dn
open Go
theorem kG : ∀ (l : List Nat) (i : Nat), j6 i l = true ↔ i ∈ l
 | [], i => by simp [j6]
 | j :: l, i => by simp [j6, kG l i, Nat.beq_eq]
theorem jt {ids : List Nat} : ∀ {l : List Nat}, yQ ids l = true → ∀ i, i ∈ l → i ∈ ids
 | [], _, i, h => by simp at h
 | j :: l, h, i, hi => by
  simp only [yQ, aa1] at h
  rcases List.mem_cons.1 hi with rfl | hi
  ·exact (kG _ _).1 h.1
  ·exact jt h.2 i hi
theorem kO {n : Nat} : ∀ {l : List Nat}, CB n l = true → ∀ i, i ∈ l → i < n
 | [], _, i, h => by simp at h
 | j :: l, h, i, hi => by
  simp only [CB, aa1, aa0] at h
  rcases List.mem_cons.1 hi with rfl | hi
  ·exact h.1
  ·exact kO h.2 i hi
theorem jL : ∀ {l : List Nat}, we l = true → l.Nodup
 | [], _ => by simp
 | j :: l, h => by
  simp only [we, aa1, Bool.not_eq_true'] at h
  rw [List.nodup_cons]
  exact ⟨fun hm => by rw [(kG _ _).2 hm] at h; simp at h, jL h.2⟩
theorem pq : ∀ {ids : List Nat} {i n j : Nat}, iy i ids n = some j → ∃ k, j = n + k ∧ ids[k]? = some i
 | [], _, _, _, h => by simp [iy] at h
 | a :: ids, i, n, j, h => by
  simp only [iy] at h
  cases hb : Nat.beq i a with
  | true =>
   rw [hb] at h
   simp only [aa7, aa3] at h
   exact ⟨0, by omega, by simp [Nat.eq_of_beq_eq_true hb]⟩
  | false =>
   rw [hb] at h
   simp only [aa5] at h
   obtain ⟨k, h1, h2⟩ := pq h
   exact ⟨k + 1, by omega, by simpa using h2⟩
theorem lT : ∀ {ids : List Nat} {i : Nat} (n : Nat), i ∈ ids → ∃ j, iy i ids n = some j
 | [], _, _, h => by simp at h
 | a :: ids, i, n, h => by
  simp only [iy]
  cases hb : Nat.beq i a with
  | true => exact ⟨n, rfl⟩
  | false =>
   simp only [aa5]
   rcases List.mem_cons.1 h with rfl | h
   ·rw [Nat.beq_refl] at hb; cases hb
   ·exact lT (n + 1) h
theorem pD {st : List Obj} : ∀ {ids : List Nat} {k i : Nat}, ids[k]? = some i → ar (gq st ids) k = ar st i
 | [], _, _, h => by simp at h
 | a :: ids, 0, i, h => by simp at h; subst h; rfl
 | a :: ids, k + 1, i, h => by simp only [gq, ar]; exact pD (by simpa using h)
theorem iZ {st : List Obj} : ∀ ids : List Nat, (gq st ids).length = ids.length
 | [] => rfl
 | a :: ids => by simp [gq, iZ ids]
theorem gx (ρ : Nat → Option Nat) : ∀ l : List Obj, (gn ρ l).length = l.length
 | [] => rfl
 | a :: l => by simp [gn, gx ρ l]
theorem nb (ρ : Nat → Option Nat) : ∀ (l : List Obj) (k : Nat), ar (gn ρ l) k = eb ρ (ar l k)
 | [], _ => rfl
 | a :: l, 0 => rfl
 | a :: l, k + 1 => by simp only [gn, ar]; exact nb ρ l k
theorem nY {st : List Obj} : ∀ {ids : List Nat} {i j : Nat}, i ∈ ids → j ∈ vl (ar st i) → j ∈ tq st ids
 | [], _, _, h, _ => by simp at h
 | a :: ids, i, j, h, hj => by
  simp only [tq, List.mem_append]
  rcases List.mem_cons.1 h with rfl | h
  ·exact .inl hj
  ·exact .inr (nY h hj)
theorem xw (ρ : Nat → Option Nat) (o : Obj) : fP (eb ρ o) = fP o := by cases o <;> rfl
theorem zM : ∀ {n i : Nat}, i < n → i ∈ upto n
 | 0, _, h => by omega
 | n + 1, i, h => by
  simp only [upto, List.mem_append, List.mem_singleton]
  rcases Nat.lt_or_ge i n with h' | h'
  ·exact .inl (zM h')
  ·exact .inr (by omega)
theorem oQ {ids : List Nat} : ∀ {l : List Nat}, rL ids l = true → ∀ i, i ∈ l → iy i ids 0 = some i
 | [], _, _, h => by simp at h
 | j :: l, h, i, hi => by
  simp only [rL, aa1] at h
  rcases List.mem_cons.1 hi with rfl | hi
  ·have := h.1
   split at this
   ·rename_i k hk; rw [hk, Nat.eq_of_beq_eq_true this]
   ·cases this
  ·exact oQ h.2 i hi
def Ctx.by (C : Ctx) (ids : List Nat) : Ctx := { C with st := gn (fun i => iy i ids 0) (gq C.st ids), ι := fun k => C.ι (ids.getD k 0) }
theorem lj {C : Ctx} {ids : List Nat} {k i : Nat} (h : ids[k]? = some i) : ar (C.by ids).st k = eb (fun i => iy i ids 0) (ar C.st i) ∧ (C.by ids).ι k = C.ι i := by
 refine ⟨?_, ?_⟩
 ·simp only [Ctx.by]; rw [nb, pD h]
 ·simp only [Ctx.by]; rw [List.getD_eq_getElem?_getD, h]; rfl
theorem lV {C : Ctx} {ids : List Nat} : (C.by ids).st.length = ids.length := by simp [Ctx.by, gx, iZ]
theorem kk {C : Ctx} {ids : List Nat} {i j : Nat} (h : iy i ids 0 = some j) : bP C (C.by ids) i j := by
 obtain ⟨k, hk, hi⟩ := pq h
 obtain rfl : j = k := by omega
 obtain ⟨h1, h2⟩ := lj (C := C) hi
 refine ⟨by rw [lV]; exact (List.getElem?_eq_some_iff.1 hi).1, fun T xs hx => ?_, fun T a hx => ?_, fun K V es hx => ?_, fun r hx => ?_, fun m n ks hx => ?_, fun t hx => ?_, fun s p hx => ?_, fun K V ks vs met hx => ?_, fun T E ls pd hx => ?_⟩
 ·rw [h1, xw] at hx; exact ⟨xs, hx, h2, Nat.le_refl _⟩
 ·rw [h1] at hx
  cases ho : ar C.st i <;> rw [ho] at hx <;> simp [eb] at hx
  obtain ⟨rfl, _⟩ := hx
  exact ⟨_, rfl, h2⟩
 ·rw [h1] at hx
  cases ho : ar C.st i <;> rw [ho] at hx <;> simp [eb] at hx
  obtain ⟨rfl, rfl, rfl⟩ := hx
  exact ⟨_, rfl, h2, fun ents clock hh => ⟨ents, clock, hh, dp.refl _ _⟩⟩
 ·rw [h1] at hx
  cases ho : ar C.st i <;> rw [ho] at hx <;> simp [eb] at hx
  exact ⟨_, rfl, h2⟩
 ·rw [h1] at hx
  cases ho : ar C.st i <;> rw [ho] at hx <;> simp [eb] at hx
  obtain ⟨_, rfl, _⟩ := hx
  exact ⟨_, _, rfl, h2⟩
 ·rw [h1] at hx
  cases ho : ar C.st i <;> rw [ho] at hx <;> simp [eb] at hx
  exact ⟨_, rfl, h2⟩
 ·rw [h1] at hx
  cases ho : ar C.st i <;> rw [ho] at hx <;> simp [eb] at hx
  obtain ⟨rfl, _⟩ := hx
  exact ⟨_, rfl, h2⟩
 ·rw [h1] at hx
  cases ho : ar C.st i <;> rw [ho] at hx <;> simp [eb] at hx
  obtain ⟨rfl, rfl, rfl, rfl, _⟩ := hx
  exact ⟨_, rfl, h2⟩
 ·rw [h1] at hx
  cases ho : ar C.st i <;> rw [ho] at hx <;> simp [eb] at hx
  obtain ⟨rfl, rfl, rfl, _⟩ := hx
  exact ⟨_, _, rfl, h2, rfl, fun _ _ _ h => h⟩
theorem rU {C : Ctx} (hI : Inv C) {base : Nat} {roots ids : List Nat} (hok : nF base C.st roots ids = true) : Inv (C.by ids) ∧ Ext base C (C.by ids) ∧ (∀ i, i ∈ roots → ∃ j, iy i ids 0 = some j) := by
 simp only [nF, aa1] at hok
 obtain ⟨⟨⟨⟨h1, h2⟩, h3⟩, h4⟩, h5⟩ := hok
 have hnd := jL h1
 have hk : bD C (C.by ids) := ⟨rfl, fun _ h => h, fun _ _ => rfl⟩
 have hat : ∀ k, k < ids.length → ∃ i, ids[k]? = some i ∧ i < C.st.length := fun k hk => ⟨ids[k], by simp [hk], kO h2 _ (List.getElem_mem hk)⟩
 refine ⟨⟨hI.lay, fun k hk' => ?_, fun k l hk' hl hkl hok hol => ?_, hI.xs, fun k hk' hok => ?_, hI.nq, hI.kH hk⟩, ⟨hk, Nat.le_refl _, rfl, rfl, rfl, fun _ _ _ => rfl, fun b hb => .inl hb, fun b hb => ?_, fun i hi => kk (oQ h3 i (zM hi)), fun _ => .inl ⟨rfl, rfl⟩, rfl⟩, fun i hi => lT 0 (jt h4 i hi)⟩
 ·rw [lV] at hk'
  obtain ⟨i, hi, hlt⟩ := hat k hk'
  obtain ⟨g1, g2⟩ := lj (C := C) hi
  rw [g1, g2]
  have hmem : i ∈ ids := List.mem_iff_getElem?.2 ⟨k, hi⟩
  refine (hI.obj i hlt).move hk hI.lay _ (fun j hj hlt' => ?_) (hI.ei i hlt) ⟨fun b ho hb => ⟨(hI.cZ ⟨i, hlt, ho, hb.symm⟩).2, rfl⟩, fun _ _ => ⟨Iff.rfl, fun _ => rfl⟩, dm.refl _, Nat.le_refl _, fun _ _ => rfl⟩
  obtain ⟨m, hm⟩ := lT (ids := ids) 0 (jt h5 j (nY hmem hj))
  exact ⟨m, hm, kk hm⟩
 ·rw [lV] at hk' hl
  obtain ⟨i, hi, hlt⟩ := hat k hk'
  obtain ⟨j, hj, hlt'⟩ := hat l hl
  obtain ⟨g1, g2⟩ := lj (C := C) hi
  obtain ⟨g3, g4⟩ := lj (C := C) hj
  rw [g1, g2, da] at hok
  rw [g3, g4, da] at hol
  rw [g2, g4]
  refine hI.rh i j hlt hlt' (fun e => hkl ?_) hok hol
  subst e
  obtain ⟨_, e1⟩ := List.getElem?_eq_some_iff.1 hi
  obtain ⟨_, e2⟩ := List.getElem?_eq_some_iff.1 hj
  exact (List.getElem_inj hnd).1 (e1.trans e2.symm)
 ·rw [lV] at hk'
  obtain ⟨i, hi, hlt⟩ := hat k hk'
  obtain ⟨g1, g2⟩ := lj (C := C) hi
  rw [g1, g2, da] at hok
  rw [g2]
  exact hI.ei i hlt hok
 ·obtain ⟨k, hk', ho, hb'⟩ := hb
  rw [lV] at hk'
  obtain ⟨i, hi, hlt⟩ := hat k hk'
  obtain ⟨g1, g2⟩ := lj (C := C) hi
  rw [g1, g2, da] at ho
  rw [g2] at hb'
  exact .inl ⟨i, hlt, ho, hb'⟩
theorem iB (live : List (Nat × Option TypeId)) : ∀ (l : List AV) (n : Nat), (eX live l n).length = l.length
 | [], _ => rfl
 | a :: l, n => by simp [eX, iB live l]
theorem oH (live : List (Nat × Option TypeId)) : ∀ (l : List AV) (n i : Nat), nth (eX live l n) i = nth l i ∨ nth (eX live l n) i = .b7
 | [], _, _ => .inl rfl
 | a :: l, n, 0 => by
  simp only [eX, nth]
  cases eX.memL n live
  ·exact .inr rfl
  ·exact .inl rfl
 | a :: l, n, i + 1 => by simp only [eX, nth]; exact oH live l (n + 1) i
theorem zC {C : Ctx} {live : List (Nat × Option TypeId)} {a5 : List AV} {tmps : Array Value} (h : ff C a5 tmps) : ff C (eX live a5 0) tmps := by
 refine ⟨by rw [iB]; exact h.1, fun i hi => ?_⟩
 rw [iB] at hi
 rcases oH live a5 0 i with h' | h'
 ·rw [h']; exact h.2 i hi
 ·rw [h']; exact kx _
theorem Db {C : Ctx} (hI : Inv C) (T : TypeId) : Inv (C.add (.row T []) ⟨C.w.heap.size, 0, true⟩ C.w) ∧ Ext C.st.length C (C.add (.row T []) ⟨C.w.heap.size, 0, true⟩ C.w) :=
 fD hI (o := .row T []) (g := ⟨C.w.heap.size, 0, true⟩) (w := C.w) rfl (Nat.le_refl _) ⟨rfl, rfl, rfl⟩ (fun _ _ => rfl) ⟨trivial, .inl ⟨rfl, rfl⟩⟩
theorem vr {C : Ctx} (T : TypeId) : lZ (C.add (.row T []) ⟨C.w.heap.size, 0, true⟩ C.w) C.st.length 0 0 (.slice none 0 0) := by
 refine ⟨fun T0 xs hx => ?_, fun _ _ _ _ hx => (by rw [bf.1] at hx; cases hx)⟩
 rw [bf.1] at hx
 simp only [fP, aa3, aa9] at hx
 obtain ⟨rfl, rfl⟩ := hx
 rw [bf.2]
 exact ⟨by simp, .inl ⟨rfl, rfl, rfl, rfl⟩⟩
theorem jA : ∀ (live : List (Nat × Option TypeId)) {C : Ctx} {s : S} {a : Act}, Inv C → cQ C s a → ∃ C', C'.w = C.w ∧ Inv C' ∧ cQ C' (je live s) a ∧ Ext C.st.length C C'
 | [], C, s, a, hI, hs => ⟨C, rfl, hI, hs, Ext.refl C (Nat.le_refl _)⟩
 | (r, none) :: l, C, s, a, hI, hs => by simp only [je]; exact jA l hI hs
 | (r, some T) :: l, C, s, a, hI, hs => by
  simp only [je]
  split
  ·rename_i hr
   have hsame : a.tmps.setIfInBounds r (a.tmps.getD r undef) = a.tmps := by
    apply Array.ext_getElem?
    intro k
    by_cases hk : r = k
    ·subst hk
     by_cases hlt' : r < a.tmps.size
     ·simp [hlt']
     ·simp [hlt']
    ·rw [Array.getElem?_setIfInBounds_ne hk]
   split
   ·have hv : Rel C (.ae (T - Ku) []) (a.tmps.getD r undef) := by
     rcases Nat.lt_or_ge r s.a5.length with hlt | hge
     ·have hv := hs.a5.2 r hlt
      rw [hr] at hv
      rw [aK hv]
      refine dH rfl rfl ?_ hI
      simp only [M]
      exact ⟨trivial, none, 0, rfl, Nat.le_refl _, fun h => absurd rfl h⟩
     ·rw [lA _ _ hge] at hr; cases hr
    have hput := hs.a5.put hv (d := r)
    rw [hsame] at hput
    obtain ⟨C', g1, g2, g3, g4⟩ := jA l (s := { a5 := cf s.a5 r (.ae (T - Ku) []), st := s.st }) (a := a) hI ⟨hs.st, hput⟩
    exact ⟨C', g1, g2, g3, g4⟩
   obtain ⟨h1, h2⟩ := Db hI T
   have hst := hs.step hI h2
   rcases Nat.lt_or_ge r s.a5.length with hlt | hge
   ·have hv := hs.a5.2 r hlt
    rw [hr] at hv
    have hv' := aK hv
    have hrel : Rel (C.add (.row T []) ⟨C.w.heap.size, 0, true⟩ C.w) (.aB C.st.length 0 0) (a.tmps.getD r undef) := by
     rw [hv']
     refine dH rfl rfl ?_ h1
     simp only [M]
     exact ⟨by simp [Ctx.add], _, rfl, rfl, vr T⟩
    have hput := hst.a5.put hrel (d := r)
    rw [hsame] at hput
    obtain ⟨C', g1, g2, g3, g4⟩ := jA l (s := { a5 := cf s.a5 r (.aB s.st.length 0 0), st := s.st ++ [.row T []] }) (a := a) h1
     ⟨by simp [Ctx.add, hs.st], by rw [← hs.st]; exact hput⟩
    exact ⟨C', g1, g2, g3, h2.trans g4 (by simp [Ctx.add])⟩
   ·rw [lA _ _ hge] at hr; cases hr
  ·exact jA l hI hs
theorem D7 {C : Ctx} {s : S} {a : Act} (P : Program) (i : Nat) (hI : Inv C) (hs : cQ C s a) : ∃ C', C'.w = C.w ∧ Inv C' ∧ cQ C' (BG P i s) a ∧ Ext C.st.length C C' := by
 unfold BG
 split
 ·rename_i Tb hst
  split
  ·rename_i Te _
   obtain ⟨h1, h2⟩ := Db hI Te
   rw [← hs.st] at hst
   have hi : i < C.st.length := by
    rcases Nat.lt_or_ge i C.st.length with h | h
    ·exact h
    ·rw [ee _ _ h] at hst; cases hst
   generalize hC1 : C.add (.row Te []) ⟨C.w.heap.size, 0, true⟩ C.w = C1 at *
   have hw1 : C1.w = C.w := by rw [← hC1]; rfl
   have hl1 : C1.st.length = C.st.length + 1 := by rw [← hC1]; simp [Ctx.add]
   have hn1 : ar C1.st i = .box Tb (.lit (.slice none 0 0)) := by rw [← hC1, (cn hi).1]; exact hst
   have hι1 : C1.ι i = C.ι i := by rw [← hC1]; exact (cn hi).2
   have hslc : lZ C1 C.st.length 0 0 (.slice none 0 0) := by rw [← hC1]; exact vr Te
   have hob := h1.obj i (by omega)
   rw [hn1] at hob
   obtain ⟨g1, g2, c, e, g3, g4, g5⟩ := hob
   have hr : bP C1 (C1.dk i (.box Tb (.aB C.st.length 0 0)) C1.w) i i := o9 (by omega) hn1 Tb _ rfl rfl
   have hk : bD C1 (C1.dk i (.box Tb (.aB C.st.length 0 0)) C1.w) := ⟨rfl, fun _ h => h, fun _ _ => rfl⟩
   have hupd := gE h1 (i := i) (by omega) (o := .box Tb (.aB C.st.length 0 0)) (w := C1.w) (by rw [hn1]; rfl) rfl ⟨rfl, rfl, rfl⟩ (fun _ _ => rfl) hr (by
    refine ⟨g1, rfl, c, e, g3, by simpa [wid] using g4, ?_⟩
    simp only [M] at g5 ⊢
    refine ⟨by simp only [Ctx.dk, aP]; omega, _, g5.1, rfl, ?_⟩
    refine lZ.move hk (dW h1 (by omega) (by simp only [Ctx.dk, aP]; omega) (bI _ _ _ _ (by omega)) rfl (fun _ _ _ => ⟨rfl, rfl, rfl⟩)) hslc)
   refine ⟨C1.dk i (.box Tb (.aB C.st.length 0 0)) C1.w, hw1, hupd.1, ?_, h2.trans hupd.2 (by omega)⟩
   have := (hs.step hI h2).step h1 hupd.2
   refine ⟨?_, this.a5⟩
   simp only [Ctx.dk, ← hC1, Ctx.add, hs.st]
   have : ∀ (l m : List Obj) (i : Nat) (x : Obj), i < l.length → cP (l ++ m) i x = cP l i x ++ m := by
    intro l; induction l with
    | nil => intro m i x h; simp at h
    | cons a l ih =>
     intro m i x h
     cases i with
     | zero => rfl
     | succ i => simp only [List.cons_append, cP]; rw [ih m i x (by simpa using h)]
   exact this _ _ _ _ (by rw [← hs.st]; exact hi)
  ·exact ⟨C, rfl, hI, hs, Ext.refl C (Nat.le_refl _)⟩
 ·exact ⟨C, rfl, hI, hs, Ext.refl C (Nat.le_refl _)⟩
theorem mq (P : Program) : ∀ (is : List Nat) {C : Ctx} {s : S} {a : Act}, Inv C → cQ C s a → ∃ C', C'.w = C.w ∧ Inv C' ∧ cQ C' (mu P is s) a ∧ Ext C.st.length C C'
 | [], C, s, a, hI, hs => ⟨C, rfl, hI, hs, Ext.refl C (Nat.le_refl _)⟩
 | i :: is, C, s, a, hI, hs => by
  simp only [mu]
  obtain ⟨C1, g1, g2, g3, g4⟩ := D7 P i hI hs
  obtain ⟨C2, g5, g6, g7, g8⟩ := mq P is g2 g3
  refine ⟨C2, g5.trans g1, g6, g7, g4.trans g8 ?_⟩
  rcases Nat.eq_zero_or_pos C.st.length with h | h
  ·omega
  ·have := (g4.refs (C.st.length - 1) (by omega)).lt; omega
theorem rX {C : Ctx} {s : S} {a : Act} (P : Program) (live : List (Nat × Option TypeId)) {base : Nat} (hI : Inv C) (hs : cQ C s a) (hb : base ≤ s.st.length) (hok : ib P live base s = true) :
  ∃ C', C'.w = C.w ∧ Inv C' ∧ cQ C' (canon P live base s) a ∧ Ext base C C' ∧ base ≤ (canon P live base s).st.length := by
 obtain ⟨C1, g1, g2, g3, g4⟩ := jA live hI (s := { s with a5 := eX live s.a5 0 }) ⟨hs.st, zC hs.a5⟩
 obtain ⟨C2, g5, g6, g7, g8⟩ := mq P (upto (je live { s with a5 := eX live s.a5 0 }).st.length) g2 g3
 have hpre : cQ C2 (fN P live s) a := g7
 unfold ib at hok
 rw [← hpre.st] at hok
 obtain ⟨h1, h2, h3⟩ := rU g6 hok
 have hl1 : C.st.length ≤ C1.st.length := by
  rcases Nat.eq_zero_or_pos C.st.length with h | h
  ·omega
  ·have := (g4.refs (C.st.length - 1) (by omega)).lt; omega
 have hl2 : C1.st.length ≤ C2.st.length := by
  rcases Nat.eq_zero_or_pos C1.st.length with h | h
  ·omega
  ·have := (g8.refs (C1.st.length - 1) (by omega)).lt; omega
 have hsl : s.st.length = C.st.length := by rw [hs.st]
 refine ⟨C2.by (fO base C2.st (cw (fN P live s).a5)), g5.trans g1, h1, ?_, (g4.mono (by omega)).trans ((g8.mono (by omega)).trans h2 (Nat.le_refl _)) (Nat.le_refl _), ?_⟩
 ·refine ⟨?_, ?_⟩
  ·simp only [canon, rK, Ctx.by, hpre.st]
  ·simp only [canon, rK]
   rw [← hpre.st]
   exact hpre.a5.move h2.keeps g6.lay _ (fun i hi _ => by obtain ⟨j, hj⟩ := h3 i hi; exact ⟨j, hj, kk hj⟩)
 ·have hrefs := h2.refs
  have e : (canon P live base s).st.length = (C2.by (fO base C2.st (cw (fN P live s).a5))).st.length := by
   simp only [canon, rK, Ctx.by, hpre.st]
  rw [e]
  rcases Nat.eq_zero_or_pos base with h | h
  ·omega
  ·have := (hrefs (base - 1) (by omega)).lt; omega
end Go.Dn
