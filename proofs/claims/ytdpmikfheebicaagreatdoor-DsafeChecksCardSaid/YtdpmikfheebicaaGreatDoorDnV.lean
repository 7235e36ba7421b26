import Derived.Test.YtdpmikfheebicaaGreatDoorDnU
namespace Go.Dn
open Go
theorem lx : ∀ (l : List Nat) (i : Nat), mw i l = true ↔ i ∈ l
 | [], i => by simp [mw]
 | j :: l, i => by simp [mw, lx l i, Nat.beq_eq]
theorem km {ids : List Nat} : ∀ {l : List Nat}, A7 ids l = true → ∀ i, i ∈ l → i ∈ ids
 | [], _, i, h => by simp at h
 | j :: l, h, i, hi => by
  simp only [A7, aa1] at h
  rcases List.mem_cons.1 hi with rfl | hi
  ·exact (lx _ _).1 h.1
  ·exact km h.2 i hi
theorem lL {n : Nat} : ∀ {l : List Nat}, Ek n l = true → ∀ i, i ∈ l → i < n
 | [], _, i, h => by simp at h
 | j :: l, h, i, hi => by
  simp only [Ek, aa1, aa0] at h
  rcases List.mem_cons.1 hi with rfl | hi
  ·exact h.1
  ·exact lL h.2 i hi
theorem kB : ∀ {l : List Nat}, yj l = true → l.Nodup
 | [], _ => by simp
 | j :: l, h => by
  simp only [yj, aa1, Bool.not_eq_true'] at h
  rw [List.nodup_cons]
  exact ⟨fun hm => by rw [(lx _ _).2 hm] at h; simp at h, kB h.2⟩
theorem qC : ∀ {ids : List Nat} {i n j : Nat}, jo i ids n = some j → ∃ k, j = n + k ∧ ids[k]? = some i
 | [], _, _, _, h => by simp [jo] at h
 | a :: ids, i, n, j, h => by
  simp only [jo] at h
  cases hb : Nat.beq i a with
  | true =>
   rw [hb] at h
   simp only [aa7, aa3] at h
   exact ⟨0, by omega, by simp [Nat.eq_of_beq_eq_true hb]⟩
  | false =>
   rw [hb] at h
   simp only [aa5] at h
   obtain ⟨k, h1, h2⟩ := qC h
   exact ⟨k + 1, by omega, by simpa using h2⟩
theorem mG : ∀ {ids : List Nat} {i : Nat} (n : Nat), i ∈ ids → ∃ j, jo i ids n = some j
 | [], _, _, h => by simp at h
 | a :: ids, i, n, h => by
  simp only [jo]
  cases hb : Nat.beq i a with
  | true => exact ⟨n, rfl⟩
  | false =>
   simp only [aa5]
   rcases List.mem_cons.1 h with rfl | h
   ·rw [Nat.beq_refl] at hb; cases hb
   ·exact mG (n + 1) h
theorem qU {st : List Obj} : ∀ {ids : List Nat} {k i : Nat}, ids[k]? = some i → aD (iB st ids) k = aD st i
 | [], _, _, h => by simp at h
 | a :: ids, 0, i, h => by simp at h; subst h; rfl
 | a :: ids, k + 1, i, h => by simp only [iB, aD]; exact qU (by simpa using h)
theorem jN {st : List Obj} : ∀ ids : List Nat, (iB st ids).length = ids.length
 | [] => rfl
 | a :: ids => by simp [iB, jN ids]
theorem h9 (ρ : Nat → Option Nat) : ∀ l : List Obj, (ic ρ l).length = l.length
 | [] => rfl
 | a :: l => by simp [ic, h9 ρ l]
theorem om (ρ : Nat → Option Nat) : ∀ (l : List Obj) (k : Nat), aD (ic ρ l) k = fI ρ (aD l k)
 | [], _ => rfl
 | a :: l, 0 => rfl
 | a :: l, k + 1 => by simp only [ic, aD]; exact om ρ l k
theorem o7 {st : List Obj} : ∀ {ids : List Nat} {i j : Nat}, i ∈ ids → j ∈ xp (aD st i) → j ∈ tF st ids
 | [], _, _, h, _ => by simp at h
 | a :: ids, i, j, h, hj => by
  simp only [tF, List.mem_append]
  rcases List.mem_cons.1 h with rfl | h
  ·exact .inl hj
  ·exact .inr (o7 h hj)
theorem zb (ρ : Nat → Option Nat) (o : Obj) : iE (fI ρ o) = iE o := by cases o <;> rfl
theorem AF : ∀ {n i : Nat}, i < n → i ∈ upto n
 | 0, _, h => by omega
 | n + 1, i, h => by
  simp only [upto, List.mem_append, List.mem_singleton]
  rcases Nat.lt_or_ge i n with h' | h'
  ·exact .inl (AF h')
  ·exact .inr (by omega)
theorem pS {ids : List Nat} : ∀ {l : List Nat}, sQ ids l = true → ∀ i, i ∈ l → jo i ids 0 = some i
 | [], _, _, h => by simp at h
 | j :: l, h, i, hi => by
  simp only [sQ, aa1] at h
  rcases List.mem_cons.1 hi with rfl | hi
  ·have := h.1
   split at this
   ·rename_i k hk; rw [hk, Nat.eq_of_beq_eq_true this]
   ·cases this
  ·exact pS h.2 i hi
def Ctx.by (C : Ctx) (ids : List Nat) : Ctx := { C with st := ic (fun i => jo i ids 0) (iB C.st ids), ι := fun k => C.ι (ids.getD k 0) }
theorem mg {C : Ctx} {ids : List Nat} {k i : Nat} (h : ids[k]? = some i) : aD (C.by ids).st k = fI (fun i => jo i ids 0) (aD C.st i) ∧ (C.by ids).ι k = C.ι i := by
 refine ⟨?_, ?_⟩
 ·simp only [Ctx.by]; rw [om, qU h]
 ·simp only [Ctx.by]; rw [List.getD_eq_getElem?_getD, h]; rfl
theorem mQ {C : Ctx} {ids : List Nat} : (C.by ids).st.length = ids.length := by simp [Ctx.by, h9, jN]
theorem lj {C : Ctx} {ids : List Nat} {i j : Nat} (h : jo i ids 0 = some j) : cd C (C.by ids) i j := by
 obtain ⟨k, hk, hi⟩ := qC h
 obtain rfl : j = k := by omega
 obtain ⟨h1, h2⟩ := mg (C := C) hi
 refine ⟨by rw [mQ]; exact (List.getElem?_eq_some_iff.1 hi).1, fun T xs hx => ?_, fun T a hx => ?_, fun K V es hx => ?_, fun r hx => ?_, fun m n ks hx => ?_, fun t hx => ?_, fun s p hx => ?_⟩
 ·rw [h1, zb] at hx; exact ⟨xs, hx, h2, Nat.le_refl _⟩
 ·rw [h1] at hx
  cases ho : aD C.st i <;> rw [ho] at hx <;> simp [fI] at hx
  obtain ⟨rfl, _⟩ := hx
  exact ⟨_, rfl, h2⟩
 ·rw [h1] at hx
  cases ho : aD C.st i <;> rw [ho] at hx <;> simp [fI] at hx
  obtain ⟨rfl, rfl, rfl⟩ := hx
  exact ⟨_, rfl, h2, fun ents clock hh => ⟨ents, clock, hh, dG.refl _ _⟩⟩
 ·rw [h1] at hx
  cases ho : aD C.st i <;> rw [ho] at hx <;> simp [fI] at hx
  exact ⟨_, rfl, h2⟩
 ·rw [h1] at hx
  cases ho : aD C.st i <;> rw [ho] at hx <;> simp [fI] at hx
  obtain ⟨_, rfl, _⟩ := hx
  exact ⟨_, _, rfl, h2⟩
 ·rw [h1] at hx
  cases ho : aD C.st i <;> rw [ho] at hx <;> simp [fI] at hx
  exact ⟨_, rfl, h2⟩
 ·rw [h1] at hx
  cases ho : aD C.st i <;> rw [ho] at hx <;> simp [fI] at hx
  obtain ⟨rfl, _⟩ := hx
  exact ⟨_, rfl, h2⟩
theorem uv {C : Ctx} (hI : Inv C) {base : Nat} {roots ids : List Nat} (hok : oL base C.st roots ids = true) : Inv (C.by ids) ∧ Ext base C (C.by ids) ∧ (∀ i, i ∈ roots → ∃ j, jo i ids 0 = some j) := by
 simp only [oL, aa1] at hok
 obtain ⟨⟨⟨⟨h1, h2⟩, h3⟩, h4⟩, h5⟩ := hok
 have hnd := kB h1
 have hk : bL C (C.by ids) := ⟨rfl, fun _ h => h, fun _ _ => rfl⟩
 have hat : ∀ k, k < ids.length → ∃ i, ids[k]? = some i ∧ i < C.st.length := fun k hk => ⟨ids[k], by simp [hk], lL h2 _ (List.getElem_mem hk)⟩
 refine ⟨⟨hI.lay, fun k hk' => ?_, fun k l hk' hl hkl hok hol => ?_, hI.xs, fun k hk' hok => ?_, hI.oE, hI.lq hk⟩, ⟨hk, Nat.le_refl _, rfl, rfl, rfl, fun _ _ _ => rfl, fun b hb => .inl hb, fun b hb => ?_, fun i hi => lj (pS h3 i (AF hi)), fun _ => .inl rfl, rfl⟩, fun i hi => mG 0 (km h4 i hi)⟩
 ·rw [mQ] at hk'
  obtain ⟨i, hi, hlt⟩ := hat k hk'
  obtain ⟨g1, g2⟩ := mg (C := C) hi
  rw [g1, g2]
  have hmem : i ∈ ids := List.mem_iff_getElem?.2 ⟨k, hi⟩
  refine (hI.obj i hlt).move hk hI.lay _ (fun j hj hlt' => ?_) (hI.fB i hlt) ⟨fun b ho hb => ⟨(hI.dB ⟨i, hlt, ho, hb.symm⟩).2, rfl⟩, fun _ _ _ => Iff.rfl, ed.refl _, Nat.le_refl _, fun _ _ => rfl⟩
  obtain ⟨m, hm⟩ := mG (ids := ids) 0 (km h5 j (o7 hmem hj))
  exact ⟨m, hm, lj hm⟩
 ·rw [mQ] at hk' hl
  obtain ⟨i, hi, hlt⟩ := hat k hk'
  obtain ⟨j, hj, hlt'⟩ := hat l hl
  obtain ⟨g1, g2⟩ := mg (C := C) hi
  obtain ⟨g3, g4⟩ := mg (C := C) hj
  rw [g1, g2, dr] at hok
  rw [g3, g4, dr] at hol
  rw [g2, g4]
  refine hI.sK i j hlt hlt' (fun e => hkl ?_) hok hol
  subst e
  obtain ⟨_, e1⟩ := List.getElem?_eq_some_iff.1 hi
  obtain ⟨_, e2⟩ := List.getElem?_eq_some_iff.1 hj
  exact (List.getElem_inj hnd).1 (e1.trans e2.symm)
 ·rw [mQ] at hk'
  obtain ⟨i, hi, hlt⟩ := hat k hk'
  obtain ⟨g1, g2⟩ := mg (C := C) hi
  rw [g1, g2, dr] at hok
  rw [g2]
  exact hI.fB i hlt hok
 ·obtain ⟨k, hk', ho, hb'⟩ := hb
  rw [mQ] at hk'
  obtain ⟨i, hi, hlt⟩ := hat k hk'
  obtain ⟨g1, g2⟩ := mg (C := C) hi
  rw [g1, g2, dr] at ho
  rw [g2] at hb'
  exact .inl ⟨i, hlt, ho, hb'⟩
theorem jn (live : List (Nat × Option TypeId)) : ∀ (l : List AV) (n : Nat), (fJ live l n).length = l.length
 | [], _ => rfl
 | a :: l, n => by simp [fJ, jn live l]
theorem ql (live : List (Nat × Option TypeId)) : ∀ (l : List AV) (n i : Nat), nth (fJ live l n) i = nth l i ∨ nth (fJ live l n) i = .cw
 | [], _, _ => .inl rfl
 | a :: l, n, 0 => by
  simp only [fJ, nth]
  cases fJ.memL n live
  ·exact .inr rfl
  ·exact .inl rfl
 | a :: l, n, i + 1 => by simp only [fJ, nth]; exact ql live l (n + 1) i
theorem Bv {C : Ctx} {live : List (Nat × Option TypeId)} {bf : List AV} {tmps : Array Value} (h : gj C bf tmps) : gj C (fJ live bf 0) tmps := by
 refine ⟨by rw [jn]; exact h.1, fun i hi => ?_⟩
 rw [jn] at hi
 rcases ql live bf 0 i with h' | h'
 ·rw [h']; exact h.2 i hi
 ·rw [h']; exact ly _
theorem DN {C : Ctx} (hI : Inv C) (T : TypeId) : Inv (C.add (.row T []) ⟨C.w.heap.size, 0, true⟩ C.w) ∧ Ext C.st.length C (C.add (.row T []) ⟨C.w.heap.size, 0, true⟩ C.w) :=
 ij hI (o := .row T []) (g := ⟨C.w.heap.size, 0, true⟩) (w := C.w) rfl (Nat.le_refl _) ⟨rfl, rfl, rfl⟩ (fun _ _ => rfl) ⟨trivial, .inl ⟨rfl, rfl⟩⟩
theorem wz {C : Ctx} (T : TypeId) : oI (C.add (.row T []) ⟨C.w.heap.size, 0, true⟩ C.w) C.st.length 0 0 (.slice none 0 0) := by
 intro T0 xs hx
 rw [b9.1] at hx
 simp only [iE, aa3, aa9] at hx
 obtain ⟨rfl, rfl⟩ := hx
 rw [b9.2]
 exact ⟨by simp, .inl ⟨rfl, rfl, rfl, rfl⟩⟩
theorem ko : ∀ (live : List (Nat × Option TypeId)) {C : Ctx} {s : S} {a : Act}, Inv C → dn C s a → ∃ C', C'.w = C.w ∧ Inv C' ∧ dn C' (jJ live s) a ∧ Ext C.st.length C C'
 | [], C, s, a, hI, hs => ⟨C, rfl, hI, hs, Ext.refl C (Nat.le_refl _)⟩
 | (r, none) :: l, C, s, a, hI, hs => by simp only [jJ]; exact ko l hI hs
 | (r, some T) :: l, C, s, a, hI, hs => by
  simp only [jJ]
  split
  ·rename_i hr
   have hsame : a.tmps.setIfInBounds r (a.tmps.getD r undef) = a.tmps := by
    apply Array.ext_getElem?
    intro k
    by_cases hk : r = k
    ·subst hk
     by_cases hlt' : r < a.tmps.size
     ·simp [hlt']
     ·simp [hlt']
    ·rw [Array.getElem?_setIfInBounds_ne hk]
   split
   ·have hv : Rel C (.ae (T - Lz) []) (a.tmps.getD r undef) := by
     rcases Nat.lt_or_ge r s.bf.length with hlt | hge
     ·have hv := hs.bf.2 r hlt
      rw [hr] at hv
      rw [aR hv]
      refine gg rfl rfl ?_ hI
      simp only [M]
      exact ⟨trivial, none, 0, rfl, Nat.le_refl _, fun h => absurd rfl h⟩
     ·rw [lO _ _ hge] at hr; cases hr
    have hput := hs.bf.put hv (d := r)
    rw [hsame] at hput
    obtain ⟨C', g1, g2, g3, g4⟩ := ko l (s := { bf := cC s.bf r (.ae (T - Lz) []), st := s.st }) (a := a) hI ⟨hs.st, hput⟩
    exact ⟨C', g1, g2, g3, g4⟩
   obtain ⟨h1, h2⟩ := DN hI T
   have hst := hs.step hI h2
   rcases Nat.lt_or_ge r s.bf.length with hlt | hge
   ·have hv := hs.bf.2 r hlt
    rw [hr] at hv
    have hv' := aR hv
    have hrel : Rel (C.add (.row T []) ⟨C.w.heap.size, 0, true⟩ C.w) (.a7 C.st.length 0 0) (a.tmps.getD r undef) := by
     rw [hv']
     refine gg rfl rfl ?_ h1
     simp only [M]
     exact ⟨by simp [Ctx.add], _, rfl, rfl, wz T⟩
    have hput := hst.bf.put hrel (d := r)
    rw [hsame] at hput
    obtain ⟨C', g1, g2, g3, g4⟩ := ko l (s := { bf := cC s.bf r (.a7 s.st.length 0 0), st := s.st ++ [.row T []] }) (a := a) h1
     ⟨by simp [Ctx.add, hs.st], by rw [← hs.st]; exact hput⟩
    exact ⟨C', g1, g2, g3, h2.trans g4 (by simp [Ctx.add])⟩
   ·rw [lO _ _ hge] at hr; cases hr
  ·exact ko l hI hs
theorem FE {C : Ctx} {s : S} {a : Act} (P : Program) (i : Nat) (hI : Inv C) (hs : dn C s a) : ∃ C', C'.w = C.w ∧ Inv C' ∧ dn C' (Dg P i s) a ∧ Ext C.st.length C C' := by
 unfold Dg
 split
 ·rename_i Tb hst
  split
  ·rename_i Te _
   obtain ⟨h1, h2⟩ := DN hI Te
   rw [← hs.st] at hst
   have hi : i < C.st.length := by
    rcases Nat.lt_or_ge i C.st.length with h | h
    ·exact h
    ·rw [dY _ _ h] at hst; cases hst
   generalize hC1 : C.add (.row Te []) ⟨C.w.heap.size, 0, true⟩ C.w = C1 at *
   have hw1 : C1.w = C.w := by rw [← hC1]; rfl
   have hl1 : C1.st.length = C.st.length + 1 := by rw [← hC1]; simp [Ctx.add]
   have hn1 : aD C1.st i = .box Tb (.lit (.slice none 0 0)) := by rw [← hC1, (cF hi).1]; exact hst
   have hι1 : C1.ι i = C.ι i := by rw [← hC1]; exact (cF hi).2
   have hslc : oI C1 C.st.length 0 0 (.slice none 0 0) := by rw [← hC1]; exact wz Te
   have hob := h1.obj i (by omega)
   rw [hn1] at hob
   obtain ⟨g1, g2, c, e, g3, g4, g5⟩ := hob
   have hr : cd C1 (C1.eX i (.box Tb (.a7 C.st.length 0 0)) C1.w) i i := pT (by omega) hn1 Tb _ rfl rfl
   have hk : bL C1 (C1.eX i (.box Tb (.a7 C.st.length 0 0)) C1.w) := ⟨rfl, fun _ h => h, fun _ _ => rfl⟩
   have hupd := jI h1 (i := i) (by omega) (o := .box Tb (.a7 C.st.length 0 0)) (w := C1.w) (by rw [hn1]; rfl) rfl ⟨rfl, rfl, rfl⟩ (fun _ _ => rfl) hr (by
    refine ⟨g1, rfl, c, e, g3, by simpa [wid] using g4, ?_⟩
    simp only [M] at g5 ⊢
    refine ⟨by simp only [Ctx.eX, bd]; omega, _, g5.1, rfl, ?_⟩
    refine oI.move hk (ea (by simp only [Ctx.eX, bd]; omega) (bK _ _ _ _ (by omega)) rfl (fun _ => rfl)) hslc)
   refine ⟨C1.eX i (.box Tb (.a7 C.st.length 0 0)) C1.w, hw1, hupd.1, ?_, h2.trans hupd.2 (by omega)⟩
   have := (hs.step hI h2).step h1 hupd.2
   refine ⟨?_, this.bf⟩
   simp only [Ctx.eX, ← hC1, Ctx.add, hs.st]
   have : ∀ (l m : List Obj) (i : Nat) (x : Obj), i < l.length → dU (l ++ m) i x = dU l i x ++ m := by
    intro l; induction l with
    | nil => intro m i x h; simp at h
    | cons a l ih =>
     intro m i x h
     cases i with
     | zero => rfl
     | succ i => simp only [List.cons_append, dU]; rw [ih m i x (by simpa using h)]
   exact this _ _ _ _ (by rw [← hs.st]; exact hi)
  ·exact ⟨C, rfl, hI, hs, Ext.refl C (Nat.le_refl _)⟩
 ·exact ⟨C, rfl, hI, hs, Ext.refl C (Nat.le_refl _)⟩
theorem nE (P : Program) : ∀ (is : List Nat) {C : Ctx} {s : S} {a : Act}, Inv C → dn C s a → ∃ C', C'.w = C.w ∧ Inv C' ∧ dn C' (nB P is s) a ∧ Ext C.st.length C C'
 | [], C, s, a, hI, hs => ⟨C, rfl, hI, hs, Ext.refl C (Nat.le_refl _)⟩
 | i :: is, C, s, a, hI, hs => by
  simp only [nB]
  obtain ⟨C1, g1, g2, g3, g4⟩ := FE P i hI hs
  obtain ⟨C2, g5, g6, g7, g8⟩ := nE P is g2 g3
  refine ⟨C2, g5.trans g1, g6, g7, g4.trans g8 ?_⟩
  rcases Nat.eq_zero_or_pos C.st.length with h | h
  ·omega
  ·have := (g4.refs (C.st.length - 1) (by omega)).lt; omega
theorem vP {C : Ctx} {s : S} {a : Act} (P : Program) (live : List (Nat × Option TypeId)) {base : Nat} (hI : Inv C) (hs : dn C s a) (hb : base ≤ s.st.length) (hok : iZ P live base s = true) :
  ∃ C', C'.w = C.w ∧ Inv C' ∧ dn C' (canon P live base s) a ∧ Ext base C C' ∧ base ≤ (canon P live base s).st.length := by
 obtain ⟨C1, g1, g2, g3, g4⟩ := ko live hI (s := { s with bf := fJ live s.bf 0 }) ⟨hs.st, Bv hs.bf⟩
 obtain ⟨C2, g5, g6, g7, g8⟩ := nE P (upto (jJ live { s with bf := fJ live s.bf 0 }).st.length) g2 g3
 have hpre : dn C2 (gQ P live s) a := g7
 unfold iZ at hok
 rw [← hpre.st] at hok
 obtain ⟨h1, h2, h3⟩ := uv g6 hok
 have hl1 : C.st.length ≤ C1.st.length := by
  rcases Nat.eq_zero_or_pos C.st.length with h | h
  ·omega
  ·have := (g4.refs (C.st.length - 1) (by omega)).lt; omega
 have hl2 : C1.st.length ≤ C2.st.length := by
  rcases Nat.eq_zero_or_pos C1.st.length with h | h
  ·omega
  ·have := (g8.refs (C1.st.length - 1) (by omega)).lt; omega
 have hsl : s.st.length = C.st.length := by rw [hs.st]
 refine ⟨C2.by (gP base C2.st (cP (gQ P live s).bf)), g5.trans g1, h1, ?_, (g4.mono (by omega)).trans ((g8.mono (by omega)).trans h2 (Nat.le_refl _)) (Nat.le_refl _), ?_⟩
 ·refine ⟨?_, ?_⟩
  ·simp only [canon, te, Ctx.by, hpre.st]
  ·simp only [canon, te]
   rw [← hpre.st]
   exact hpre.bf.move h2.keeps g6.lay _ (fun i hi _ => by obtain ⟨j, hj⟩ := h3 i hi; exact ⟨j, hj, lj hj⟩)
 ·have hrefs := h2.refs
  have e : (canon P live base s).st.length = (C2.by (gP base C2.st (cP (gQ P live s).bf))).st.length := by
   simp only [canon, te, Ctx.by, hpre.st]
  rw [e]
  rcases Nat.eq_zero_or_pos base with h | h
  ·omega
  ·have := (hrefs (base - 1) (by omega)).lt; omega
end Go.Dn
