import Derived.Test.YtdpmikfheebicaaGreatDoorDnG
namespace Go.Dn
open Go
theorem mX : ∀ (l : List Field) (j : Nat), pw l j = l[j]?
 | [], _ => by simp [pw]
 | _ :: _, 0 => by simp [pw]
 | _ :: l, j + 1 => by simp [pw, mX l j]
theorem nV {P : Program} {T : TypeId} {j : Nat} {fd : Field} (h : pw (fieldsOf P T) j = some fd) :
  ∃ fs, P.underlying T = some (.struct fs) ∧ fs[j]? = some fd := by
 unfold fieldsOf at h
 split at h
 ·rename_i fs hfs
  rw [mX] at h
  exact ⟨fs, hfs, by simpa using h⟩
 ·simp [pw] at h
theorem Cp {P : Program} {T : TypeId} (h : P.cellsOf T ≠ 0) : ∃ i, P.info? T = some i ∧ i.size = P.cellsOf T := by
 unfold Program.cellsOf at h ⊢
 cases hi : P.info? T with
 | none => simp [hi] at h
 | some i => exact ⟨i, rfl, by simp⟩
theorem AM {P : Program} {w : World} {T : TypeId} (h : P.cellsOf T ≠ 0) : (sizeOf T).run P w = .ok (P.cellsOf T) w := by
 obtain ⟨i, hi, hs⟩ := Cp h
 simp [sizeOf, typeInfo, hi, hs]
theorem Aw {C : Ctx} {i k off : Nat} {v : Value} (hl : pP C.st i = true) (hp : qh C i k off v) : ∃ b o, v = .pointer (some ⟨b, o, none⟩) := by
 unfold pP at hl
 cases hx : aD C.st i with
 | box Tb a => obtain ⟨_, rfl⟩ := hp.2.1 Tb a hx; exact ⟨_, _, rfl⟩
 | row T0 xs => obtain ⟨_, rfl⟩ := hp.1 T0 xs (by rw [hx]; rfl); exact ⟨_, _, rfl⟩
 | ow T0 xs => obtain ⟨_, rfl⟩ := hp.1 T0 xs (by rw [hx]; rfl); exact ⟨_, _, rfl⟩
 | dead => simp [hx] at hl
 | map _ _ _ => simp [hx] at hl
 | loop _ => simp [hx] at hl
 | iter _ _ _ => simp [hx] at hl
 | ext _ => simp [hx] at hl
 | db _ _ => simp [hx] at hl
theorem sE {C : Ctx} (hI : Inv C) {T : TypeId} {p x : AV} {f : Nat} {c : Bool} {vp : Value} (h : iI C.P C.st T p f = some (c, x)) (hr : Rel C p vp) :
  ∃ v, (Instr.fieldAt T vp f).run C.P C.w = .ok v C.w ∧ Rel C x v := by
 unfold iI at h
 split at h
 ·simp at h
 rename_i fd hfd
 obtain ⟨fs, hfs, hf⟩ := nV hfd
 split at h
 ·simp at h
 rename_i hz
 have hsz := AM (P := C.P) (w := C.w) hz
 have run : ∀ b o, (Instr.fieldAt T (.pointer (some ⟨b, o, none⟩)) f).run C.P C.w = .ok (.pointer (some ⟨b, o + fd.offset, none⟩)) C.w := by
  intro b o
  simp [Instr.fieldAt, run_underlying hfs, hf, Instr.sureAddr, fieldPlace, hsz, hz, gS]
 split at h
 ·rename_i i k path off
  split at h
  ·rename_i hlive
   simp only [aa3, aa9] at h
   obtain ⟨_, rfl⟩ := h
   obtain ⟨hi, hp⟩ := ml hr
   obtain ⟨b, o, rfl⟩ := Aw hlive hp
   refine ⟨_, run b o, gg rfl rfl ?_ hI⟩
   simp only [M]
   refine ⟨hi, _, rfl, rfl, fun T0 xs hx => ?_, fun T0 a hx => ?_, fun _ _ _ hx => (by simp [pP, hx] at hlive), fun _ _ hx => (by simp [pP, hx] at hlive)⟩
   ·obtain ⟨h1, h2⟩ := hp.1 T0 xs hx
    simp only [Value.pointer.injEq, aa3, Addr.mk.injEq] at h2 ⊢
    exact ⟨h1, h2.1, by omega, trivial⟩
   ·obtain ⟨h1, h2⟩ := hp.2.1 T0 a hx
    simp only [Value.pointer.injEq, aa3, Addr.mk.injEq] at h2 ⊢
    exact ⟨h1, h2.1, by omega, trivial⟩
  ·simp at h
 ·rename_i T0 a
  split at h
  ·rename_i l hl
   split at h
   ·rename_i hc
    simp only [aa1, aa0, beq_iff_eq] at hc
    obtain ⟨⟨rfl, h2⟩, h3⟩ := hc
    simp only [aa3, aa9] at h
    obtain ⟨_, rfl⟩ := h
    obtain ⟨b, off, rfl, hX, ht, hm⟩ := zx hr
    obtain ⟨hE, hTE⟩ := lD hI.lay cj T0 _ _ _ ht hm
    rw [hl] at hE hTE
    refine ⟨_, run b off, gg rfl rfl ?_ hI⟩
    simp only [M]
    simp only [bE] at hTE
    obtain ⟨fs', ⟨h4, _⟩, h5⟩ := hTE
    rw [hfs] at h4
    simp only [aa3, TypeDesc.struct.injEq] at h4
    subst h4
    have hfd' : pw fs.toList f = some fd := by rw [mX]; simpa using hf
    obtain ⟨_, h6⟩ := xk l fs.toList f fd h5 hfd'
    have h7 := AB l f _ off h2 (by simpa [M] using hE)
    rw [h3] at h7
    exact ⟨b, off + fd.offset, rfl, hX, h6, h7⟩
   ·simp at h
  ·simp at h
 ·simp at h
theorem qs {C : Ctx} {a : AV} {k : IntKind} {n : Int} {v : Value} (h : Nk a = some (k, n)) (hr : Rel C a v) : v = .int k n := by
 unfold Nk at h
 split at h
 ·simp only [aa3, aa9] at h
  obtain ⟨rfl, rfl⟩ := h
  exact aR hr
 ·simp at h
theorem zE {C : Ctx} {T : TypeId} {p i x : AV} {vp vi : Value} (h : De C.P T p i = some (true, x)) (hr : Rel C p vp) (hri : Rel C i vi) :
  ∃ v, (Instr.index T vp vi).run C.P C.w = .ok v C.w ∧ Rel C x v := by
 unfold De at h
 split at h
 ·rename_i s k n hT hn
  have := qs hn hri; subst this
  have := aR hr; subst this
  simp only [aa3, aa9, aa1, aa0] at h
  obtain ⟨⟨h1, h2⟩, rfl⟩ := h
  have hlt : n.toNat < s.size := by omega
  have hb : s[n.toNat]? = some s[n.toNat] := getElem?_pos s n.toNat hlt
  refine ⟨.int .u8 (iM s n.toNat), ?_, bc rfl⟩
  simp only [Instr.index, Sem.run_bind, asIntOf, Sem.run_pure, Result.andThen_ok, run_underlying hT, if_pos h1, iM, hb]
 ·cases h
theorem sJ {C : Ctx} (hI : Inv C) {s : S} (hs : C.st = s.st) {T : TypeId} {p i x : AV} {vp vi : Value} (h : gZ C.P s T p i = some (true, x)) (hr : Rel C p vp) (hri : Rel C i vi) :
  ∃ v, (Instr.indexAt T vp vi).run C.P C.w = .ok v C.w ∧ Rel C x v := by
 unfold gZ at h
 split at h
 ·rename_i E k n hT hn
  have := qs hn hri; subst this
  split at h
  ·rename_i E' l
   split at h
   ·rename_i hE
    obtain ⟨rfl, hu⟩ := hE
    simp only [aa3, aa9, aa1, aa0] at h
    obtain ⟨⟨h0, h1⟩, rfl⟩ := h
    obtain ⟨hpt, q, cap, rfl, hcap, hne⟩ := qB hr
    have hk : n.toNat < l.length := by omega
    obtain ⟨b, off, rfl, hX, hm⟩ := hne (by intro e; subst e; simp at hk)
    have hp := nJ l n.toNat E hk hpt
    have hm' := Bx l n.toNat _ _ _ hk hm
    obtain ⟨d, hd⟩ := Option.isSome_iff_exists.1 hu
    have hsz := run_sizeOf (w := C.w) hd
    refine ⟨.pointer (some ⟨b, off + n.toNat * C.P.cellsOf E, none⟩), ?_, gg rfl rfl ?_ hI⟩
    ·simp [Instr.indexAt, asIntOf, run_underlying hT, h0, h1, hsz, gS]
    ·simp only [M]
     exact ⟨b, _, rfl, hX, hp, hm'⟩
   ·simp at h
  ·rename_i j lo len
   split at h
   ·rename_i E' xs hel
    split at h
    ·rename_i hE
     obtain ⟨rfl, hu⟩ := hE
     simp only [aa3, aa9, aa1, aa0] at h
     obtain ⟨⟨h0, h1⟩, rfl⟩ := h
     obtain ⟨hj, hsl⟩ := mf hr
     rw [← hs] at hel
     obtain ⟨hlen, hv⟩ := hsl E xs hel
     rcases hv with ⟨_, _, _, rfl⟩ | ⟨hnn, cap, q, rfl, hq, hc1, hc2⟩
     ·simp at h1; omega
     ·obtain ⟨d, hd⟩ := Option.isSome_iff_exists.1 hu
      have hsz := run_sizeOf (w := C.w) hd
      have hq' := hq.resolve_right (by omega)
      subst hq'
      refine ⟨.pointer (some ⟨(C.ι j).block, (lo + n.toNat) * C.P.cellsOf E, none⟩), ?_, gg rfl rfl ?_ hI⟩
      ·simp [Instr.indexAt, asIntOf, run_underlying hT, h0, h1, hsz, gS, Nat.add_mul]
      ·simp only [M]
       refine ⟨hj, _, rfl, rfl, fun T0 ys hx => ?_, fun T0 a hx => ?_, fun _ _ _ hx => (by rw [hx] at hel; simp [iE] at hel), fun _ _ hx => (by rw [hx] at hel; simp [iE] at hel)⟩
       ·rw [hel] at hx
        simp only [aa3, aa9] at hx
        obtain ⟨rfl, rfl⟩ := hx
        exact ⟨by omega, rfl⟩
       ·rw [hx] at hel; simp [iE] at hel
    ·simp at h
   ·simp at h
  ·simp at h
 ·simp at h
theorem rU {C : Ctx} {s : S} {a : Act} (hs : dn C s a) {o : Option Operand} {d : Nat} {n : Int} (h : fD s o d = some n) :
  (o = none ∧ n = d) ∨ ∃ x k, o = some x ∧ a.eval x = .int k n := by
 unfold fD at h
 cases o with
 | none => simp only [aa3] at h; exact .inl ⟨rfl, h.symm⟩
 | some x =>
  simp only [Option.map_eq_some_iff] at h
  obtain ⟨⟨k, m⟩, h1, rfl⟩ := h
  exact .inr ⟨x, k, rfl, qs h1 (bp hs x)⟩
theorem gV {P : Program} {w : World} {isS : Bool} {len cap : Nat} {lo hi : Option Value} {l h : Int} (hlo : (lo = none ∧ l = 0) ∨ ∃ k, lo = some (.int k l)) (hhi : (hi = none ∧ h = len) ∨ ∃ k, hi = some (.int k h))
  (h1 : 0 ≤ l) (h2 : l ≤ h) (h3 : h ≤ cap) : (Instr.sliceBounds isS len cap lo hi none).run P w = .ok (l.toNat, h.toNat, cap) w := by
 rcases hlo with ⟨rfl, rfl⟩ | ⟨k, rfl⟩ <;> rcases hhi with ⟨rfl, rfl⟩ | ⟨k', rfl⟩
 ·simp [Instr.sliceBounds]
 ·simp [Instr.sliceBounds, Instr.sliceBound, asIntOf, h3, show 0 ≤ h by omega]
 ·simp [Instr.sliceBounds, Instr.sliceBound, asIntOf, h1, h2]
 ·obtain ⟨m, rfl⟩ := Int.eq_ofNat_of_zero_le (show 0 ≤ h by omega)
  simp [Instr.sliceBounds, Instr.sliceBound, asIntOf, h1, h2, show m ≤ cap by omega]
theorem iP {P : Program} {T : TypeId} : ∀ (l : List AV) (n : Nat), bW P l T → bW P (l.take n) T
 | _, 0, _ => by simp [bW]
 | [], _ + 1, _ => by simp [bW]
 | a :: l, n + 1, h => by simp only [bW] at h; simpa [bW] using ⟨h.1, iP l n h.2⟩
theorem j5 {P : Program} {T : TypeId} : ∀ (l : List AV) (n : Nat), bW P l T → bW P (l.drop n) T
 | _, 0, h => by simpa using h
 | [], _ + 1, _ => by simp [bW]
 | a :: l, n + 1, h => by simp only [bW] at h; simpa using j5 l n h.2
theorem pY {C : Ctx} : ∀ (l : List AV) (n z : Nat) (s : Src) (o : Nat), MR C l z s o → MR C (l.take n) z s o
 | _, 0, _, _, _, _ => by simp [MR]
 | [], _ + 1, _, _, _, _ => by simp [MR]
 | a :: l, n + 1, z, s, o, h => by simp only [MR] at h; simpa [MR] using ⟨h.1, pY l n z s _ h.2⟩
theorem sX {C : Ctx} : ∀ (l : List AV) (n z : Nat) (s : Src) (o : Nat), MR C l z s o → MR C (l.drop n) z s (o + n * z)
 | _, 0, _, _, _, h => by simpa using h
 | [], _ + 1, _, _, _, _ => by simp [MR]
 | a :: l, n + 1, z, s, o, h => by
  simp only [MR] at h
  have := sX l n z s (o + z) h.2
  simp only [List.drop_succ_cons]
  rwa [show o + (n + 1) * z = o + z + n * z by rw [Nat.add_mul]; omega]
theorem BB {C : Ctx} (hI : Inv C) {s : S} {a : Act} (hs : dn C s a) {T : TypeId} {p x : AV} {lo hi : Option Operand} {vp : Value} (h : o4 C.P s T p lo hi = some (true, x)) (hr : Rel C p vp) :
  ∃ v, (Instr.sliceAt T vp (lo.map a.eval) (hi.map a.eval) none).run C.P C.w = .ok v C.w ∧ Rel C x v := by
 have lom : ∀ {n : Int}, fD s lo 0 = some n → ((lo.map a.eval) = none ∧ n = 0) ∨ ∃ k, lo.map a.eval = some (.int k n) := by
  intro n hb
  rcases rU hs hb with ⟨h1, h2⟩ | ⟨x, k, h1, h2⟩
  ·exact .inl ⟨by simp [h1], by simpa using h2⟩
  ·exact .inr ⟨k, by simp [h1, h2]⟩
 have him : ∀ {n : Int} {d : Nat}, fD s hi d = some n → ((hi.map a.eval) = none ∧ n = d) ∨ ∃ k, hi.map a.eval = some (.int k n) := by
  intro n d hb
  rcases rU hs hb with ⟨h1, h2⟩ | ⟨x, k, h1, h2⟩
  ·exact .inl ⟨by simp [h1], h2⟩
  ·exact .inr ⟨k, by simp [h1, h2]⟩
 unfold o4 at h
 split at h
 ·rename_i b
  split at h
  ·rename_i l hh hT hlo hhi
   simp only [aa3, aa9, aa1, aa0] at h
   obtain ⟨⟨⟨h1, h2⟩, h3⟩, rfl⟩ := h
   have := aR hr; subst this
   have hb := gV (P := C.P) (w := C.w) (isS := false) (lom hlo) (him hhi) h1 h2 h3
   exact ⟨_, by simp [Instr.sliceAt, Instr.slice, run_underlying hT, hb], bc rfl⟩
  ·simp at h
 ·rename_i E l0
  split at h
  ·rename_i E' l hh hT hlo hhi
   split at h
   ·rename_i hE
    obtain ⟨rfl, hu⟩ := hE
    simp only [aa3, aa9, aa1, aa0] at h
    obtain ⟨⟨⟨h1, h2⟩, h3⟩, rfl⟩ := h
    obtain ⟨hpt, q, cap, rfl, hcap, hne⟩ := qB hr
    obtain ⟨d, hd⟩ := Option.isSome_iff_exists.1 hu
    have hz := run_sizeOf (w := C.w) hd
    have hb := gV (P := C.P) (w := C.w) (isS := true) (cap := cap) (lom hlo) (him hhi) h1 h2 (by omega)
    have hlen : ((l0.take hh.toNat).drop l.toNat).length = hh.toNat - l.toNat := by simp; omega
    refine ⟨.slice (if cap = l.toNat then q else q.map (·.add (l.toNat * C.P.cellsOf E))) (hh.toNat - l.toNat) (cap - l.toNat), by simp [Instr.sliceAt, Instr.slice, run_underlying hT, hb, hz], gg rfl rfl ?_ hI⟩
    simp only [M]
    refine ⟨j5 _ _ (iP _ _ hpt), _, _, by rw [hlen], by rw [hlen]; omega, fun hne' => ?_⟩
    have hpos : 0 < hh.toNat - l.toNat := by
     rw [← hlen]; exact List.length_pos_iff.2 hne'
    obtain ⟨b, off, rfl, hX, hm⟩ := hne (by intro e; subst e; simp at h3; omega)
    rw [if_neg (by omega)]
    exact ⟨b, off + l.toNat * C.P.cellsOf E, by simp [gS], hX, sX _ _ _ _ _ (pY _ _ _ _ _ hm)⟩
   ·simp at h
  ·simp at h
 ·rename_i i lo0 n
  split at h
  ·rename_i E' E xs l hh hT hel hlo hhi
   split at h
   ·rename_i hE
    obtain ⟨rfl, hu⟩ := hE
    simp only [aa3, aa9, aa1, aa0] at h
    obtain ⟨⟨⟨h1, h2⟩, h3⟩, rfl⟩ := h
    obtain ⟨hi', hsl⟩ := mf hr
    obtain ⟨d, hd⟩ := Option.isSome_iff_exists.1 hu
    have hz := run_sizeOf (w := C.w) hd
    rw [← hs.st] at hel
    obtain ⟨hlen, hv⟩ := hsl _ xs hel
    rcases hv with ⟨hnil, rfl, rfl, rfl⟩ | ⟨hnn, cap, q, rfl, hq, hc1, hc2⟩
    ·have hl0 : l = 0 := by simp at h3; omega
     have hh0 : hh = 0 := by simp at h3; omega
     subst hl0; subst hh0
     have hb := gV (P := C.P) (w := C.w) (isS := true) (cap := 0) (lom hlo) (him hhi) h1 h2 (by simp)
     refine ⟨.slice none 0 0, by simp [Instr.sliceAt, Instr.slice, run_underlying hT, hb, hz], gg rfl rfl ?_ hI⟩
     simp only [M]
     refine ⟨hi', _, rfl, rfl, fun T0 ys hx => ?_⟩
     rw [hel] at hx
     simp only [aa3, aa9] at hx
     obtain ⟨rfl, rfl⟩ := hx
     exact ⟨by simp, .inl ⟨hnil, rfl, by simp, by simp⟩⟩
    ·have hb := gV (P := C.P) (w := C.w) (isS := true) (cap := cap) (lom hlo) (him hhi) h1 h2 (by omega)
     refine ⟨.slice (if cap = l.toNat then some q else some (q.add (l.toNat * C.P.cellsOf E))) (hh.toNat - l.toNat) (cap - l.toNat), by simp [Instr.sliceAt, Instr.slice, run_underlying hT, hb, hz], gg rfl rfl ?_ hI⟩
     simp only [M]
     refine ⟨hi', _, rfl, rfl, fun T0 ys hx => ?_⟩
     rw [hel] at hx
     simp only [aa3, aa9] at hx
     obtain ⟨rfl, rfl⟩ := hx
     have e1 : hh.toNat - l.toNat = (hh - l).toNat := by omega
     refine ⟨by omega, .inr ⟨hnn, cap - l.toNat, _, by rw [← apply_ite some, e1], ?_, by omega, by omega⟩⟩
     by_cases hml : cap = l.toNat
     ·rw [if_pos hml]
      by_cases hl0 : l.toNat = 0
      ·rcases hq with rfl | ⟨_, h⟩
       ·left; simp [hl0]
       ·right; exact ⟨by omega, by omega⟩
      ·right; exact ⟨by omega, by omega⟩
     ·rw [if_neg hml]
      left
      have hq' := hq.resolve_right (by omega)
      rw [hq', gS, Nat.add_mul]
   ·simp at h
  ·simp at h
 ·simp at h
end Go.Dn
