import Derived.Test.YtdpmikfheebicaaGreatDoorDnF
namespace Go.Dn
open Go
theorem gl {C : Ctx} {a : AV} {v : Value} (h : Rel C a v) (ha : bP a = false) (hj : a ≠ .cw) : v.cells = #[v] ∧ gi v = false := by
 have h1 := h.1.resolve_right hj
 rw [ha] at h1
 exact ⟨kZ h1, h1⟩
theorem aR {C : Ctx} {u v : Value} (h : Rel C (.lit u) v) : v = u := by
 have h1 := gl h rfl (by simp)
 have h2 := h.2.2
 simp only [M] at h2
 rw [h1.1] at h2
 simpa using h2.1
theorem ml {C : Ctx} {i k off : Nat} {p : List Nat} {v : Value} (h : Rel C (.ptr i k p off) v) : i < C.st.length ∧ qh C i k off v := by
 have h1 := gl h rfl (by simp)
 have h2 := h.2.2
 simp only [M] at h2
 rw [h1.1] at h2
 obtain ⟨hi, u, hu, _, hp⟩ := h2
 simp at hu; subst hu
 exact ⟨hi, hp⟩
theorem mf {C : Ctx} {i lo n : Nat} {v : Value} (h : Rel C (.a7 i lo n) v) : i < C.st.length ∧ oI C i lo n v := by
 have h1 := gl h rfl (by simp)
 have h2 := h.2.2
 simp only [M] at h2
 rw [h1.1] at h2
 obtain ⟨hi, u, hu, _, hp⟩ := h2
 simp at hu; subst hu
 exact ⟨hi, hp⟩
theorem rL {C : Ctx} {i : Nat} {v : Value} (h : Rel C (.mp i) v) : i < C.st.length ∧ Ha C i v := by
 have h1 := gl h rfl (by simp)
 have h2 := h.2.2
 simp only [M] at h2
 rw [h1.1] at h2
 obtain ⟨hi, u, hu, _, hp⟩ := h2
 simp at hu; subst hu
 exact ⟨hi, hp⟩
theorem Kv {C : Ctx} {T : TypeId} {a : AV} {v : Value} (h : Rel C (.jb T a) v) : ∃ u, v = .iface T u := by
 have hl := h.2.1.resolve_right (by simp)
 have ha := h.1.resolve_right (by simp)
 have hc := kZ (v := v) (by rw [ha]; rfl)
 have hm := h.2.2
 simp only [M] at hm
 obtain ⟨u, h1, _⟩ := hm
 rw [hc] at h1
 exact ⟨u, by simpa using h1⟩
theorem yl {C : Ctx} {i : Nat} {v : Value} (h : Rel C (.dv i) v) : i < C.st.length ∧ wy C i v := by
 have h1 := gl h rfl (by simp)
 have h2 := h.2.2
 simp only [M] at h2
 rw [h1.1] at h2
 obtain ⟨hi, u, hu, _, hp⟩ := h2
 simp at hu; subst hu
 exact ⟨hi, hp⟩
theorem KT {C : Ctx} {i : Nat} {k v : Value} (h : Rel C (.kr i k) v) : i < C.st.length ∧ tX C i k v := by
 have h1 := gl h rfl (by simp)
 have h2 := h.2.2
 simp only [M] at h2
 rw [h1.1] at h2
 obtain ⟨hi, u, hu, _, hp⟩ := h2
 simp at hu; subst hu
 exact ⟨hi, hp⟩
theorem qB {C : Ctx} {T : TypeId} {l : List AV} {v : Value} (h : Rel C (.ae T l) v) : bW C.P l T ∧ ∃ p cap, v = .slice p l.length cap ∧ l.length ≤ cap ∧
  (l ≠ [] → ∃ b off, p = some ⟨b, off, none⟩ ∧ C.X b ∧ MR C l (C.P.cellsOf T) (cellAt C.w b) off) := by
 have h1 := gl h rfl (by simp)
 have h2 := h.2.2
 simp only [M] at h2
 rw [h1.1] at h2
 obtain ⟨hp, p, cap, hu, h3⟩ := h2
 simp at hu; subst hu
 exact ⟨hp, p, cap, rfl, h3⟩
theorem zx {C : Ctx} {T : TypeId} {a : AV} {v : Value} (h : Rel C (.jH T a) v) : ∃ b off, v = .pointer (some ⟨b, off, none⟩) ∧ C.X b ∧ bE C.P a T ∧ M C a (cellAt C.w b) off := by
 have h1 := gl h rfl (by simp)
 have h2 := h.2.2
 simp only [M] at h2
 rw [h1.1] at h2
 obtain ⟨b, off, hu, h3⟩ := h2
 simp at hu; subst hu
 exact ⟨b, off, rfl, h3⟩
theorem y4 {C : Ctx} {l : List AV} {v : Value} (h : Rel C (.bR l) v) : ∃ vs, v = .tuple vs ∧ MT C l vs.toList := by
 have h1 := gl h rfl (by simp)
 have h2 := h.2.2
 simp only [M] at h2
 rw [h1.1] at h2
 obtain ⟨vs, hu, h3⟩ := h2
 simp at hu; subst hu
 exact ⟨vs, rfl, h3⟩
theorem sP {C : Ctx} {f : FuncId} {l : List AV} {v : Value} (h : Rel C (.dq f l) v) : ∃ vs, v = .func (.func f) #[] vs ∧ MT C l vs.toList := by
 have h1 := gl h rfl (by simp)
 have h2 := h.2.2
 simp only [M] at h2
 rw [h1.1] at h2
 obtain ⟨vs, hu, h3⟩ := h2
 simp at hu; subst hu
 exact ⟨vs, rfl, h3⟩
theorem Dh {C : Ctx} {l : List AV} {v : Value} (h : Rel C (.agg l) v) : ∃ cs : Array Value, v = .agg cs ∧ cs.size = eG l ∧ ML C l (fun j => cs[j]?) 0 := by
 have h1 := h.1.resolve_right (by simp)
 have h2 := h.2.1.resolve_right (by simp)
 have h3 := h.2.2
 cases v <;> simp [gi, bP] at h1
 rename_i cs
 simp only [Value.cells, wid] at h2
 simp only [M, Value.cells] at h3
 exact ⟨cs, rfl, h2, h3⟩
theorem gg {C : Ctx} {a : AV} {v : Value} (ha : bP a = false) (hv : gi v = false) (h : M C a (fun _ => some v) 0 ) (hI : Inv C) : Rel C a v := by
 have hw : wid a = 1 := by cases a <;> simp_all [bP, wid]
 have hc := kZ hv
 refine ⟨.inl (by rw [ha, hv]), .inl (by rw [hc, hw]; rfl), jr hI (fun j hj => ?_) h⟩
 obtain rfl : j = 0 := by omega
 simp [hc]
theorem Bx {C : Ctx} : ∀ (l : List AV) (k z : Nat) (s : Src) (o : Nat), k < l.length → MR C l z s o → M C (nth l k) s (o + k * z)
 | [], _, _, _, _, h, _ => by simp at h
 | a :: l, 0, z, s, o, _, h => by simp only [MR] at h; simpa [nth] using h.1
 | a :: l, k + 1, z, s, o, hk, h => by
  simp only [MR] at h
  have := Bx l k z s (o + z) (by simpa using hk) h.2
  simp only [nth]
  rwa [show o + (k + 1) * z = o + z + k * z by rw [Nat.add_mul]; omega]
theorem nJ {P : Program} : ∀ (l : List AV) (k : Nat) (T : TypeId), k < l.length → bW P l T → bE P (nth l k) T
 | [], _, _, h, _ => by simp at h
 | a :: l, 0, T, _, h => by simp only [bW] at h; simpa [nth] using h.1
 | a :: l, k + 1, T, hk, h => by
  simp only [bW] at h
  simpa [nth] using nJ l k T (by simpa using hk) h.2
theorem uq : ∀ (l : List AV) (j : Nat), j < l.length → dT l = true → cH (nth l j) = true
 | [], _, h, _ => by simp at h
 | a :: l, 0, _, h => by
  simp only [dT, aa1] at h
  exact h.1
 | a :: l, j + 1, hj, h => by
  simp only [dT, aa1] at h
  simpa [nth] using uq l j (by simpa using hj) h.2
theorem xw : ∀ (p : List Nat) (a : AV), qQ a p = true → cH a = true → cH (pJ a p) = true
 | [], a, _, h => by cases a <;> exact h
 | j :: p, .agg l, hp, h => by
  simp only [qQ, aa1, aa0] at hp
  simp only [pJ, ad]
  exact xw p (nth l j) hp.2 (uq l j hp.1 h)
 | _ :: _, .cw, hp, _ | _ :: _, .lit _, hp, _ | _ :: _, .ae _ _, hp, _ | _ :: _, .bR _, hp, _ | _ :: _, .a7 _ _ _, hp, _
 | _ :: _, .ptr _ _ _ _, hp, _ | _ :: _, .jH _ _, hp, _ | _ :: _, .mp _, hp, _ | _ :: _, .dv _, hp, _ | _ :: _, .kr _ _, hp, _
 | _ :: _, .dq _ _, hp, _ | _ :: _, .jb _ _, hp, _ => by simp [qQ] at hp
theorem gU {C : Ctx} : ∀ {a : AV} {s : Src} {o : Nat}, bP a = false → cH a = true → M C a s o → ∃ v, s o = some v ∧ ba v = true
 | .cw, _, _, _, hs, _ => by simp [cH] at hs
 | .bR _, _, _, _, hs, _ => by simp [cH] at hs
 | .agg _, _, _, ha, _, _ => by simp [bP] at ha
 | .lit _, _, _, _, _, h => by simp only [M] at h; exact ⟨_, h⟩
 | .ae _ _, _, _, _, _, h => by simp only [M] at h; obtain ⟨_, p, cap, h1, _⟩ := h; exact ⟨_, h1, rfl⟩
 | .a7 _ _ _, _, _, _, _, h => by simp only [M] at h; obtain ⟨_, v, h1, h2, _⟩ := h; exact ⟨v, h1, h2⟩
 | .ptr _ _ _ _, _, _, _, _, h => by simp only [M] at h; obtain ⟨_, v, h1, h2, _⟩ := h; exact ⟨v, h1, h2⟩
 | .jH _ _, _, _, _, _, h => by simp only [M] at h; obtain ⟨b, off, h1, _⟩ := h; exact ⟨_, h1, rfl⟩
 | .mp _, _, _, _, _, h => by simp only [M] at h; obtain ⟨_, v, h1, h2, _⟩ := h; exact ⟨v, h1, h2⟩
 | .dv _, _, _, _, _, h => by simp only [M] at h; obtain ⟨_, v, h1, h2, _⟩ := h; exact ⟨v, h1, h2⟩
 | .kr _ _, _, _, _, _, h => by simp only [M] at h; obtain ⟨_, v, h1, h2, _⟩ := h; exact ⟨v, h1, h2⟩
 | .dq _ _, _, _, _, _, h => by simp only [M] at h; obtain ⟨vs, h1, _⟩ := h; exact ⟨_, h1, rfl⟩
 | .jb _ _, _, _, _, _, h => by simp only [M] at h; obtain ⟨u, h1, _⟩ := h; exact ⟨_, h1, rfl⟩
theorem w6 {C : Ctx} (hI : Inv C) {T : TypeId} {b o : Nat} {a : AV} {T0 : TypeId} {p : List Nat} (ht : bE C.P a T0) (hm : M C a (cellAt C.w b) o)
  (hp : qQ a p = true) (hag : kb C.P T = bP (pJ a p)) (hw : wid (pJ a p) = C.P.cellsOf T) (hs : (C.P.underlying T).isSome = true) :
  ∃ v, (loadVar T ⟨b, o + iy a p, none⟩).run C.P C.w = .ok v C.w ∧ Rel C (pJ a p) v := by
 obtain ⟨d, hd⟩ := Option.isSome_iff_exists.1 hs
 refine mr hI hd (Nm p a _ o hp hm) hag hw (fun j hj => ?_)
 have hle := oe p a hp
 obtain ⟨v, h1, h2⟩ := CD a T0 _ o ht hm (iy a p + j) (by omega)
 exact ⟨v, by rw [← h1]; simp only [cellAt]; congr 2; omega, fun _ => h2⟩
theorem uN {C : Ctx} (hI : Inv C) {T : TypeId} {p x : AV} {c : Bool} {vp : Value} (h : nt C.P C.st T p = some (c, x)) (hr : Rel C p vp) :
  ∃ v, (Instr.loadAt T vp).run C.P C.w = .ok v C.w ∧ Rel C x v := by
 cases p <;> simp only [nt] at h <;> try (simp at h; done)
 ·rename_i i k path off
  obtain ⟨hi, hp⟩ := ml hr
  have hob := hI.obj i hi
  split at h
  ·rename_i Tb a hst
   split at h
   ·rename_i hc
    simp only [aa1, beq_iff_eq] at hc
    obtain ⟨⟨⟨⟨h1, h2⟩, h3⟩, h4⟩, h5⟩ := hc
    simp only [aa3, aa9] at h
    obtain ⟨_, rfl⟩ := h
    obtain ⟨rfl, rfl⟩ := hp.2.1 Tb a hst
    rw [hst] at hob
    obtain ⟨_, hsol, cc, e, hh, hsz, hm⟩ := hob
    obtain ⟨d, hd⟩ := Option.isSome_iff_exists.1 h5
    have hM := Nm path a _ 0 h1 hm
    have := mr hI hd (b := (C.ι i).block) hM h3 h4 (fun j hj => by
     have hle := oe path a h1
     cases hag : bP (pJ a path) with
     | false =>
      have hw1 : wid (pJ a path) = 1 := by cases hx : pJ a path <;> simp_all [bP, wid]
      obtain rfl : j = 0 := by omega
      obtain ⟨v, h6, h7⟩ := gU hag (xw path a h1 hsol) hM
      exact ⟨v, h6, fun _ => h7⟩
     | true =>
      have : (C.w.cell? ⟨(C.ι i).block, 0 + iy a path + j, none⟩) = cc[0 + iy a path + j]? := by simp [World.cell?, hh]
      rw [this, Array.getElem?_eq_getElem (by omega)]
      exact ⟨_, rfl, fun e => by cases e⟩)
    simp only [Nat.zero_add, h2] at this
    simpa [Instr.loadAt, Instr.sureAddr] using this
   ·simp at h
  ·rename_i hno
   split at h
   ·rename_i T0 xs hel
    split at h
    ·rename_i hc
     simp only [aa1, beq_iff_eq] at hc
     obtain ⟨⟨⟨⟨h1, h2⟩, h3⟩, h4⟩, h5⟩ := hc
     simp only [aa3, aa9] at h
     obtain ⟨_, rfl⟩ := h
     obtain ⟨hk, rfl⟩ := hp.1 T0 xs hel
     have hrow : bW C.P xs T0 ∧ MR C xs (C.P.cellsOf T0) (cellAt C.w (C.ι i).block) 0 := by
      cases hx : aD C.st i <;> rw [hx] at hel hob <;> simp [iE] at hel
      ·obtain ⟨rfl, rfl⟩ := hel
       obtain ⟨g1, ⟨_, g2⟩ | ⟨_, _, cc, _, _, _, _, g3⟩⟩ := hob
       ·subst g2; simp at hk
       ·exact ⟨g1, g3⟩
      ·obtain ⟨rfl, rfl⟩ := hel
       obtain ⟨g1, ⟨_, g2⟩ | ⟨_, _, g3⟩⟩ := hob
       ·subst g2; simp at hk
       ·exact ⟨g1, g3⟩
     have hM := Bx xs k _ _ _ hk hrow.2
     have hT := nJ xs k T0 hk hrow.1
     obtain ⟨hE, hTE⟩ := lD hI.lay cj T0 _ _ _ hT hM
     have := w6 hI hTE hE h1 h3 h4 h5
     simp only [Nat.zero_add, h2] at this
     simpa [Instr.loadAt, Instr.sureAddr] using this
    ·simp at h
   ·simp at h
 ·rename_i T0 a
  split at h
  ·rename_i hc
   simp only [aa1, beq_iff_eq] at hc
   obtain ⟨⟨h3, h4⟩, h5⟩ := hc
   simp only [aa3, aa9] at h
   obtain ⟨_, rfl⟩ := h
   obtain ⟨b, off, rfl, hX, ht, hm⟩ := zx hr
   obtain ⟨hE, hTE⟩ := lD hI.lay cj T0 _ _ _ ht hm
   have hnil : ∀ y : AV, qQ y [] = true ∧ iy y [] = 0 ∧ pJ y [] = y := fun y => by cases y <;> simp [qQ, iy, pJ]
   have := w6 hI (p := []) hTE hE (hnil _).1 (by rw [(hnil _).2.2]; exact h3) (by rw [(hnil _).2.2]; exact h4) h5
   rw [(hnil _).2.1, (hnil _).2.2, Nat.add_zero] at this
   simpa [Instr.loadAt, Instr.sureAddr] using this
  ·simp at h
end Go.Dn
