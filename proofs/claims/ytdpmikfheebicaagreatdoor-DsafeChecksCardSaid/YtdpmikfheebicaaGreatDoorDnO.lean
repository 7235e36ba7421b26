import Derived.Test.YtdpmikfheebicaaGreatDoorDnN
namespace Go.Dn
open Go
def Ctx.ow (C : Ctx) (i : Nat) : Ctx :=
 {C with X := fun b => C.X b ∨ (i < C.st.length ∧ (∃ T xs, aD C.st i = .row T xs) ∧ (C.ι i).isNil = false ∧ b = (C.ι i).block), st := dU C.st i (iY (aD C.st i)) }
theorem vq (o : Obj) : iE (iY o) = iE o := by cases o <;> rfl
theorem qo {C : Ctx} {i j : Nat} : (aD (C.ow i).st j = aD C.st j) ∨ (i = j ∧ i < C.st.length ∧ aD (C.ow i).st j = iY (aD C.st j)) := by
 by_cases h : i = j
 ·subst h
  rcases Nat.lt_or_ge i C.st.length with hl | hl
  ·exact .inr ⟨rfl, hl, bD _ _ _ hl⟩
  ·left
   have e1 : aD (C.ow i).st i = .dead := dY _ _ (by simp only [Ctx.ow, bd]; exact hl)
   rw [e1, dY _ _ hl]
 ·exact .inl (bK _ _ _ _ h)
theorem kP (o : Obj) : (iY o = o ∧ ∀ T xs, o ≠ .row T xs) ∨ ∃ T xs, o = .row T xs ∧ iY o = .ow T xs := by
 cases o <;> simp [iY]
theorem Kh {C : Ctx} (hI : Inv C) (i : Nat) : Inv (C.ow i) ∧ Ext C.st.length C (C.ow i) := by
 have hk : bL C (C.ow i) := ⟨rfl, fun _ h => .inl h, fun _ _ => rfl⟩
 have hlen : (C.ow i).st.length = C.st.length := bd _ _ _
 have hel : ∀ j, iE (aD (C.ow i).st j) = iE (aD C.st j) := fun j => by
  rcases qo (C := C) (i := i) (j := j) with h | ⟨_, _, h⟩
  ·rw [h]
  ·rw [h, vq]
 have hbox : ∀ j o, (∀ T xs, o ≠ Obj.ow T xs) → aD (C.ow i).st j = o → aD C.st j = o := fun j o ho h => by
  rcases qo (C := C) (i := i) (j := j) with h' | ⟨_, _, h'⟩
  ·rw [← h', h]
  ·rw [h'] at h
   rcases kP (aD C.st j) with ⟨h1, _⟩ | ⟨T, xs, _, h2⟩
   ·rw [← h1, h]
   ·rw [h2] at h; exact absurd h.symm (ho T xs)
 have hrefs : ∀ j, j < C.st.length → cd C (C.ow i) j j := fun j hj =>
  ⟨by omega, fun T xs hx => ⟨xs, by rw [← hel]; exact hx, rfl, Nat.le_refl _⟩, fun T a hx => ⟨a, hbox j _ (by simp) hx, rfl⟩,
   fun K V es hx => ⟨es, hbox j _ (by simp) hx, rfl, fun ents clock hh => ⟨ents, clock, hh, dG.refl _ _⟩⟩, fun r hx => ⟨r, hbox j _ (by simp) hx, rfl⟩, fun m n ks hx => ⟨m, ks, hbox j _ (by simp) hx, rfl⟩, fun t hx => ⟨t, hbox j _ (by simp) hx, rfl⟩, fun s p hx => ⟨p, hbox j _ (by simp) hx, rfl⟩⟩
 have hownd : ∀ j, cD ((C.ow i).ι j) (aD (C.ow i).st j) = true → cD (C.ι j) (aD C.st j) = true ∧ (i = j → ∀ T xs, aD C.st j ≠ .row T xs) := fun j h => by
  rcases qo (C := C) (i := i) (j := j) with h' | ⟨_, _, h'⟩
  ·rw [h'] at h
   refine ⟨h, fun e T xs hx => ?_⟩
   subst e
   rcases Nat.lt_or_ge i C.st.length with hl | hl
   ·have := bD C.st i (iY (aD C.st i)) hl
    rw [hx] at h'
    have e2 : aD (C.ow i).st i = iY (aD C.st i) := this
    rw [e2, hx] at h'
    simp [iY] at h'
   ·rw [dY _ _ hl] at hx; cases hx
  ·rw [h'] at h
   rcases kP (aD C.st j) with ⟨h1, h2⟩ | ⟨T, xs, _, h2⟩
   ·rw [h1] at h; exact ⟨h, fun _ => h2⟩
   ·rw [h2] at h; simp [cD] at h
 have hXold : ∀ j b, j < C.st.length → cD ((C.ow i).ι j) (aD (C.ow i).st j) = true → C.cls b = (C.ι j).block → ¬ (C.ow i).X b := fun j b hj h hcb hX => by
  obtain ⟨h1, h2⟩ := hownd j h
  rcases hX with hX | ⟨hi, ⟨T, xs, hrow⟩, hn, hb⟩
  ·exact (hI.dB ⟨j, hj, h1, hcb.symm⟩).2 hX
  ·by_cases e : i = j
   ·exact h2 e T xs (e ▸ hrow)
   ·have hoi : cD (C.ι i) (aD C.st i) = true := by rw [hrow]; simp [cD, hn]
    rw [hb, hI.fB i hi hoi] at hcb
    exact hI.sK j i hj hi (fun h => e h.symm) h1 hoi hcb.symm
 refine ⟨⟨hI.lay, fun j hj => ?_, fun j k hj hk' hjk hoj hok => ?_, fun b hb => ?_, fun j hj hoj => hI.fB j (by rw [hlen] at hj; exact hj) (hownd j hoj).1, fun b hb => ⟨(hI.oE b hb).1, fun hX => ?_, (hI.oE b hb).2.2⟩, hI.lq hk⟩, ⟨hk, Nat.le_refl _, rfl, rfl, rfl, fun _ _ _ => rfl, fun b hb => ?_, fun b hb => ?_, hrefs, fun _ => .inl rfl, rfl⟩⟩
 ·rw [hlen] at hj
  have hold := hI.obj j hj
  rcases qo (C := C) (i := i) (j := j) with h | ⟨hij, hil, h⟩
  ·rw [h]
   exact hold.fu hk hI.lay (fun j hj _ => hrefs j hj) (hI.fB j hj) ⟨fun b ho hb => ⟨hXold j b hj (by rw [h]; exact ho) hb, rfl⟩, fun _ _ _ => Iff.rfl, ed.refl _, Nat.le_refl _, fun _ _ => rfl⟩
  ·rw [h]
   rcases kP (aD C.st j) with ⟨h1, h2⟩ | ⟨T, xs, h1, h2⟩
   ·rw [h1]
    exact hold.fu hk hI.lay (fun j hj _ => hrefs j hj) (hI.fB j hj) ⟨fun b ho hb => ⟨hXold j b hj (by rw [h, h1]; exact ho) hb, rfl⟩, fun _ _ _ => Iff.rfl, ed.refl _, Nat.le_refl _, fun _ _ => rfl⟩
   ·rw [h2]
    rw [h1] at hold
    obtain ⟨g1, g2 | ⟨g2, g3, c, g4, g5, g6, g7, g8⟩⟩ := hold
    ·exact ⟨g1, .inl g2⟩
    ·refine ⟨g1, .inr ⟨g2, .inr ⟨hil, ⟨T, xs, hij ▸ h1⟩, hij ▸ g2, by rw [hij]; rfl⟩, ?_⟩⟩
     exact fW hk hI.lay xs T _ _ _ _ g1 (fun _ _ => rfl) g8
 ·rw [hlen] at hj hk'
  exact hI.sK j k hj hk' hjk (hownd j hoj).1 (hownd k hok).1
 ·rcases hb with hb | ⟨hi, ⟨T, xs, hrow⟩, hn, rfl⟩
  ·exact hI.xs b hb
  ·exact ((hI.obj i hi).lt (by rw [hrow]; simp [cD, hn])).1
 ·rcases hX with hX | ⟨hi, ⟨T, xs, hrow⟩, hn, rfl⟩
  ·exact (hI.oE b hb).2.1 hX
  ·exact hb (hI.fB i hi (by rw [hrow]; simp [cD, hn]))
 ·rcases hb with hb | ⟨hi, ⟨T, xs, hrow⟩, hn, rfl⟩
  ·exact .inl hb
  ·exact .inr (.inl (hI.oY hi (by rw [hrow]; simp [cD, hn])))
 ·obtain ⟨j, hj, ho, hb'⟩ := hb
  rw [hlen] at hj
  exact .inl ⟨j, hj, (hownd j ho).1, hb'⟩
theorem nv : ∀ (is : List Nat) {C : Ctx}, Inv C → ∃ C', C'.st = df C.st is ∧ C'.w = C.w ∧ C'.ι = C.ι ∧ Inv C' ∧ Ext C.st.length C C' ∧
  (∀ i, i ∈ is → i < C.st.length → (∃ y, iE (aD C.st i) = some y) → (C.ι i).isNil = false → C'.X (C.ι i).block)
 | [], C, hI => ⟨C, rfl, rfl, rfl, hI, Ext.refl C (Nat.le_refl _), fun i hi => by simp at hi⟩
 | i :: is, C, hI => by
  obtain ⟨h1, h2⟩ := Kh hI i
  obtain ⟨C', g1, g2, g3, g4, g5, g6⟩ := nv is h1
  have hlen : (C.ow i).st.length = C.st.length := bd _ _ _
  refine ⟨C', g1, g2, g3, g4, h2.trans g5 (by omega), fun j hj hlt hel hn => ?_⟩
  obtain ⟨y, hy⟩ := hel
  rcases List.mem_cons.1 hj with rfl | hj
  ·refine g5.keeps.X _ ?_
   obtain ⟨T, xs⟩ := y
   cases hx : aD C.st j <;> rw [hx] at hy <;> simp [iE] at hy
   ·exact .inr ⟨hlt, ⟨_, _, hx⟩, hn, rfl⟩
   ·have := hI.obj j hlt
    rw [hx] at this
    obtain ⟨_, ⟨h0, _⟩ | ⟨_, h3, _⟩⟩ := this
    ·rw [hn] at h0; cases h0
    ·exact .inl h3
  ·refine g6 j hj (by omega) ⟨y, ?_⟩ hn
   rcases qo (C := C) (i := i) (j := j) with h | ⟨_, _, h⟩
   ·rw [h]; exact hy
   ·rw [h, vq]; exact hy
theorem jq : ∀ (is : List Nat) (st : List Obj), (df st is).length = st.length
 | [], _ => rfl
 | i :: is, st => by simp only [df]; rw [jq is, bd]
theorem tj {C : Ctx} {a b : AV} (h : b7 C.st a = some b) : ∀ i, i ∈ rowsOf a → ∃ y, iE (aD C.st i) = some y := by
 intro i hi
 obtain ⟨T, xs, hx⟩ := uC.go a b h i hi
 exact ⟨_, hx⟩
theorem qF {C C' : Ctx} (hI : Inv C) (hk : bL C C') (hw : C'.w = C.w) {a b : AV} {v : Value} (h : b7 C.st a = some b) (hX : ∀ i, i ∈ rowsOf a → i < C.st.length → (C.ι i).isNil = false → C'.X (C.ι i).block) (hr : Rel C a v) : Rel C' b v := by
 obtain ⟨g1, g2, g3, g4⟩ := hG a b h
 have hj : a ≠ .cw := by intro e; subst e; simp [b7] at h
 exact ⟨.inl (by rw [g1]; exact hr.1.resolve_right hj), .inl (by rw [g2]; exact hr.2.1.resolve_right hj), sZ hI hk hw a b _ _ h hX hr.2.2⟩
theorem Nw {C : Ctx} (hI : Inv C) {x : AV} {l : List AV} {i off : Nat} {s s' : Src} {o : Nat} (hoff : iz l i = off) (hi : i < l.length) (hw : wid x = wid (nth l i)) (h : ML C l s o) (hx : M C x s' (o + off))
  (hs : ∀ j, j < eG l → ¬ (off ≤ j ∧ j < off + wid x) → s' (o + j) = s (o + j)) : ML C (cC l i x) s' o :=
 CM hI hx l i off s s' o hoff hi hw h (fun j hj => by
  by_cases hc : off ≤ j ∧ j < off + wid x
  ·rw [if_pos hc]; congr 1; omega
  ·rw [if_neg hc]; exact hs j hj hc)
theorem qy : ∀ (p : List Nat) (a x : AV), qQ a p = true → wid x = wid (pJ a p) → wid (iL a p x) = wid a
 | [], a, x, _, h => by cases a <;> simpa [iL, pJ] using h
 | j :: p, .agg l, x, hp, h => by
  simp only [qQ, aa1, aa0] at hp
  simp only [pJ, ad] at h
  simp only [iL, wid]
  exact rF l j _ (qy p (nth l j) x hp.2 h)
 | _ :: _, .cw, _, hp, _ | _ :: _, .lit _, _, hp, _ | _ :: _, .ae _ _, _, hp, _ | _ :: _, .bR _, _, hp, _ | _ :: _, .a7 _ _ _, _, hp, _
 | _ :: _, .ptr _ _ _ _, _, hp, _ | _ :: _, .jH _ _, _, hp, _ | _ :: _, .mp _, _, hp, _ | _ :: _, .dv _, _, hp, _ | _ :: _, .kr _ _, _, hp, _
 | _ :: _, .dq _ _, _, hp, _ | _ :: _, .jb _ _, _, hp, _ => by simp [qQ] at hp
theorem CR {C : Ctx} (hI : Inv C) {x : AV} : ∀ (p : List Nat) (a : AV) (s s' : Src) (o : Nat), qQ a p = true → wid x = wid (pJ a p) → M C a s o → M C x s' (o + iy a p) →
  (∀ j, j < wid a → ¬ (iy a p ≤ j ∧ j < iy a p + wid x) → s' (o + j) = s (o + j)) → M C (iL a p x) s' o
 | [], a, s, s', o, _, _, _, hx, _ => by cases a <;> simpa [iL, iy] using hx
 | j :: p, .agg l, s, s', o, hp, hw, h, hx, hs => by
  simp only [qQ, aa1, aa0] at hp
  simp only [pJ, ad] at hw
  simp only [iy] at hx hs
  simp only [M] at h
  simp only [wid] at hs
  simp only [iL, M]
  have hw2 := qy p (nth l j) x hp.2 hw
  have hle := qq l j hp.1
  have hle2 := oe p (nth l j) hp.2
  refine Nw hI rfl hp.1 hw2 h ?_ (fun k hk hnk => hs k hk (by omega))
  refine CR hI p (nth l j) s s' (o + iz l j) hp.2 hw (AB l j s o hp.1 h) (by rwa [show o + iz l j + iy (nth l j) p = o + (iz l j + iy (nth l j) p) by omega]) (fun k hk hnk => ?_)
  have := hs (iz l j + k) (by omega) (by omega)
  rwa [show o + iz l j + k = o + (iz l j + k) by omega]
 | _ :: _, .cw, _, _, _, hp, _, _, _, _ | _ :: _, .lit _, _, _, _, hp, _, _, _, _ | _ :: _, .ae _ _, _, _, _, hp, _, _, _, _ | _ :: _, .bR _, _, _, _, hp, _, _, _, _ | _ :: _, .a7 _ _ _, _, _, _, hp, _, _, _, _
 | _ :: _, .ptr _ _ _ _, _, _, _, hp, _, _, _, _ | _ :: _, .jH _ _, _, _, _, hp, _, _, _, _ | _ :: _, .mp _, _, _, _, hp, _, _, _, _ | _ :: _, .dv _, _, _, _, hp, _, _, _, _ | _ :: _, .kr _ _, _, _, _, hp, _, _, _, _
 | _ :: _, .dq _ _, _, _, _, hp, _, _, _, _ | _ :: _, .jb _ _, _, _, _, hp, _, _, _, _ => by simp [qQ] at hp
theorem vw : ∀ (l : List AV) (i : Nat) (x : AV), dT l = true → cH x = true → dT (cC l i x) = true
 | [], _, _, _, _ => by simp [cC, dT]
 | a :: l, 0, x, h, hx => by simp only [dT, aa1] at h; simp [cC, dT, hx, h.2]
 | a :: l, i + 1, x, h, hx => by simp only [dT, aa1] at h; simp [cC, dT, h.1, vw l i x h.2 hx]
theorem ve : ∀ (p : List Nat) (a x : AV), qQ a p = true → cH a = true → cH x = true → cH (iL a p x) = true
 | [], a, x, _, _, hx => by cases a <;> simpa [iL] using hx
 | j :: p, .agg l, x, hp, h, hx => by
  simp only [qQ, aa1, aa0] at hp
  simp only [cH] at h
  simp only [iL, cH]
  exact vw l j _ h (ve p (nth l j) x hp.2 (uq l j hp.1 h) hx)
 | _ :: _, .cw, _, hp, _, _ | _ :: _, .lit _, _, hp, _, _ | _ :: _, .ae _ _, _, hp, _, _ | _ :: _, .bR _, _, hp, _, _ | _ :: _, .a7 _ _ _, _, hp, _, _
 | _ :: _, .ptr _ _ _ _, _, hp, _, _ | _ :: _, .jH _ _, _, hp, _, _ | _ :: _, .mp _, _, hp, _, _ | _ :: _, .dv _, _, hp, _, _ | _ :: _, .kr _ _, _, hp, _, _
 | _ :: _, .dq _ _, _, hp, _, _ | _ :: _, .jb _ _, _, hp, _, _ => by simp [qQ] at hp
theorem spliced (cur : Array Value) (o : Nat) (vs : List Value) (h : o + vs.length ≤ cur.size) (j : Nat) :
  ((cur.toList.take o ++ vs ++ cur.toList.drop (o + vs.length)).toArray)[j]? = if o ≤ j ∧ j < o + vs.length then vs[j - o]? else cur[j]? := by
 rw [List.getElem?_toArray]
 have hlt : (cur.toList.take o).length = o := by simp; omega
 by_cases h1 : j < o
 ·rw [List.append_assoc, List.getElem?_append_left (by omega), if_neg (by omega)]
  simp [h1]
 ·by_cases h2 : j < o + vs.length
  ·rw [List.append_assoc, List.getElem?_append_right (by omega), hlt, List.getElem?_append_left (by omega), if_pos (by omega)]
  ·rw [List.getElem?_append_right (by simp; omega), if_neg (by omega)]
   simp only [ab9, hlt, List.getElem?_drop]
   rw [show o + vs.length + (j - (o + vs.length)) = j by omega]
   simp
end Go.Dn
