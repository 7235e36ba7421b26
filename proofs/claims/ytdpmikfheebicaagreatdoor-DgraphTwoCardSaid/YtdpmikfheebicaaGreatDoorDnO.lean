import Derived.Test.YtdpmikfheebicaaGreatDoorDnN
namespace Go.Dn
open Go
def Mv : Obj → Bool
 | .row _ _ | .map _ _ _ => true
 | _ => false
def Ctx.lG (C : Ctx) (i : Nat) : Ctx :=
 {C with X := fun b => C.X b ∨ (i < C.st.length ∧ Mv (ar C.st i) = true ∧ bW (C.ι i) (ar C.st i) = true ∧ b = (C.ι i).block), st := cP C.st i (ic (ar C.st i)) }
theorem AE (o : Obj) : fP (ic o) = fP o := by cases o <;> rfl
theorem pc {C : Ctx} {i j : Nat} : (i ≠ j ∧ ar (C.lG i).st j = ar C.st j) ∨ (i = j ∧ ar (C.lG i).st j = ic (ar C.st j)) := by
 by_cases h : i = j
 ·subst h
  rcases Nat.lt_or_ge i C.st.length with hl | hl
  ·exact .inr ⟨rfl, bd _ _ _ hl⟩
  ·right
   have e1 : ar (C.lG i).st i = .dead := ee _ _ (by simp only [Ctx.lG, aP]; exact hl)
   rw [e1, ee _ _ hl]; exact ⟨rfl, rfl⟩
 ·exact .inl ⟨h, bI _ _ _ _ h⟩
theorem nL (o : Obj) : (ic o = o ∧ Mv o = false) ∨ (Mv o = true ∧ ((∃ T xs, o = .row T xs ∧ ic o = .lG T xs) ∨ ∃ K V es, o = .map K V es ∧ ic o = .dead)) := by
 cases o <;> simp [ic, Mv]
theorem w9 (g : G) (o : Obj) : bW g (ic o) = true → bW g o = true ∧ Mv o = false := by
 cases o <;> simp [ic, Mv, bW]
theorem J3 {C : Ctx} (hI : Inv C) (i : Nat) : Inv (C.lG i) ∧ Ext C.st.length C (C.lG i) := by
 have hk : bD C (C.lG i) := ⟨rfl, fun _ h => .inl h, fun _ _ => rfl⟩
 have hlen : (C.lG i).st.length = C.st.length := aP _ _ _
 have hel : ∀ j, fP (ar (C.lG i).st j) = fP (ar C.st j) := fun j => by
  rcases pc (C := C) (i := i) (j := j) with ⟨_, h⟩ | ⟨_, h⟩
  ·rw [h]
  ·rw [h, AE]
 have hbox : ∀ j o, fP o = none → o ≠ Obj.dead → ar (C.lG i).st j = o → ar C.st j = o := fun j o ho hd h => by
  rcases pc (C := C) (i := i) (j := j) with ⟨_, h'⟩ | ⟨_, h'⟩
  ·rw [← h', h]
  ·rw [h'] at h
   rcases nL (ar C.st j) with ⟨h1, _⟩ | ⟨_, ⟨T, xs, _, h2⟩ | ⟨K, V, es, _, h2⟩⟩
   ·rw [← h1, h]
   ·rw [h2] at h; rw [← h] at ho; cases ho
   ·rw [h2] at h; exact absurd h.symm hd
 have hrefs : ∀ j, j < C.st.length → bP C (C.lG i) j j := fun j hj =>
  ⟨by omega, fun T xs hx => ⟨xs, by rw [← hel]; exact hx, rfl, Nat.le_refl _⟩, fun T a hx => ⟨a, hbox j _ rfl (by simp) hx, rfl⟩,
   fun K V es hx => ⟨es, hbox j _ rfl (by simp) hx, rfl, fun ents clock hh => ⟨ents, clock, hh, dp.refl _ _⟩⟩, fun r hx => ⟨r, hbox j _ rfl (by simp) hx, rfl⟩, fun m n ks hx => ⟨m, ks, hbox j _ rfl (by simp) hx, rfl⟩, fun t hx => ⟨t, hbox j _ rfl (by simp) hx, rfl⟩, fun s p hx => ⟨p, hbox j _ rfl (by simp) hx, rfl⟩,
   fun K V ks vs met hx => ⟨met, hbox j _ rfl (by simp) hx, rfl⟩, fun T E ls pd hx => ⟨ls, pd, hbox j _ rfl (by simp) hx, rfl, rfl, fun _ _ _ h => h⟩⟩
 have hownd : ∀ j, bW ((C.lG i).ι j) (ar (C.lG i).st j) = true → bW (C.ι j) (ar C.st j) = true ∧ (i = j → Mv (ar C.st j) = false) := fun j h => by
  rcases pc (C := C) (i := i) (j := j) with ⟨e, h'⟩ | ⟨_, h'⟩
  ·rw [h'] at h; exact ⟨h, fun e' => absurd e' e⟩
  ·rw [h'] at h
   have := w9 _ _ h
   exact ⟨this.1, fun _ => this.2⟩
 have hXold : ∀ j b, j < C.st.length → bW ((C.lG i).ι j) (ar (C.lG i).st j) = true → C.cls b = (C.ι j).block → ¬ (C.lG i).X b := fun j b hj h hcb hX => by
  obtain ⟨h1, h2⟩ := hownd j h
  rcases hX with hX | ⟨hi, hrow, hoi, hb⟩
  ·exact (hI.cZ ⟨j, hj, h1, hcb.symm⟩).2 hX
  ·by_cases e : i = j
   ·subst e; rw [h2 rfl] at hrow; cases hrow
   ·rw [hb, hI.ei i hi hoi] at hcb
    exact hI.rh j i hj hi (fun h => e h.symm) h1 hoi hcb.symm
 refine ⟨⟨hI.lay, fun j hj => ?_, fun j k hj hk' hjk hoj hok => ?_, fun b hb => ?_, fun j hj hoj => hI.ei j (by rw [hlen] at hj; exact hj) (hownd j hoj).1, fun b hb => ⟨(hI.nq b hb).1, fun hX => ?_, (hI.nq b hb).2.2⟩, hI.kH hk⟩, ⟨hk, Nat.le_refl _, rfl, rfl, rfl, fun _ _ _ => rfl, fun b hb => ?_, fun b hb => ?_, hrefs, fun _ => .inl ⟨rfl, rfl⟩, rfl⟩⟩
 ·rw [hlen] at hj
  have hold := hI.obj j hj
  have same : ar (C.lG i).st j = ar C.st j → iT (C.lG i) ((C.lG i).ι j) (ar (C.lG i).st j) := fun h => by
   rw [h]
   exact hold.dN hk hI.lay (fun j hj _ => hrefs j hj) (hI.ei j hj) ⟨fun b ho hb => ⟨hXold j b hj (by rw [h]; exact ho) hb, rfl⟩, fun _ _ => ⟨Iff.rfl, fun _ => rfl⟩, dm.refl _, Nat.le_refl _, fun _ _ => rfl⟩
  rcases pc (C := C) (i := i) (j := j) with ⟨_, h⟩ | ⟨hij, h⟩
  ·exact same h
  ·rcases nL (ar C.st j) with ⟨h1, _⟩ | ⟨hf, ⟨T, xs, h1, h2⟩ | ⟨K, V, es, _, h2⟩⟩
   ·exact same (h.trans h1)
   ·rw [h, h2]
    rw [h1] at hold
    obtain ⟨g1, g2 | ⟨g2, g3, c, g4, g5, g6, g7, g8⟩⟩ := hold
    ·exact ⟨g1, .inl g2⟩
    ·refine ⟨g1, .inr ⟨g2, .inr ⟨hij ▸ hj, hij ▸ hf, ?_, by rw [hij]; rfl⟩, ?_⟩⟩
     ·rw [hij, h1]; simp only [bW, Bool.not_eq_true']; exact g2
     ·exact eL hk hI.lay xs T _ _ _ _ g1 (fun _ _ => rfl) g8
   ·rw [h, h2]; trivial
 ·rw [hlen] at hj hk'
  exact hI.rh j k hj hk' hjk (hownd j hoj).1 (hownd k hok).1
 ·rcases hb with hb | ⟨hi, hf, ho, rfl⟩
  ·exact hI.xs b hb
  ·exact ((hI.obj i hi).lt ho).1
 ·rcases hX with hX | ⟨hi, hf, ho, rfl⟩
  ·exact (hI.nq b hb).2.1 hX
  ·exact hb (hI.ei i hi ho)
 ·rcases hb with hb | ⟨hi, hf, ho, rfl⟩
  ·exact .inl hb
  ·exact .inr (.inl (hI.pL hi ho))
 ·obtain ⟨j, hj, ho, hb'⟩ := hb
  rw [hlen] at hj
  exact .inl ⟨j, hj, (hownd j ho).1, hb'⟩
theorem mE : ∀ (is : List Nat) {C : Ctx}, Inv C → ∃ C', C'.st = cI C.st is ∧ C'.w = C.w ∧ C'.ι = C.ι ∧ Inv C' ∧ Ext C.st.length C C' ∧
  (∀ i, i ∈ is → i < C.st.length → wV C i → C'.X (C.ι i).block)
 | [], C, hI => ⟨C, rfl, rfl, rfl, hI, Ext.refl C (Nat.le_refl _), fun i hi => by simp at hi⟩
 | i :: is, C, hI => by
  obtain ⟨h1, h2⟩ := J3 hI i
  obtain ⟨C', g1, g2, g3, g4, g5, g6⟩ := mE is h1
  have hlen : (C.lG i).st.length = C.st.length := aP _ _ _
  refine ⟨C', g1, g2, g3, g4, h2.trans g5 (by omega), fun j hj hlt hl => ?_⟩
  by_cases hij : i = j
  ·subst hij
   refine g5.keeps.X _ ?_
   rcases hl with ⟨⟨⟨T, xs⟩, hy⟩, hn⟩ | ⟨K, V, es, hx⟩
   ·cases hx : ar C.st i <;> rw [hx] at hy <;> simp [fP] at hy
    ·exact .inr ⟨hlt, by rw [hx]; rfl, by rw [hx]; simp [bW, hn], rfl⟩
    ·have := hI.obj i hlt
     rw [hx] at this
     obtain ⟨_, ⟨h0, _⟩ | ⟨_, h3, _⟩⟩ := this
     ·rw [hn] at h0; cases h0
     ·exact .inl h3
   ·exact .inr ⟨hlt, by rw [hx]; rfl, by rw [hx]; rfl, rfl⟩
  ·have hj := (List.mem_cons.1 hj).resolve_left (Ne.symm hij)
   refine g6 j hj (by omega) ?_
   have e := (pc (C := C) (i := i) (j := j)).resolve_right fun h => hij h.1
   unfold wV
   rw [e.2]; exact hl
theorem iI : ∀ (is : List Nat) (st : List Obj), (cI st is).length = st.length
 | [], _ => rfl
 | i :: is, st => by simp only [cI]; rw [iI is, aP]
theorem oC {C C' : Ctx} (hI : Inv C) (hk : bD C C') (hw : C'.w = C.w) {a b : AV} {v : Value} (h : bO C.st a = some b) (hX : ∀ i, i ∈ rowsOf a → i < C.st.length → wV C i → C'.X (C.ι i).block) (hr : Rel C a v) : Rel C' b v := by
 obtain ⟨g1, g2, g3, g4⟩ := gm a b h
 have hj : a ≠ .b7 := by intro e; subst e; simp [bO] at h
 exact ⟨.inl (by rw [g1]; exact hr.1.resolve_right hj), .inl (by rw [g2]; exact hr.2.1.resolve_right hj), rz hI hk hw a b _ _ h hX hr.2.2⟩
theorem Mc {C : Ctx} (hI : Inv C) {x : AV} {l : List AV} {i off : Nat} {s s' : Src} {o : Nat} (hoff : gM l i = off) (hi : i < l.length) (hw : wid x = wid (nth l i)) (h : ML C l s o) (hx : M C x s' (o + off))
  (hs : ∀ j, j < eh l → ¬ (off ≤ j ∧ j < off + wid x) → s' (o + j) = s (o + j)) : ML C (cf l i x) s' o :=
 Bu hI hx l i off s s' o hoff hi hw h (fun j hj => by
  by_cases hc : off ≤ j ∧ j < off + wid x
  ·rw [if_pos hc]; congr 1; omega
  ·rw [if_neg hc]; exact hs j hj hc)
theorem pf : ∀ (p : List Nat) (a x : AV), pB a p = true → wid x = wid (ov a p) → wid (ia a p x) = wid a
 | [], a, x, _, h => by cases a <;> simpa [ia, ov] using h
 | j :: p, .agg l, x, hp, h => by
  simp only [pB, aa1, aa0] at hp
  simp only [ov, ad] at h
  simp only [ia, wid]
  exact pZ l j _ (pf p (nth l j) x hp.2 h)
 | _ :: _, .b7, _, hp, _ | _ :: _, .lit _, _, hp, _ | _ :: _, .ae _ _, _, hp, _ | _ :: _, .bj _, _, hp, _ | _ :: _, .aB _ _ _, _, hp, _
 | _ :: _, .ptr _ _ _ _, _, hp, _ | _ :: _, .iz _ _, _, hp, _ | _ :: _, .mp _, _, hp, _ | _ :: _, .ct _, _, hp, _ | _ :: _, .jk _ _, _, hp, _
 | _ :: _, .bL _ _, _, hp, _ | _ :: _, .gO _ _, _, hp, _ | _ :: _, .iq _ _ _ _, _, hp, _ => by simp [pB] at hp
theorem AL {C : Ctx} (hI : Inv C) {x : AV} : ∀ (p : List Nat) (a : AV) (s s' : Src) (o : Nat), pB a p = true → wid x = wid (ov a p) → M C a s o → M C x s' (o + gK a p) →
  (∀ j, j < wid a → ¬ (gK a p ≤ j ∧ j < gK a p + wid x) → s' (o + j) = s (o + j)) → M C (ia a p x) s' o
 | [], a, s, s', o, _, _, _, hx, _ => by cases a <;> simpa [ia, gK] using hx
 | j :: p, .agg l, s, s', o, hp, hw, h, hx, hs => by
  simp only [pB, aa1, aa0] at hp
  simp only [ov, ad] at hw
  simp only [gK] at hx hs
  simp only [M] at h
  simp only [wid] at hs
  simp only [ia, M]
  have hw2 := pf p (nth l j) x hp.2 hw
  have hle := po l j hp.1
  have hle2 := ng p (nth l j) hp.2
  refine Mc hI rfl hp.1 hw2 h ?_ (fun k hk hnk => hs k hk (by omega))
  refine AL hI p (nth l j) s s' (o + gM l j) hp.2 hw (zK l j s o hp.1 h) (by rwa [show o + gM l j + gK (nth l j) p = o + (gM l j + gK (nth l j) p) by omega]) (fun k hk hnk => ?_)
  have := hs (gM l j + k) (by omega) (by omega)
  rwa [show o + gM l j + k = o + (gM l j + k) by omega]
 | _ :: _, .b7, _, _, _, hp, _, _, _, _ | _ :: _, .lit _, _, _, _, hp, _, _, _, _ | _ :: _, .ae _ _, _, _, _, hp, _, _, _, _ | _ :: _, .bj _, _, _, _, hp, _, _, _, _ | _ :: _, .aB _ _ _, _, _, _, hp, _, _, _, _
 | _ :: _, .ptr _ _ _ _, _, _, _, hp, _, _, _, _ | _ :: _, .iz _ _, _, _, _, hp, _, _, _, _ | _ :: _, .mp _, _, _, _, hp, _, _, _, _ | _ :: _, .ct _, _, _, _, hp, _, _, _, _ | _ :: _, .jk _ _, _, _, _, hp, _, _, _, _
 | _ :: _, .bL _ _, _, _, _, hp, _, _, _, _ | _ :: _, .gO _ _, _, _, _, hp, _, _, _, _ | _ :: _, .iq _ _ _ _, _, _, _, hp, _, _, _, _ => by simp [pB] at hp
theorem tn : ∀ (l : List AV) (i : Nat) (x : AV), du l = true → ck x = true → du (cf l i x) = true
 | [], _, _, _, _ => by simp [cf, du]
 | a :: l, 0, x, h, hx => by simp only [du, aa1] at h; simp [cf, du, hx, h.2]
 | a :: l, i + 1, x, h, hx => by simp only [du, aa1] at h; simp [cf, du, h.1, tn l i x h.2 hx]
theorem tz : ∀ (p : List Nat) (a x : AV), pB a p = true → ck a = true → ck x = true → ck (ia a p x) = true
 | [], a, x, _, _, hx => by cases a <;> simpa [ia] using hx
 | j :: p, .agg l, x, hp, h, hx => by
  simp only [pB, aa1, aa0] at hp
  simp only [ck] at h
  simp only [ia, ck]
  exact tn l j _ h (tz p (nth l j) x hp.2 (sQ l j hp.1 h) hx)
 | _ :: _, .b7, _, hp, _, _ | _ :: _, .lit _, _, hp, _, _ | _ :: _, .ae _ _, _, hp, _, _ | _ :: _, .bj _, _, hp, _, _ | _ :: _, .aB _ _ _, _, hp, _, _
 | _ :: _, .ptr _ _ _ _, _, hp, _, _ | _ :: _, .iz _ _, _, hp, _, _ | _ :: _, .mp _, _, hp, _, _ | _ :: _, .ct _, _, hp, _, _ | _ :: _, .jk _ _, _, hp, _, _
 | _ :: _, .bL _ _, _, hp, _, _ | _ :: _, .gO _ _, _, hp, _, _ | _ :: _, .iq _ _ _ _, _, hp, _, _ => by simp [pB] at hp
theorem spliced (cur : Array Value) (o : Nat) (vs : List Value) (h : o + vs.length ≤ cur.size) (j : Nat) :
  ((cur.toList.take o ++ vs ++ cur.toList.drop (o + vs.length)).toArray)[j]? = if o ≤ j ∧ j < o + vs.length then vs[j - o]? else cur[j]? := by
 rw [List.getElem?_toArray]
 have hlt : (cur.toList.take o).length = o := by simp; omega
 by_cases h1 : j < o
 ·rw [List.append_assoc, List.getElem?_append_left (by omega), if_neg (by omega)]
  simp [h1]
 ·by_cases h2 : j < o + vs.length
  ·rw [List.append_assoc, List.getElem?_append_right (by omega), hlt, List.getElem?_append_left (by omega), if_pos (by omega)]
  ·rw [List.getElem?_append_right (by simp; omega), if_neg (by omega)]
   simp only [ab8, hlt, List.getElem?_drop]
   rw [show o + vs.length + (j - (o + vs.length)) = j by omega]
   simp
end Go.Dn
