import Derived.Test.YtbppdpbagmbmpaaGreatDoorDnN
namespace Go.Dn
open Go
def frB : Obj → Bool
  | .row _ _ | .map _ _ _ => true
  | _ => false
def Ctx.frz (C : Ctx) (i : Nat) : Ctx :=
  { C with X := fun b => C.X b ∨ (i < C.st.length ∧ frB (nthO C.st i) = true ∧ ownd (C.ι i) (nthO C.st i) = true ∧ b = (C.ι i).block), st := setO C.st i (freezeO (nthO C.st i)) }
theorem elT_freeze (o : Obj) : elT (freezeO o) = elT o := by cases o <;> rfl
theorem frz_nth {C : Ctx} {i j : Nat} : (i ≠ j ∧ nthO (C.frz i).st j = nthO C.st j) ∨ (i = j ∧ nthO (C.frz i).st j = freezeO (nthO C.st j)) := by
  by_cases h : i = j
  · subst h
    rcases Nat.lt_or_ge i C.st.length with hl | hl
    · exact .inr ⟨rfl, nthO_setO_same _ _ _ hl⟩
    · right
      have e1 : nthO (C.frz i).st i = .dead := nthO_out _ _ (by simp only [Ctx.frz, setO_length]; exact hl)
      rw [e1, nthO_out _ _ hl]; exact ⟨rfl, rfl⟩
  · exact .inl ⟨h, nthO_setO_other _ _ _ _ h⟩
theorem freezeO_cases (o : Obj) : (freezeO o = o ∧ frB o = false) ∨ (frB o = true ∧ ((∃ T xs, o = .row T xs ∧ freezeO o = .frz T xs) ∨ ∃ K V es, o = .map K V es ∧ freezeO o = .dead)) := by
  cases o <;> simp [freezeO, frB]
theorem freezeO_ownd (g : G) (o : Obj) : ownd g (freezeO o) = true → ownd g o = true ∧ frB o = false := by
  cases o <;> simp [freezeO, frB, ownd]
theorem frz_ctx {C : Ctx} (hI : Inv C) (i : Nat) : Inv (C.frz i) ∧ Ext C.st.length C (C.frz i) := by
  have hk : Keeps C (C.frz i) := ⟨rfl, fun _ h => .inl h, fun _ _ => rfl⟩
  have hlen : (C.frz i).st.length = C.st.length := setO_length _ _ _
  have hel : ∀ j, elT (nthO (C.frz i).st j) = elT (nthO C.st j) := fun j => by
    rcases frz_nth (C := C) (i := i) (j := j) with ⟨_, h⟩ | ⟨_, h⟩
    · rw [h]
    · rw [h, elT_freeze]
  have hbox : ∀ j o, elT o = none → o ≠ Obj.dead → nthO (C.frz i).st j = o → nthO C.st j = o := fun j o ho hd h => by
    rcases frz_nth (C := C) (i := i) (j := j) with ⟨_, h'⟩ | ⟨_, h'⟩
    · rw [← h', h]
    · rw [h'] at h
      rcases freezeO_cases (nthO C.st j) with ⟨h1, _⟩ | ⟨_, ⟨T, xs, _, h2⟩ | ⟨K, V, es, _, h2⟩⟩
      · rw [← h1, h]
      · rw [h2] at h; rw [← h] at ho; cases ho
      · rw [h2] at h; exact absurd h.symm hd
  have hrefs : ∀ j, j < C.st.length → RefOK C (C.frz i) j j := fun j hj =>
    ⟨by omega, fun T xs hx => ⟨xs, by rw [← hel]; exact hx, rfl, Nat.le_refl _⟩, fun T a hx => ⟨a, hbox j _ rfl (by simp) hx, rfl⟩,
     fun K V es hx => ⟨es, hbox j _ rfl (by simp) hx, rfl, fun ents clock hh => ⟨ents, clock, hh, MapLater.refl _ _⟩⟩, fun r hx => ⟨r, hbox j _ rfl (by simp) hx, rfl⟩, fun m n ks hx => ⟨m, ks, hbox j _ rfl (by simp) hx, rfl⟩, fun t hx => ⟨t, hbox j _ rfl (by simp) hx, rfl⟩, fun s p hx => ⟨p, hbox j _ rfl (by simp) hx, rfl⟩,
     fun K V ks vs met hx => ⟨met, hbox j _ rfl (by simp) hx, rfl⟩, fun T E ls pd hx => ⟨ls, pd, hbox j _ rfl (by simp) hx, rfl, rfl, fun _ _ _ h => h⟩⟩
  have hownd : ∀ j, ownd ((C.frz i).ι j) (nthO (C.frz i).st j) = true → ownd (C.ι j) (nthO C.st j) = true ∧ (i = j → frB (nthO C.st j) = false) := fun j h => by
    rcases frz_nth (C := C) (i := i) (j := j) with ⟨e, h'⟩ | ⟨_, h'⟩
    · rw [h'] at h; exact ⟨h, fun e' => absurd e' e⟩
    · rw [h'] at h
      have := freezeO_ownd _ _ h
      exact ⟨this.1, fun _ => this.2⟩
  have hXold : ∀ j b, j < C.st.length → ownd ((C.frz i).ι j) (nthO (C.frz i).st j) = true → C.cls b = (C.ι j).block → ¬ (C.frz i).X b := fun j b hj h hcb hX => by
    obtain ⟨h1, h2⟩ := hownd j h
    rcases hX with hX | ⟨hi, hrow, hoi, hb⟩
    · exact (hI.own_lt ⟨j, hj, h1, hcb.symm⟩).2 hX
    · by_cases e : i = j
      · subst e; rw [h2 rfl] at hrow; cases hrow
      · rw [hb, hI.cown i hi hoi] at hcb
        exact hI.dis j i hj hi (fun h => e h.symm) h1 hoi hcb.symm
  refine ⟨⟨hI.lay, fun j hj => ?_, fun j k hj hk' hjk hoj hok => ?_, fun b hb => ?_, fun j hj hoj => hI.cown j (by rw [hlen] at hj; exact hj) (hownd j hoj).1, fun b hb => ⟨(hI.clt b hb).1, fun hX => ?_, (hI.clt b hb).2.2⟩, hI.kept' hk⟩, ⟨hk, Nat.le_refl _, rfl, rfl, rfl, fun _ _ _ => rfl, fun b hb => ?_, fun b hb => ?_, hrefs, fun _ => .inl ⟨rfl, rfl⟩, rfl⟩⟩
  · rw [hlen] at hj
    have hold := hI.obj j hj
    have same : nthO (C.frz i).st j = nthO C.st j → ObjOK (C.frz i) ((C.frz i).ι j) (nthO (C.frz i).st j) := fun h => by
      rw [h]
      exact hold.keep hk hI.lay (fun j hj _ => hrefs j hj) (hI.cown j hj) ⟨fun b ho hb => ⟨hXold j b hj (by rw [h]; exact ho) hb, rfl⟩, fun _ _ => ⟨Iff.rfl, fun _ => rfl⟩, SameOs.refl _, Nat.le_refl _, fun _ _ => rfl⟩
    rcases frz_nth (C := C) (i := i) (j := j) with ⟨_, h⟩ | ⟨hij, h⟩
    · exact same h
    · rcases freezeO_cases (nthO C.st j) with ⟨h1, _⟩ | ⟨hf, ⟨T, xs, h1, h2⟩ | ⟨K, V, es, _, h2⟩⟩
      · exact same (h.trans h1)
      · rw [h, h2]
        rw [h1] at hold
        obtain ⟨g1, g2 | ⟨g2, g3, c, g4, g5, g6, g7, g8⟩⟩ := hold
        · exact ⟨g1, .inl g2⟩
        · refine ⟨g1, .inr ⟨g2, .inr ⟨hij ▸ hj, hij ▸ hf, ?_, by rw [hij]; rfl⟩, ?_⟩⟩
          · rw [hij, h1]; simp only [ownd, Bool.not_eq_true']; exact g2
          · exact MR_pure hk hI.lay xs T _ _ _ _ g1 (fun _ _ => rfl) g8
      · rw [h, h2]; trivial
  · rw [hlen] at hj hk'
    exact hI.dis j k hj hk' hjk (hownd j hoj).1 (hownd k hok).1
  · rcases hb with hb | ⟨hi, hf, ho, rfl⟩
    · exact hI.xs b hb
    · exact ((hI.obj i hi).lt ho).1
  · rcases hX with hX | ⟨hi, hf, ho, rfl⟩
    · exact (hI.clt b hb).2.1 hX
    · exact hb (hI.cown i hi ho)
  · rcases hb with hb | ⟨hi, hf, ho, rfl⟩
    · exact .inl hb
    · exact .inr (.inl (hI.own_at hi ho))
  · obtain ⟨j, hj, ho, hb'⟩ := hb
    rw [hlen] at hj
    exact .inl ⟨j, hj, (hownd j ho).1, hb'⟩
theorem frzs_ctx : ∀ (is : List Nat) {C : Ctx}, Inv C → ∃ C', C'.st = freezeSt C.st is ∧ C'.w = C.w ∧ C'.ι = C.ι ∧ Inv C' ∧ Ext C.st.length C C' ∧
    (∀ i, i ∈ is → i < C.st.length → Lent C i → C'.X (C.ι i).block)
  | [], C, hI => ⟨C, rfl, rfl, rfl, hI, Ext.refl C (Nat.le_refl _), fun i hi => by simp at hi⟩
  | i :: is, C, hI => by
    obtain ⟨h1, h2⟩ := frz_ctx hI i
    obtain ⟨C', g1, g2, g3, g4, g5, g6⟩ := frzs_ctx is h1
    have hlen : (C.frz i).st.length = C.st.length := setO_length _ _ _
    refine ⟨C', g1, g2, g3, g4, h2.trans g5 (by omega), fun j hj hlt hl => ?_⟩
    by_cases hij : i = j
    · subst hij
      refine g5.keeps.X _ ?_
      rcases hl with ⟨⟨⟨T, xs⟩, hy⟩, hn⟩ | ⟨K, V, es, hx⟩
      · cases hx : nthO C.st i <;> rw [hx] at hy <;> simp [elT] at hy
        · exact .inr ⟨hlt, by rw [hx]; rfl, by rw [hx]; simp [ownd, hn], rfl⟩
        · have := hI.obj i hlt
          rw [hx] at this
          obtain ⟨_, ⟨h0, _⟩ | ⟨_, h3, _⟩⟩ := this
          · rw [hn] at h0; cases h0
          · exact .inl h3
      · exact .inr ⟨hlt, by rw [hx]; rfl, by rw [hx]; rfl, rfl⟩
    · have hj := (List.mem_cons.1 hj).resolve_left (Ne.symm hij)
      refine g6 j hj (by omega) ?_
      have e := (frz_nth (C := C) (i := i) (j := j)).resolve_right fun h => hij h.1
      unfold Lent
      rw [e.2]; exact hl
theorem freezeSt_length : ∀ (is : List Nat) (st : List Obj), (freezeSt st is).length = st.length
  | [], _ => rfl
  | i :: is, st => by simp only [freezeSt]; rw [freezeSt_length is, setO_length]
theorem pure_rel {C C' : Ctx} (hI : Inv C) (hk : Keeps C C') (hw : C'.w = C.w) {a b : AV} {v : Value} (h : pureA C.st a = some b) (hX : ∀ i, i ∈ rowsOf a → i < C.st.length → Lent C i → C'.X (C.ι i).block) (hr : Rel C a v) : Rel C' b v := by
  obtain ⟨g1, g2, g3, g4⟩ := pureA_shape a b h
  have hj : a ≠ .junk := by intro e; subst e; simp [pureA] at h
  exact ⟨.inl (by rw [g1]; exact hr.1.resolve_right hj), .inl (by rw [g2]; exact hr.2.1.resolve_right hj), pureA_M hI hk hw a b _ _ h hX hr.2.2⟩
theorem ML_set {C : Ctx} (hI : Inv C) {x : AV} {l : List AV} {i off : Nat} {s s' : Src} {o : Nat} (hoff : offF l i = off) (hi : i < l.length) (hw : wid x = wid (nth l i)) (h : ML C l s o) (hx : M C x s' (o + off))
    (hs : ∀ j, j < widL l → ¬ (off ≤ j ∧ j < off + wid x) → s' (o + j) = s (o + j)) : ML C (setN l i x) s' o :=
  ML_put hI hx l i off s s' o hoff hi hw h (fun j hj => by
    by_cases hc : off ≤ j ∧ j < off + wid x
    · rw [if_pos hc]; congr 1; omega
    · rw [if_neg hc]; exact hs j hj hc)
theorem wid_setP : ∀ (p : List Nat) (a x : AV), inP a p = true → wid x = wid (atP a p) → wid (setP a p x) = wid a
  | [], a, x, _, h => by cases a <;> simpa [setP, atP] using h
  | j :: p, .agg l, x, hp, h => by
    simp only [inP, Bool.and_eq_true, decide_eq_true_eq] at hp
    simp only [atP, fld] at h
    simp only [setP, wid]
    exact setN_widL l j _ (wid_setP p (nth l j) x hp.2 h)
  | _ :: _, .junk, _, hp, _ | _ :: _, .lit _, _, hp, _ | _ :: _, .lst _ _, _, hp, _ | _ :: _, .tup _, _, hp, _ | _ :: _, .slc _ _ _, _, hp, _
  | _ :: _, .ptr _ _ _ _, _, hp, _ | _ :: _, .pim _ _, _, hp, _ | _ :: _, .mp _, _, hp, _ | _ :: _, .yld _, _, hp, _ | _ :: _, .stp _ _, _, hp, _
  | _ :: _, .clo _ _, _, hp, _ | _ :: _, .ifc _ _, _, hp, _ | _ :: _, .fmp _ _ _ _, _, hp, _ => by simp [inP] at hp
theorem M_setP {C : Ctx} (hI : Inv C) {x : AV} : ∀ (p : List Nat) (a : AV) (s s' : Src) (o : Nat), inP a p = true → wid x = wid (atP a p) → M C a s o → M C x s' (o + offP a p) →
    (∀ j, j < wid a → ¬ (offP a p ≤ j ∧ j < offP a p + wid x) → s' (o + j) = s (o + j)) → M C (setP a p x) s' o
  | [], a, s, s', o, _, _, _, hx, _ => by cases a <;> simpa [setP, offP] using hx
  | j :: p, .agg l, s, s', o, hp, hw, h, hx, hs => by
    simp only [inP, Bool.and_eq_true, decide_eq_true_eq] at hp
    simp only [atP, fld] at hw
    simp only [offP] at hx hs
    simp only [M] at h
    simp only [wid] at hs
    simp only [setP, M]
    have hw2 := wid_setP p (nth l j) x hp.2 hw
    have hle := offF_le l j hp.1
    have hle2 := offP_le p (nth l j) hp.2
    refine ML_set hI rfl hp.1 hw2 h ?_ (fun k hk hnk => hs k hk (by omega))
    refine M_setP hI p (nth l j) s s' (o + offF l j) hp.2 hw (ML_at l j s o hp.1 h) (by rwa [show o + offF l j + offP (nth l j) p = o + (offF l j + offP (nth l j) p) by omega]) (fun k hk hnk => ?_)
    have := hs (offF l j + k) (by omega) (by omega)
    rwa [show o + offF l j + k = o + (offF l j + k) by omega]
  | _ :: _, .junk, _, _, _, hp, _, _, _, _ | _ :: _, .lit _, _, _, _, hp, _, _, _, _ | _ :: _, .lst _ _, _, _, _, hp, _, _, _, _ | _ :: _, .tup _, _, _, _, hp, _, _, _, _ | _ :: _, .slc _ _ _, _, _, _, hp, _, _, _, _
  | _ :: _, .ptr _ _ _ _, _, _, _, hp, _, _, _, _ | _ :: _, .pim _ _, _, _, _, hp, _, _, _, _ | _ :: _, .mp _, _, _, _, hp, _, _, _, _ | _ :: _, .yld _, _, _, _, hp, _, _, _, _ | _ :: _, .stp _ _, _, _, _, hp, _, _, _, _
  | _ :: _, .clo _ _, _, _, _, hp, _, _, _, _ | _ :: _, .ifc _ _, _, _, _, hp, _, _, _, _ | _ :: _, .fmp _ _ _ _, _, _, _, hp, _, _, _, _ => by simp [inP] at hp
theorem solid_setN : ∀ (l : List AV) (i : Nat) (x : AV), solidL l = true → solid x = true → solidL (setN l i x) = true
  | [], _, _, _, _ => by simp [setN, solidL]
  | a :: l, 0, x, h, hx => by simp only [solidL, Bool.and_eq_true] at h; simp [setN, solidL, hx, h.2]
  | a :: l, i + 1, x, h, hx => by simp only [solidL, Bool.and_eq_true] at h; simp [setN, solidL, h.1, solid_setN l i x h.2 hx]
theorem solid_setP : ∀ (p : List Nat) (a x : AV), inP a p = true → solid a = true → solid x = true → solid (setP a p x) = true
  | [], a, x, _, _, hx => by cases a <;> simpa [setP] using hx
  | j :: p, .agg l, x, hp, h, hx => by
    simp only [inP, Bool.and_eq_true, decide_eq_true_eq] at hp
    simp only [solid] at h
    simp only [setP, solid]
    exact solid_setN l j _ h (solid_setP p (nth l j) x hp.2 (solid_at l j hp.1 h) hx)
  | _ :: _, .junk, _, hp, _, _ | _ :: _, .lit _, _, hp, _, _ | _ :: _, .lst _ _, _, hp, _, _ | _ :: _, .tup _, _, hp, _, _ | _ :: _, .slc _ _ _, _, hp, _, _
  | _ :: _, .ptr _ _ _ _, _, hp, _, _ | _ :: _, .pim _ _, _, hp, _, _ | _ :: _, .mp _, _, hp, _, _ | _ :: _, .yld _, _, hp, _, _ | _ :: _, .stp _ _, _, hp, _, _
  | _ :: _, .clo _ _, _, hp, _, _ | _ :: _, .ifc _ _, _, hp, _, _ | _ :: _, .fmp _ _ _ _, _, hp, _, _ => by simp [inP] at hp
theorem spliced (cur : Array Value) (o : Nat) (vs : List Value) (h : o + vs.length ≤ cur.size) (j : Nat) :
    ((cur.toList.take o ++ vs ++ cur.toList.drop (o + vs.length)).toArray)[j]? = if o ≤ j ∧ j < o + vs.length then vs[j - o]? else cur[j]? := by
  rw [List.getElem?_toArray]
  have hlt : (cur.toList.take o).length = o := by simp; omega
  by_cases h1 : j < o
  · rw [List.append_assoc, List.getElem?_append_left (by omega), if_neg (by omega)]
    simp [h1]
  · by_cases h2 : j < o + vs.length
    · rw [List.append_assoc, List.getElem?_append_right (by omega), hlt, List.getElem?_append_left (by omega), if_pos (by omega)]
    · rw [List.getElem?_append_right (by simp; omega), if_neg (by omega)]
      simp only [List.length_append, hlt, List.getElem?_drop]
      rw [show o + vs.length + (j - (o + vs.length)) = j by omega]
      simp
end Go.Dn
