import Derived.Test.YtbppdpbagmbmpaaGreatDoorDnT2
namespace Go.Dn
open Go
theorem flat_one {P : Program} {E : TypeId} (h : flatT P E = true) : P.cellsOf E = 1 := by
  unfold flatT at h
  split at h <;> simp_all
theorem setL_length : ∀ (l : List (List Value)) (k : Nat) (x : List Value), (setL l k x).length = l.length
  | [], _, _ => rfl
  | _ :: _, 0, _ => rfl
  | _ :: l, k + 1, x => by simp [setL, setL_length l k x]
theorem nthL_same : ∀ (l : List (List Value)) (k : Nat) (x : List Value), k < l.length → nthL (setL l k x) k = x
  | [], _, _, h => by simp at h
  | _ :: _, 0, _, _ => rfl
  | _ :: l, k + 1, x, h => nthL_same l k x (by simpa using h)
theorem nthL_other : ∀ (l : List (List Value)) (k j : Nat) (x : List Value), j ≠ k → nthL (setL l k x) j = nthL l j
  | [], _, _, _, _ => rfl
  | _ :: _, 0, 0, _, h => absurd rfl h
  | _ :: _, 0, _ + 1, _, _ => rfl
  | _ :: _, _ + 1, 0, _, _ => rfl
  | _ :: l, k + 1, j + 1, x, h => nthL_other l k j x (by omega)
theorem multi_own {g : G} {o : Obj} (h : multiB o = true) : ownd g o = true := by cases o <;> simp [multiB] at h <;> rfl
theorem sub_ctx {C C' : Ctx} (hI : Inv C) {i : Nat} (hi : i < C.st.length) {o : Obj} (hown : ownd (C.ι i) (nthO C.st i) = true) (e1 : C'.P = C.P) (e2 : C'.X = C.X) (e3 : C'.ι = C.ι) (e4 : C'.st = setO C.st i o) (e5 : C'.phi = C.phi)
    (hsz : C.w.heap.size ≤ C'.w.heap.size) (hos : SameOs C.w C'.w) (hold : ∀ b, b < C.w.heap.size → C.cls b ≠ (C.ι i).block → C'.w.heap[b]? = C.w.heap[b]?) (hcls : ∀ b, b < C.w.heap.size → C'.cls b = C.cls b ∧ C'.elt b = C.elt b)
    (hnew : ∀ b, C.w.heap.size ≤ b → (C'.cls b = b ∧ C'.elt b = C.elt b) ∨ (C'.cls b = (C.ι i).block ∧ b < C'.w.heap.size)) (hr : RefOK C C' i i) (ho : ObjOK C' (C.ι i) o) : Inv C' ∧ Ext C.st.length C C' := by
  have hi' := (hI.obj i hi).lt hown
  have hci := hI.cown i hi hown
  have xcls : ∀ b, C.X b → C.cls b = b := fun b hb => by
    by_cases e : C.cls b = b
    · exact e
    · exact absurd hb (hI.clt b e).2.1
  have hk : Keeps C C' := ⟨e1, fun _ h => by rw [e2]; exact h, fun b hb => hold b (hI.xs b hb) (fun e => hi'.2 (by rw [← e, xcls b hb]; exact hb))⟩
  have hlen : C'.st.length = C.st.length := by rw [e4, setO_length]
  have hn : ∀ j, i ≠ j → nthO C'.st j = nthO C.st j := fun j h => by rw [e4]; exact nthO_setO_other _ _ _ _ h
  have hs : nthO C'.st i = o := by rw [e4]; exact nthO_setO_same _ _ _ hi
  have hne : ∀ j, j < C.st.length → i ≠ j → ownd (C.ι j) (nthO C.st j) = true → (C.ι j).block ≠ (C.ι i).block := fun j hj hij h => hI.dis j i hj hi (Ne.symm hij) h hown
  have hrefs : ∀ j, j < C.st.length → RefOK C C' j j := fun j hj => by
    by_cases hij : i = j
    · subst hij; exact hr
    · refine refs_same hI hj (by omega) (hn j hij) (by rw [e3]) (fun h b hb => ?_)
      have hlt := (hI.own_lt ⟨j, hj, h, hb.symm⟩).1
      exact ⟨(hcls b hlt).1, (hcls b hlt).2, hold b hlt (by rw [hb]; exact hne j hj hij h)⟩
  have hh : ∀ k, k < C.st.length → ownd (C'.ι k) (nthO C'.st k) = true → ownd (C.ι k) (nthO C.st k) = true := fun k hk h => by
    by_cases e : i = k
    · subst e; exact hown
    · rwa [hn k e, e3] at h
  refine ⟨⟨by rw [e1]; exact hI.lay, fun j hj => ?_, fun j k hj hk' hjk hoj hok => ?_, fun b hb => by rw [e2] at hb; have := hI.xs b hb; omega, fun j hj hoj => ?_, fun b hb => ?_, hI.kept' hk⟩,
    ⟨hk, hsz, hos.os, hos.tape, hos.output, fun b hlt hb => hold b hlt (fun e => hb ⟨i, hi, hown, e.symm⟩), fun b hb => .inl (by rw [e2] at hb; exact hb), fun b hb => ?_, hrefs, fun b => ?_, e5⟩⟩
  · rw [hlen] at hj
    rw [e3]
    by_cases hij : i = j
    · subst hij; rw [hs]; exact ho
    · rw [hn j hij]
      refine (hI.obj j hj).keep hk hI.lay (fun j hj _ => hrefs j hj) (hI.cown j hj) ⟨fun b h' hb => ?_, fun h' b => ?_, hos, hsz, fun _ _ => e5⟩
      · have hlt := hI.own_lt ⟨j, hj, h', hb.symm⟩
        exact ⟨by rw [e2]; exact hlt.2, hold b hlt.1 (by rw [hb]; exact hne j hj hij h')⟩
      · have hoj : ownd (C.ι j) (nthO C.st j) = true := multi_own h'
        rcases Nat.lt_or_ge b C.w.heap.size with hlt | hge
        · rw [(hcls b hlt).1]; exact ⟨Iff.rfl, fun _ => (hcls b hlt).2⟩
        · have hbj := ((hI.obj j hj).lt hoj).1
          have h1 : C.cls b ≠ (C.ι j).block := by rw [hI.fresh hge]; omega
          refine ⟨⟨fun h => ?_, fun h => absurd h h1⟩, fun h => absurd h h1⟩
          rcases hnew b hge with ⟨h2, _⟩ | ⟨h2, _⟩
          · omega
          · exact absurd (h.symm.trans h2) (hne j hj hij hoj)
  · rw [hlen] at hj hk'
    rw [e3]
    exact hI.dis j k hj hk' hjk (hh j hj hoj) (hh k hk' hok)
  · rw [hlen] at hj
    have h := hh j hj hoj
    rw [e3, (hcls _ ((hI.obj j hj).lt h).1).1]
    exact hI.cown j hj h
  · rcases Nat.lt_or_ge b C.w.heap.size with hlt | hge
    · rw [(hcls b hlt).1] at hb ⊢
      have := hI.clt b hb
      exact ⟨by omega, by rw [e2]; exact this.2.1, by omega⟩
    · rcases hnew b hge with ⟨h2, _⟩ | ⟨h2, h3⟩
      · exact absurd h2 hb
      · exact ⟨h3, by rw [e2]; intro h; have := hI.xs b h; omega, by rw [h2]; omega⟩
  · obtain ⟨j, hj, ho', hb'⟩ := hb
    rw [hlen] at hj
    rw [e3] at hb'
    rcases Nat.lt_or_ge b C.w.heap.size with hlt | hge
    · rw [(hcls b hlt).1] at hb'
      exact .inl ⟨j, hj, hh j hj ho', hb'⟩
    · exact .inr hge
  · rcases Nat.lt_or_ge b C.w.heap.size with hlt | hge
    · exact .inl (hcls b hlt)
    · rcases hnew b hge with ⟨h2, h3⟩ | ⟨h2, _⟩
      · exact .inl ⟨by rw [h2, hI.fresh hge], h3⟩
      · exact .inr ⟨hge, .inl (by rw [h2]; exact hI.own_at hi hown)⟩
theorem vals_at {C : Ctx} : ∀ (ys : List AV) (vs : List Value) (s : Src) (o : Nat), toVals ys = some vs → MR C ys 1 s o → vs.length = ys.length ∧ ∀ j, j < vs.length → s (o + j) = vs[j]?
  | [], vs, _, _, h, _ => by simp only [toVals, Option.some.injEq] at h; subst h; exact ⟨rfl, fun j hj => by simp at hj⟩
  | .lit v :: l, vs, s, o, h, hm => by
    simp only [toVals] at h
    split at h
    · rename_i m hr
      simp only [Option.some.injEq] at h; subst h
      simp only [MR, M] at hm
      obtain ⟨h1, h2⟩ := vals_at l m s (o + 1) hr hm.2
      refine ⟨by simp [h1], fun j hj => ?_⟩
      cases j with
      | zero => simpa using hm.1.1
      | succ j =>
        have := h2 j (by simpa using hj)
        rw [show o + (j + 1) = o + 1 + j by omega, this]; rfl
    · cases h
  | .junk :: _, _, _, _, h, _ | .lst _ _ :: _, _, _, _, h, _ | .agg _ :: _, _, _, _, h, _ | .tup _ :: _, _, _, _, h, _ | .slc _ _ _ :: _, _, _, _, h, _ | .ptr _ _ _ _ :: _, _, _, _, h, _ | .pim _ _ :: _, _, _, _, h, _
  | .mp _ :: _, _, _, _, h, _ | .yld _ :: _, _, _, _, h, _ | .stp _ _ :: _, _, _, _, h, _ | .clo _ _ :: _, _, _, _, h, _ | .ifc _ _ :: _, _, _, _, h, _ | .fmp _ _ _ _ :: _, _, _, _, h, _ => by simp [toVals] at h
theorem vals_len : ∀ (ys : List AV) (vs : List Value), toVals ys = some vs → vs.length = ys.length
  | [], vs, h => by simp only [toVals, Option.some.injEq] at h; subst h; rfl
  | .lit v :: l, vs, h => by
    simp only [toVals] at h
    split at h
    · rename_i m hr
      simp only [Option.some.injEq] at h; subst h
      simp [vals_len l m hr]
    · cases h
  | .junk :: _, _, h | .lst _ _ :: _, _, h | .agg _ :: _, _, h | .tup _ :: _, _, h | .slc _ _ _ :: _, _, h | .ptr _ _ _ _ :: _, _, h | .pim _ _ :: _, _, h
  | .mp _ :: _, _, h | .yld _ :: _, _, h | .stp _ _ :: _, _, h | .clo _ _ :: _, _, h | .ifc _ _ :: _, _, h | .fmp _ _ _ _ :: _, _, h => by simp [toVals] at h
theorem vals_typ {P : Program} {E : TypeId} : ∀ (ys : List AV) (vs : List Value), toVals ys = some vs → ptypL P ys E → ∀ v, v ∈ vs → ptyp P (.lit v) E
  | [], vs, h, _, v, hv => by simp only [toVals, Option.some.injEq] at h; subst h; cases hv
  | .lit u :: l, vs, h, hp, v, hv => by
    simp only [toVals] at h
    split at h
    · rename_i m hr
      simp only [Option.some.injEq] at h; subst h
      simp only [ptypL] at hp
      rcases List.mem_cons.1 hv with rfl | hv
      · exact hp.1
      · exact vals_typ l m hr hp.2 v hv
    · cases h
  | .junk :: _, _, h, _, _, _ | .lst _ _ :: _, _, h, _, _, _ | .agg _ :: _, _, h, _, _, _ | .tup _ :: _, _, h, _, _, _ | .slc _ _ _ :: _, _, h, _, _, _ | .ptr _ _ _ _ :: _, _, h, _, _, _ | .pim _ _ :: _, _, h, _, _, _
  | .mp _ :: _, _, h, _, _, _ | .yld _ :: _, _, h, _, _, _ | .stp _ _ :: _, _, h, _, _, _ | .clo _ _ :: _, _, h, _, _, _ | .ifc _ _ :: _, _, h, _, _, _ | .fmp _ _ _ _ :: _, _, h, _, _, _ => by simp [toVals] at h
theorem grown_ctx {C C' : Ctx} (hI : Inv C) {i k : Nat} (hi : i < C.st.length) {T E : TypeId} {ls : List (List Value)} (hst : nthO C.st i = .rows T E ls none) (hk : k < ls.length) {vs : List Value} (hvs : ∀ v, v ∈ vs → ptyp C.P (.lit v) E) (e1 : C'.P = C.P) (e2 : C'.X = C.X) (e3 : C'.ι = C.ι)
    (e4 : C'.st = setO C.st i (.rows T E (setL ls k (nthL ls k ++ vs)) (some k))) (e5 : C'.phi = C.phi) (hsz : C.w.heap.size ≤ C'.w.heap.size) (hos : SameOs C.w C'.w) (hcls : ∀ b, b < C.w.heap.size → C'.cls b = C.cls b ∧ C'.elt b = C.elt b)
    (hnew : ∀ b, C.w.heap.size ≤ b → (C'.cls b = b ∧ C'.elt b = C.elt b) ∨ (C'.cls b = (C.ι i).block ∧ b < C'.w.heap.size))
    (hchg : ∀ b, b < C.w.heap.size → C'.w.heap[b]? = C.w.heap[b]? ∨ (C.cls b = (C.ι i).block ∧ b ≠ (C.ι i).block ∧ C.elt b = k ∧ ∃ c c', C.w.heap[b]? = some (.cells c E (0, 0)) ∧ C'.w.heap[b]? = some (.cells c' E (0, 0)) ∧ c'.size = c.size ∧ ∀ j, j < (nthL ls k).length → c'[j]? = c[j]?)) :
    Inv C' ∧ Ext C.st.length C C' := by
  have hown : ownd (C.ι i) (nthO C.st i) = true := by rw [hst]; rfl
  have hob := hI.obj i hi
  rw [hst] at hob
  obtain ⟨g1, g2, g3, g4, c, g5, g6, g7⟩ := hob
  have hat : ∀ j, nthL (setL ls k (nthL ls k ++ vs)) j = if j = k then nthL ls k ++ vs else nthL ls j := fun j => by
    by_cases e : j = k
    · rw [if_pos e, e, nthL_same _ _ _ hk]
    · rw [if_neg e, nthL_other _ _ _ _ e]
  have hsub : ∀ j m v, SubOK C (C.ι i).block E j (nthL ls j) m v → SubOK C' (C.ι i).block E j (nthL (setL ls k (nthL ls k ++ vs)) j) m v := fun j m v h => by
    obtain ⟨h1, h2⟩ := h
    rw [hat]
    have hl : m ≤ (if j = k then nthL ls k ++ vs else nthL ls j).length := by
      by_cases e : j = k
      · rw [if_pos e]; subst e; simp; omega
      · rw [if_neg e]; exact h1
    refine ⟨hl, h2.imp id ?_⟩
    rintro ⟨b, cap, c0, h3, h4, h5, h6, h7, h8, h9, h10, h11⟩
    have hlt := (Array.getElem?_eq_some_iff.1 h9).1
    have hlist : ∀ x, x < m → c0[x]? = (if j = k then nthL ls k ++ vs else nthL ls j)[x]? := fun x hx => by
      rw [h11 x hx]
      by_cases e : j = k
      · rw [if_pos e]; subst e
        rw [List.getElem?_append_left (by omega)]
      · rw [if_neg e]
    rcases hchg b hlt with h | ⟨_, _, he, c1, c2, h12, h13, h14, h15⟩
    · exact ⟨b, cap, c0, h3, h4, h5, by rw [(hcls b hlt).1]; exact h6, h7, by rw [(hcls b hlt).2]; exact h8, by rw [h]; exact h9, h10, hlist⟩
    · rw [h9] at h12
      cases h12
      refine ⟨b, cap, c2, h3, h4, h5, by rw [(hcls b hlt).1]; exact h6, h7, by rw [(hcls b hlt).2]; exact h8, h13, by rw [h14]; exact h10, fun x hx => ?_⟩
      have ejk : j = k := h8.symm.trans he
      rw [h15 x (by rw [← ejk]; omega)]
      exact hlist x hx
  have hB := hI.cown i hi hown
  have hBlt := ((hI.obj i hi).lt hown).1
  have hbb : C'.w.heap[(C.ι i).block]? = C.w.heap[(C.ι i).block]? := (hchg _ hBlt).resolve_right fun h => h.2.1 rfl
  have hs : nthO C'.st i = .rows T E (setL ls k (nthL ls k ++ vs)) (some k) := by rw [e4]; exact nthO_setO_same _ _ _ hi
  refine sub_ctx hI hi hown e1 e2 e3 e4 e5 hsz hos (fun b hlt hb => (hchg b hlt).resolve_right fun h => hb h.1) hcls hnew
    ⟨by rw [e4, setO_length]; exact hi, fun T xs hx => (by rw [hs] at hx; simp [elT] at hx), fun T b hx => (by rw [hs] at hx; cases hx), fun _ _ _ hx => (by rw [hs] at hx; cases hx), fun _ hx => (by rw [hs] at hx; cases hx), fun _ _ _ hx => (by rw [hs] at hx; cases hx), fun _ hx => (by rw [hs] at hx; cases hx), fun _ _ hx => (by rw [hs] at hx; cases hx),
      fun _ _ _ _ _ hx => (by rw [hs] at hx; cases hx), fun T' E' ls' pd' hx => ?_⟩
    ⟨by rw [e2]; exact g1, by rw [e1]; exact g2, by rw [e1]; exact g3, fun j v hv => ?_, c, by rw [hbb]; exact g5, by rw [setL_length]; exact g6, fun j hj hp => ?_⟩
  · rw [hs] at hx
    cases hx
    exact ⟨ls, none, hst, by rw [e3], setL_length _ _ _, hsub⟩
  · rw [e1]
    rw [hat] at hv
    by_cases e : j = k
    · rw [if_pos e] at hv
      rcases List.mem_append.1 hv with hv | hv
      · exact g4 k v hv
      · exact hvs v hv
    · rw [if_neg e] at hv; exact g4 j v hv
  · rw [setL_length] at hj
    have e : j ≠ k := fun e => hp (by rw [e])
    obtain ⟨v, h1, h2⟩ := g7 j hj (by simp)
    have := hsub j _ v h2
    rw [hat, if_neg e] at this ⊢
    exact ⟨v, h1, this⟩
theorem append_sub_run {C : Ctx} (hI : Inv C) {T Te ty Tr : TypeId} (hT : C.P.underlying T = some (.slice Te)) {i k n : Nat} {ls : List (List Value)} (hst : nthO C.st i = .rows Tr Te ls none) {vx : Value} (hrx : Rel C (.slc i (k + 1) n) vx)
    {y : AV} {Ty : Option TypeId} {ys : List AV} {vy : Value} (hy : sliceOf C.st y = some (Ty, ys)) (hf : tyFits Ty Te = true) (hr : Rel C y vy) {vs : List Value} (hvs : toVals ys = some vs) {z : AV} (hz : zeroA C.P Te = some z)
    (hn : n = (nthL ls k).length) (hb : (n + ys.length + 1) * (C.P.bytesOf Te + 1) ≤ limB) :
    ∃ v' C', (Builtin.append_ #[T, T] ty #[vx, vy]).run C.P C.w = .ok v' C'.w ∧ C'.st = setO C.st i (.rows Tr Te (setL ls k (nthL ls k ++ vs)) (some k)) ∧ Inv C' ∧ Ext C.st.length C C' ∧ Rel C' (.slc i (k + 1) (n + ys.length)) v' := by
  obtain ⟨p, c, rfl, hp, hne⟩ := src_cells hI hy hf hr
  obtain ⟨ti, zv, hi, hzv, hrz, hcz, hpz⟩ := zero_sound hI hz
  obtain ⟨d, hd⟩ := ptyp_under hpz
  obtain ⟨his, hib⟩ := info_parts' hi
  obtain ⟨hb1, hb2⟩ := bounds_of hb
  obtain ⟨hil, hs⟩ := rel_slc hrx
  obtain ⟨hkl, hle, hv⟩ := hs.2 _ _ _ _ hst
  have hob := hI.obj i hil
  rw [hst] at hob
  obtain ⟨g1, g2, g3, g4, g5⟩ := hob
  have hz1 := flat_one g3
  rw [hz1] at his
  have hty := vals_typ ys vs hvs hp
  have hvl := vals_len ys vs hvs
  have hown : ownd (C.ι i) (nthO C.st i) = true := by rw [hst]; rfl
  have hBlt := ((hI.obj i hil).lt hown).1
  have one : ∀ u, u ∈ vs → u.oneCell' = true := fun u hu => by rw [← oneV_cell]; exact (flat_lit g3 (hty u hu)).1
  have atL : nthL (setL ls k (nthL ls k ++ vs)) k = nthL ls k ++ vs := nthL_same _ _ _ hkl
  have rel : ∀ {C' : Ctx} {v' : Value}, C'.st = setO C.st i (.rows Tr Te (setL ls k (nthL ls k ++ vs)) (some k)) → C'.ι = C.ι → Inv C' → isAggV v' = false → oneV v' = true → SubOK C' (C.ι i).block Te k (nthL ls k ++ vs) (n + ys.length) v' → Rel C' (.slc i (k + 1) (n + ys.length)) v' := fun {C' v'} e4 e3 hI' h1 h2 h3 => by
    refine rel_mk rfl h1 ?_ hI'
    simp only [M]
    have hs' : nthO C'.st i = .rows Tr Te (setL ls k (nthL ls k ++ vs)) (some k) := by rw [e4]; exact nthO_setO_same _ _ _ hil
    refine ⟨by rw [e4, setO_length]; exact hil, v', rfl, h2, fun T0 xs hx => (by rw [hs'] at hx; simp [elT] at hx), fun T0 E0 l0 p0 hx => ?_⟩
    rw [hs'] at hx
    cases hx
    refine ⟨by rw [setL_length]; exact hkl, ?_⟩
    rw [e3, atL]; exact h3
  have upd : Inv (C.upd i (.rows Tr Te (setL ls k (nthL ls k ++ vs)) (some k)) C.w) ∧ Ext C.st.length C (C.upd i (.rows Tr Te (setL ls k (nthL ls k ++ vs)) (some k)) C.w) :=
    grown_ctx hI hil hst hkl hty rfl rfl rfl rfl rfl (Nat.le_refl _) (SameOs.refl _) (fun _ _ => ⟨rfl, rfl⟩) (fun b hb => .inl ⟨hI.fresh hb, rfl⟩) (fun _ _ => .inl rfl)
  by_cases h0 : ys = []
  · subst h0
    obtain rfl : vs = [] := List.eq_nil_of_length_eq_zero hvl
    refine ⟨vx, _, ?_, rfl, upd.1, upd.2, ?_⟩
    · rcases hv with ⟨rfl, rfl⟩ | ⟨b, cap, c0, rfl, h1, _⟩
      · exact run_append_zero hT hd none p 0 0 c (Nat.le_refl _)
      · exact run_append_zero hT hd _ p n cap c h1
    · refine rel rfl rfl upd.1 ?_ ?_ ?_
      · rcases hv with ⟨rfl, rfl⟩ | ⟨b, cap, c0, rfl, _⟩ <;> rfl
      · rcases hv with ⟨rfl, rfl⟩ | ⟨b, cap, c0, rfl, _⟩ <;> rfl
      · rw [List.append_nil]; exact ⟨hle, hv⟩
  obtain ⟨b0, off, rfl, hm⟩ := hne h0
  rw [hz1] at hm
  have hpos : 0 < ys.length := List.length_pos_iff.2 h0
  obtain ⟨_, hat⟩ := vals_at ys vs _ off hvs hm
  have hnews : ∀ j u, vs[j]? = some u → C.w.cell? ((⟨b0, off, none⟩ : Addr).add j) = some u := fun j u hu => by
    rw [addr_add, ← hu]
    exact hat j (List.getElem?_eq_some_iff.1 hu).1
  have hzs : zv.cells.size = 1 := by
    rw [hrz.2.1.resolve_right (by intro e; subst e; simp [ptyp] at hpz), ptyp_wid hI.lay _ _ hpz, hz1]
  have fresh : ∀ (w' : World) (cs : Array Value) (cap : Nat), w' = C.w.drew.alloc (.cells cs Te) → cap ≤ maxLen → n + ys.length ≤ cap → cs.size = cap → (∀ j, j < n + ys.length → cs[j]? = (nthL ls k ++ vs)[j]?) →
      (Builtin.append_ #[T, T] ty #[vx, .slice (some ⟨b0, off, none⟩) ys.length c]).run C.P C.w = .ok (.slice (some ⟨C.w.heap.size, 0, none⟩) (n + ys.length) cap) w' →
      ∃ v' C', (Builtin.append_ #[T, T] ty #[vx, .slice (some ⟨b0, off, none⟩) ys.length c]).run C.P C.w = .ok v' C'.w ∧ C'.st = setO C.st i (.rows Tr Te (setL ls k (nthL ls k ++ vs)) (some k)) ∧ Inv C' ∧ Ext C.st.length C C' ∧ Rel C' (.slc i (k + 1) (n + ys.length)) v' := fun w' cs cap hw hc1 hc2 hc3 hc4 hrun => by
    have hnw : w'.heap[C.w.heap.size]? = some (.cells cs Te (0, 0)) := by rw [hw]; exact alloc_heap_new C.w.drew _
    have hnsz : w'.heap.size = C.w.heap.size + 1 := by rw [hw, alloc_size]; rfl
    have hh := grown_ctx (C' := { C with st := setO C.st i (.rows Tr Te (setL ls k (nthL ls k ++ vs)) (some k)), w := w', cls := fun x => if x = C.w.heap.size then (C.ι i).block else C.cls x, elt := fun x => if x = C.w.heap.size then k else C.elt x }) hI hil hst hkl hty rfl rfl rfl rfl rfl
      (by show _ ≤ w'.heap.size; omega) (by subst hw; exact ⟨rfl, rfl, rfl⟩) (fun b hb => ⟨if_neg (by omega), if_neg (by omega)⟩) (fun b hb => ?_) (fun b hb => .inl (by subst hw; exact alloc_heap_old C.w.drew _ b hb))
    · refine ⟨_, _, hrun, rfl, hh.1, hh.2, rel rfl rfl hh.1 rfl rfl ⟨by rw [List.length_append]; omega, .inr ⟨_, cap, cs, rfl, hc2, hc1, if_pos rfl, by omega, if_pos rfl, hnw, hc3.symm, hc4⟩⟩⟩
    · by_cases e : b = C.w.heap.size
      · exact .inr ⟨if_pos e, by show b < w'.heap.size; omega⟩
      · exact .inl ⟨(if_neg e).trans (hI.fresh hb), if_neg e⟩
  rcases hv with ⟨rfl, rfl⟩ | ⟨b, cap, c0, rfl, h1, h2, h3, h4, h5, h6, h7, h8⟩
  · have hl0 : nthL ls k = [] := List.eq_nil_of_length_eq_zero hn.symm
    have hrun := run_append_nil (P := C.P) C.w T ty Te ti zv hT hi hzv ⟨b0, off, none⟩ ys.length c vs (by rw [hvl, his, Nat.mul_one]) hnews hpos (by omega) (by rw [hib]; simp only [Nat.zero_add] at hb1; omega)
    have hge := grownCap_ge C.w ys.length 0 Te
    refine fresh _ _ (grownCap C.w ys.length 0 Te) rfl (grownCap_le_maxLen C.w ys.length 0 Te (by unfold maxLen; omega)) (by omega) ?_ (fun j hj => ?_) (by rw [Nat.zero_add]; exact hrun)
    · simp only [Array.size_append, List.size_toArray, size_zeroCells, hzs]; omega
    · rw [hl0, List.nil_append, Array.getElem?_append_left (by simp; omega)]; simp
  · have hx0 : (nthL ls k).length = n := hn.symm
    have hold : ∀ j u, (nthL ls k)[j]? = some u → C.w.cell? ((⟨b, 0, none⟩ : Addr).add j) = some u := fun j u hu => by
      have hj := (List.getElem?_eq_some_iff.1 hu).1
      rw [addr_add, ← hu, Nat.zero_add]
      simp only [World.cell?, h6]
      exact h8 j (by omega)
    by_cases hroom : n + ys.length ≤ cap
    · have hrun := run_append_room (P := C.P) C.w T ty Te ti hT hi b n cap c0 h6 ⟨b0, off, none⟩ ys.length c vs (by rw [hvl, his, Nat.mul_one]) hnews one hroom (by rw [his, hvl]; omega)
      rw [his, Nat.mul_one] at hrun
      have hsp := spliced c0 n vs (by omega)
      have hsame := setRow_heap C.w b c0 (c0.toList.take n ++ vs ++ c0.toList.drop (n + vs.length)).toArray Te (0, 0) h6
      have hother : ∀ x, x ≠ b → (C.w.setRow b (c0.toList.take n ++ vs ++ c0.toList.drop (n + vs.length)).toArray).heap[x]? = C.w.heap[x]? := fun x hx => setRow_other _ _ _ _ hx
      have hcs : (c0.toList.take n ++ vs ++ c0.toList.drop (n + vs.length)).toArray.size = c0.size := by
        simp only [List.size_toArray, List.length_append, List.length_take, List.length_drop, Array.length_toList]; omega
      have hh := grown_ctx (C' := C.upd i (.rows Tr Te (setL ls k (nthL ls k ++ vs)) (some k)) (C.w.setRow b (c0.toList.take n ++ vs ++ c0.toList.drop (n + vs.length)).toArray)) hI hil hst hkl hty rfl rfl rfl rfl rfl
        (by simp [Ctx.upd]) (setRow_os _ _ _) (fun _ _ => ⟨rfl, rfl⟩) (fun x hx => .inl ⟨hI.fresh hx, rfl⟩) (fun x hx => by
          by_cases e : x = b
          · subst e
            exact .inr ⟨h3, h4, h5, c0, _, h6, hsame, hcs, fun j hj => by rw [hsp, if_neg (by omega)]⟩
          · exact .inl (hother x e))
      refine ⟨_, _, hrun, rfl, hh.1, hh.2, rel rfl rfl hh.1 rfl rfl ⟨by rw [List.length_append]; omega, .inr ⟨b, cap, _, rfl, hroom, h2, h3, h4, h5, hsame, by rw [hcs]; exact h7, fun j hj => ?_⟩⟩⟩
      rw [hsp]
      by_cases hj' : n ≤ j ∧ j < n + vs.length
      · rw [if_pos hj', List.getElem?_append_right (by omega), hx0]
      · rw [if_neg hj', h8 j (by omega), List.getElem?_append_left (by omega)]
    · have hrun := run_append_grow (P := C.P) C.w T ty Te ti zv hT hi hzv ⟨b, 0, none⟩ n cap (nthL ls k) (by rw [his, hx0, Nat.mul_one]) hold ⟨b0, off, none⟩ ys.length c vs (by rw [hvl, his, Nat.mul_one]) hnews (by omega) (by omega) (growslice_fits (by omega) (by rw [hib]; exact hb1))
      have hge := grownCap_ge C.w (n + ys.length) cap Te
      refine fresh _ _ (grownCap C.w (n + ys.length) cap Te) rfl (grownCap_le_maxLen C.w (n + ys.length) cap Te (by unfold maxLen; omega)) hge ?_ (fun j hj => ?_) hrun
      · simp only [Array.size_append, List.size_toArray, size_zeroCells, hzs, hx0]; omega
      · rw [Array.getElem?_append_left (by simp; omega)]; simp
theorem store_sub_run {C : Ctx} (hI : Inv C) {T E : TypeId} {i k m off : Nat} (hi : i < C.st.length) {ls : List (List Value)} (hst : nthO C.st i = .rows T E ls (some k)) {v vp : Value} (hp : PtrOK C i k off vp) (hx : Rel C (.slc i (k + 1) m) v) (hm : m = (nthL ls k).length) {d : TypeDesc} (hT : C.P.underlying T = some d) (hz : C.P.cellsOf T = 1) :
    ∃ w', (Instr.storeAt T vp v).run C.P C.w = .ok () w' ∧ Inv (C.upd i (.rows T E ls none) w') ∧ Ext C.st.length C (C.upd i (.rows T E ls none) w') := by
  have hob := hI.obj i hi
  rw [hst] at hob
  obtain ⟨g1, g2, g3, g4, c, g5, g6, g7⟩ := hob
  obtain ⟨hk, _, rfl⟩ := hp.2.2.2.2.2 _ _ _ _ hst
  obtain ⟨_, hs⟩ := rel_slc hx
  obtain ⟨_, hsub⟩ := hs.2 _ _ _ _ hst
  have hv1 : isAggV v = false ∧ v.oneCell' = true := by
    rcases hsub.2 with ⟨rfl, _⟩ | ⟨b, cap, c, rfl, _⟩ <;> exact ⟨rfl, rfl⟩
  have hcell := cells_one hv1.1
  have hrun := run_store_cells hT g5 (v := v) (o := k) (by rw [hcell, hz]; rfl) (by rw [hcell]; show k + 1 ≤ _; omega) (by rw [hcell]; simpa using hv1.2)
  rw [hcell] at hrun
  refine ⟨C.w.setRow (C.ι i).block (c.toList.take k ++ [v] ++ c.toList.drop (k + 1)).toArray, hrun, ?_⟩
  have hsp := spliced c k [v] (by simp; omega)
  have hown : ownd (C.ι i) (nthO C.st i) = true := by rw [hst]; rfl
  have hother : ∀ b, b ≠ (C.ι i).block → (C.w.setRow (C.ι i).block (c.toList.take k ++ [v] ++ c.toList.drop (k + 1)).toArray).heap[b]? = C.w.heap[b]? := fun b hb => setRow_other _ _ _ _ hb
  have hsame := setRow_heap C.w (C.ι i).block c (c.toList.take k ++ [v] ++ c.toList.drop (k + 1)).toArray T (0, 0) g5
  have keep : ∀ j m u, SubOK C (C.ι i).block E j (nthL ls j) m u → SubOK (C.upd i (.rows T E ls none) (C.w.setRow (C.ι i).block (c.toList.take k ++ [v] ++ c.toList.drop (k + 1)).toArray)) (C.ι i).block E j (nthL ls j) m u := fun j m u h => by
    obtain ⟨h1, h2⟩ := h
    refine ⟨h1, h2.imp id ?_⟩
    rintro ⟨b, cap, c0, h3, h4, h5, h6, h7, h8, h9, h10⟩
    exact ⟨b, cap, c0, h3, h4, h5, h6, h7, h8, (hother b h7).trans h9, h10⟩
  have hs' : nthO (C.upd i (.rows T E ls none) (C.w.setRow (C.ι i).block (c.toList.take k ++ [v] ++ c.toList.drop (k + 1)).toArray)).st i = .rows T E ls none := nthO_setO_same _ _ _ hi
  refine upd_ctx hI hi hown (by simp) (setRow_os _ _ _) hother
    ⟨by simp only [Ctx.upd, setO_length]; exact hi, fun T xs hx => (by rw [hs'] at hx; simp [elT] at hx), fun T b hx => (by rw [hs'] at hx; cases hx), fun _ _ _ hx => (by rw [hs'] at hx; cases hx), fun _ hx => (by rw [hs'] at hx; cases hx), fun _ _ _ hx => (by rw [hs'] at hx; cases hx), fun _ hx => (by rw [hs'] at hx; cases hx), fun _ _ hx => (by rw [hs'] at hx; cases hx),
      fun _ _ _ _ _ hx => (by rw [hs'] at hx; cases hx), fun T' E' ls' pd' hx => (by rw [hs'] at hx; cases hx; exact ⟨ls, some k, hst, rfl, rfl, keep⟩)⟩
    ⟨g1, g2, g3, g4, _, hsame, ?_, fun j hj _ => ?_⟩
  · simp only [List.size_toArray, List.length_append, List.length_take, List.length_drop, Array.length_toList, List.length_singleton]; omega
  · have hat : (c.toList.take k ++ [v] ++ c.toList.drop (k + 1)).toArray[j]? = if j = k then some v else c[j]? := by
      have := hsp j
      simp only [List.length_singleton] at this
      rw [this]
      by_cases e : j = k
      · subst e; rw [if_pos (by omega), if_pos rfl]; simp
      · rw [if_neg (by omega), if_neg e]
    by_cases e : j = k
    · subst e
      exact ⟨v, by rw [hat, if_pos rfl], by rw [← hm]; exact keep j m v hsub⟩
    · obtain ⟨u, h1, h2⟩ := g7 j hj (by simpa using Ne.symm e)
      exact ⟨u, by rw [hat, if_neg e]; exact h1, keep j _ u h2⟩
end Go.Dn
