import Derived.Test.YtbppdpbagmbmpaaGreatDoorDnO
namespace Go.Dn
open Go
theorem run_store_cells {P : Program} {w : World} {T : TypeId} {d : TypeDesc} (hT : P.underlying T = some d) {b o : Nat} {cur : Array Value} {e : TypeId} {v : Value} (hh : w.heap[b]? = some (.cells cur e (0, 0)))
    (hsz : v.cells.size = P.cellsOf T) (hle : o + v.cells.size ≤ cur.size) (h1 : ∀ u, u ∈ v.cells.toList → u.oneCell' = true) :
    (Instr.storeAt T (.pointer (some ⟨b, o, none⟩)) v).run P w = .ok () (w.setRow b (cur.toList.take o ++ v.cells.toList ++ cur.toList.drop (o + v.cells.size)).toArray) := by
  have hst := run_storeCells_at P b o e v.cells.toList 0 cur w hh (by simpa using hle) h1
  simp only [Nat.add_zero, Array.length_toList] at hst
  simp [Instr.storeAt, Instr.sureAddr, storeVar, run_sizeOf hT, hsz, hst]
theorem setRow_os (w : World) (g : Nat) (cs : Array Value) : SameOs w (w.setRow g cs) := ⟨rfl, rfl, rfl⟩
theorem cellAt_row (w : World) (g : Nat) (cur cs : Array Value) (e : TypeId) (hh : w.heap[g]? = some (.cells cur e (0, 0))) (j : Nat) : cellAt (w.setRow g cs) g j = cs[j]? := by
  have := setRow_heap w g cur cs e (0, 0) hh
  simp [cellAt, World.cell?, this]
theorem cellAt_heap {w : World} {g : Nat} {cur : Array Value} {e : TypeId} {fz : Nat × Nat} (hh : w.heap[g]? = some (.cells cur e fz)) (j : Nat) : cellAt w g j = cur[j]? := by
  simp [cellAt, World.cell?, hh]
theorem M_cells {C : Ctx} (hI : Inv C) {x : AV} {v : Value} (hr : Rel C x v) {s : Src} {o : Nat} (hs : ∀ j, j < v.cells.size → s (o + j) = v.cells[j]?) (hj : x ≠ .junk) : M C x s o :=
  M_same hI (fun j hj' => by rw [Nat.zero_add]; exact hs j (by rw [hr.2.1.resolve_right hj]; exact hj')) hr.2.2
theorem refs_atP_box {C : Ctx} {i : Nat} (hi : i < C.st.length) {T : TypeId} {a : AV} (h : nthO C.st i = .box T a) {o : Obj} {w : World} (T' : TypeId) (a' : AV) (ho : o = .box T' a') (hT : T' = T) : RefOK C (C.upd i o w) i i := by
  subst ho; subst hT
  have hs : nthO (C.upd i (.box T' a') w).st i = .box T' a' := nthO_setO_same _ _ _ hi
  refine ⟨by simp only [Ctx.upd, setO_length]; exact hi, fun T xs hx => ?_, fun T b hx => ?_, fun K V es hx => ?_, fun r hx => ?_, fun m n ks hx => ?_, fun t hx => ?_, fun s p hx => ?_, fun K V ks vs met hx => ?_, fun T E ls pd hx => ?_⟩
  · rw [hs] at hx; simp [elT] at hx
  · rw [hs] at hx; cases hx; exact ⟨a, h, rfl⟩
  · rw [hs] at hx; cases hx
  · rw [hs] at hx; cases hx
  · rw [hs] at hx; cases hx
  · rw [hs] at hx; cases hx
  · rw [hs] at hx; cases hx
  · rw [hs] at hx; cases hx
  · rw [hs] at hx; cases hx
theorem refs_atP_row {C : Ctx} {i : Nat} (hi : i < C.st.length) {T : TypeId} {xs ys : List AV} (h : nthO C.st i = .row T xs) {w : World} (hl : xs.length ≤ ys.length) : RefOK C (C.upd i (.row T ys) w) i i := by
  have hs : nthO (C.upd i (.row T ys) w).st i = .row T ys := nthO_setO_same _ _ _ hi
  refine ⟨by simp only [Ctx.upd, setO_length]; exact hi, fun T xs hx => ?_, fun T b hx => ?_, fun K V es hx => ?_, fun r hx => ?_, fun m n ks hx => ?_, fun t hx => ?_, fun s p hx => ?_, fun K V ks vs met hx => ?_, fun T E ls pd hx => ?_⟩
  · rw [hs] at hx; simp only [elT, Option.some.injEq, Prod.mk.injEq] at hx
    obtain ⟨rfl, rfl⟩ := hx
    exact ⟨_, by rw [h]; rfl, rfl, hl⟩
  · rw [hs] at hx; cases hx
  · rw [hs] at hx; cases hx
  · rw [hs] at hx; cases hx
  · rw [hs] at hx; cases hx
  · rw [hs] at hx; cases hx
  · rw [hs] at hx; cases hx
  · rw [hs] at hx; cases hx
  · rw [hs] at hx; cases hx
theorem MR_set {C : Ctx} (hI : Inv C) {x : AV} {z : Nat} (hx1 : wid x = z) : ∀ (l : List AV) (k : Nat) (s s' : Src) (o : Nat), (∀ a, a ∈ l → wid a = z) → k < l.length → MR C l z s o → M C x s' (o + k * z) →
    (∀ j, j < l.length * z → ¬ (k * z ≤ j ∧ j < k * z + z) → s' (o + j) = s (o + j)) → MR C (setN l k x) z s' o
  | [], _, _, _, _, _, h, _, _, _ => by simp at h
  | a :: l, 0, s, s', o, hw, _, h, hx, hs => by
    simp only [MR] at h
    simp only [setN, MR]
    refine ⟨by simpa using hx, ?_⟩
    exact go l s s' (o + z) (fun b hb => hw b (by simp [hb])) h.2 (fun j hj => by
      have := hs (z + j) (by simp only [List.length_cons, Nat.add_mul]; omega) (by omega)
      rw [show o + z + j = o + (z + j) by omega, this])
  | a :: l, k + 1, s, s', o, hw, hk, h, hx, hs => by
    simp only [MR] at h
    simp only [setN, MR]
    have hwa := hw a (by simp)
    refine ⟨M_same hI (fun j hj => hs j (by simp only [List.length_cons, Nat.add_mul]; omega) (by rw [Nat.add_mul]; omega)) h.1, ?_⟩
    refine MR_set hI hx1 l k s s' (o + z) (fun b hb => hw b (by simp [hb])) (by simpa using hk) h.2 (by rwa [show o + z + k * z = o + (k + 1) * z by rw [Nat.add_mul]; omega]) (fun j hj hnj => ?_)
    have := hs (z + j) (by simp only [List.length_cons, Nat.add_mul]; omega) (by rw [Nat.add_mul]; omega)
    rw [show o + z + j = o + (z + j) by omega, this]
where
  go : ∀ (l : List AV) (s s' : Src) (o : Nat), (∀ a, a ∈ l → wid a = z) → MR C l z s o → (∀ j, j < l.length * z → s' (o + j) = s (o + j)) → MR C l z s' o
    | [], _, _, _, _, _, _ => by simp [MR]
    | a :: l, s, s', o, hw, h, hs => by
      simp only [MR] at h ⊢
      have hwa := hw a (by simp)
      refine ⟨M_same hI (fun j hj => hs j (by simp only [List.length_cons, Nat.add_mul]; omega)) h.1, go l s s' (o + z) (fun b hb => hw b (by simp [hb])) h.2 (fun j hj => ?_)⟩
      have := hs (z + j) (by simp only [List.length_cons, Nat.add_mul]; omega)
      rw [show o + z + j = o + (z + j) by omega, this]
theorem ptypL_wid {P : Program} (hl : LayOK P) {T : TypeId} : ∀ (l : List AV), ptypL P l T → ∀ a, a ∈ l → wid a = P.cellsOf T
  | [], _, a, ha => by simp at ha
  | b :: l, h, a, ha => by
    simp only [ptypL] at h
    rcases List.mem_cons.1 ha with rfl | ha
    · exact ptyp_wid hl _ _ h.1
    · exact ptypL_wid hl l h.2 a ha
theorem ptypL_setN {P : Program} {T : TypeId} : ∀ (l : List AV) (k : Nat) (x : AV), ptypL P l T → ptyp P x T → ptypL P (setN l k x) T
  | [], _, _, _, _ => by simp [setN, ptypL]
  | a :: l, 0, x, h, hx => by simp only [ptypL] at h; simp only [setN, ptypL]; exact ⟨hx, h.2⟩
  | a :: l, k + 1, x, h, hx => by simp only [ptypL] at h; simp only [setN, ptypL]; exact ⟨h.1, ptypL_setN l k x h.2 hx⟩
theorem refs_other {C : Ctx} (hI : Inv C) {i j : Nat} {o : Obj} {w : World} (hi : i < C.st.length) (hown : ownd (C.ι i) (nthO C.st i) = true) (hold : ∀ b, b ≠ (C.ι i).block → w.heap[b]? = C.w.heap[b]?) (hj : j < C.st.length) (hij : i ≠ j) : RefOK C (C.upd i o w) j j :=
  refs_same hI hj (by simp only [Ctx.upd, setO_length]; exact hj) (nthO_setO_other _ _ _ _ hij) rfl fun h b hb => ⟨rfl, rfl, hold b fun e => hI.dis j i hj hi (Ne.symm hij) h hown (by rw [← hb, e, hI.cown i hi hown])⟩
theorem store_box {C : Ctx} (hI : Inv C) {i : Nat} (hi : i < C.st.length) {Tb T : TypeId} {a x : AV} {path : List Nat} {off : Nat} (hst : nthO C.st i = .box Tb a) {v vp : Value} (hx : Rel C x v) (hp : PtrOK C i 0 off vp)
    (h1 : inP a path = true) (h2 : offP a path = off) (h3 : wid x = C.P.cellsOf T) (h4 : wid (atP a path) = C.P.cellsOf T) (h5 : solid x = true) {d : TypeDesc} (h6 : C.P.underlying T = some d) :
    ∃ w', (Instr.storeAt T vp v).run C.P C.w = .ok () w' ∧ Inv (C.upd i (.box Tb (setP a path x)) w') ∧ Ext C.st.length C (C.upd i (.box Tb (setP a path x)) w') := by
  have hob := hI.obj i hi
  rw [hst] at hob
  obtain ⟨g1, g2, cur, e, g3, ⟨g4, g42, g43⟩, g5⟩ := hob
  obtain ⟨_, rfl⟩ := hp.2.1 Tb a hst
  have hnj : x ≠ .junk := by intro e; subst e; simp [solid] at h5
  have hsz := hx.2.1.resolve_right hnj
  have hle := offP_le path a h1
  have hwx : wid x = wid (atP a path) := by omega
  have hrun := run_store_cells h6 g3 (v := v) (o := off) (by omega) (by omega) (cells_one' h5 hx)
  refine ⟨_, hrun, ?_⟩
  have hsp := spliced cur off v.cells.toList (by simp; omega)
  simp only [Array.length_toList] at hsp
  have hsrc : ∀ j, cellAt (C.w.setRow (C.ι i).block (cur.toList.take off ++ v.cells.toList ++ cur.toList.drop (off + v.cells.size)).toArray) (C.ι i).block j = if off ≤ j ∧ j < off + v.cells.size then v.cells[j - off]? else cellAt C.w (C.ι i).block j := fun j => by
    rw [cellAt_row _ _ cur _ e g3, hsp, cellAt_heap g3]; simp
  have hM : M C (setP a path x) (cellAt (C.w.setRow (C.ι i).block (cur.toList.take off ++ v.cells.toList ++ cur.toList.drop (off + v.cells.size)).toArray) (C.ι i).block) 0 := by
    refine M_setP hI path a (cellAt C.w (C.ι i).block) _ 0 h1 hwx g5 ?_ (fun j hj hnj => ?_)
    · refine M_cells hI hx (fun j hj => ?_) hnj
      rw [hsrc, h2, Nat.zero_add, if_pos (by omega)]
      congr 1; omega
    · rw [hsrc, if_neg (by omega)]
  have hown : ownd (C.ι i) (nthO C.st i) = true := by rw [hst]; rfl
  have hr : RefOK C (C.upd i (.box Tb (setP a path x)) (C.w.setRow (C.ι i).block (cur.toList.take off ++ v.cells.toList ++ cur.toList.drop (off + v.cells.size)).toArray)) i i := refs_atP_box hi hst Tb _ rfl rfl
  refine upd_ctx hI hi hown (by simp) (setRow_os _ _ _) (fun b hb => setRow_other _ _ _ _ hb) hr ?_
  have hk : Keeps C (C.upd i (.box Tb (setP a path x)) (C.w.setRow (C.ι i).block (cur.toList.take off ++ v.cells.toList ++ cur.toList.drop (off + v.cells.size)).toArray)) :=
    ⟨rfl, fun _ h => h, fun b hb => setRow_other _ _ _ _ (fun e => g1 (e ▸ hb))⟩
  refine ⟨g1, solid_setP path a x h1 g2 h5, _, e, setRow_heap _ _ cur _ e (0, 0) g3, ?_, ?_⟩
  · rw [wid_setP path a x h1 hwx]
    simp only [List.size_toArray, List.length_append, List.length_take, List.length_drop, Array.length_toList]
    exact ⟨by omega, by omega, g43⟩
  · refine M.keep hk hI.lay (fun j _ hlt => ?_) (fun _ _ => rfl) hM
    by_cases hij : i = j
    · subst hij; exact hr
    · exact refs_other hI hi hown (fun b hb => setRow_other _ _ _ _ hb) hlt hij
theorem store_row {C : Ctx} (hI : Inv C) {i k : Nat} (hi : i < C.st.length) {Tr T : TypeId} {xs : List AV} {x : AV} {path : List Nat} {off : Nat} (hst : nthO C.st i = .row Tr xs) {v vp : Value} (hx : Rel C x v) (hp : PtrOK C i k off vp)
    (h1 : inP (expand C.P depthE Tr (nth xs k)) path = true) (h2 : offP (expand C.P depthE Tr (nth xs k)) path = off) (h3 : wid x = C.P.cellsOf T) (h4 : wid (atP (expand C.P depthE Tr (nth xs k)) path) = C.P.cellsOf T)
    (h5 : solid x = true) (h7 : chk C.P (setP (expand C.P depthE Tr (nth xs k)) path x) Tr = true) {d : TypeDesc} (h6 : C.P.underlying T = some d) :
    ∃ w', (Instr.storeAt T vp v).run C.P C.w = .ok () w' ∧ Inv (C.upd i (.row Tr (setN xs k (setP (expand C.P depthE Tr (nth xs k)) path x))) w') ∧
      Ext C.st.length C (C.upd i (.row Tr (setN xs k (setP (expand C.P depthE Tr (nth xs k)) path x))) w') := by
  have hob := hI.obj i hi
  rw [hst] at hob
  obtain ⟨hk, rfl⟩ := hp.1 Tr xs (by rw [hst]; rfl)
  obtain ⟨g0, ⟨_, g9⟩ | ⟨g2, g1, cur, g3, g4, g5, g6, g7⟩⟩ := hob
  · subst g9; simp at hk
  obtain ⟨z, hz⟩ : ∃ z, z = C.P.cellsOf Tr := ⟨_, rfl⟩
  obtain ⟨a, ha⟩ : ∃ a, a = expand C.P depthE Tr (nth xs k) := ⟨_, rfl⟩
  rw [← hz] at g6 g7 ⊢
  rw [← ha] at h1 h2 h4 h7 ⊢
  have hnj : x ≠ .junk := by intro e; subst e; simp [solid] at h5
  have hsz := hx.2.1.resolve_right hnj
  have hle := offP_le path a h1
  have hwx : wid x = wid (atP a path) := by omega
  have hpk := ptypL_at xs k Tr hk g0
  have hMk := MR_at xs k z _ 0 hk g7
  obtain ⟨hE, hTE⟩ := M_expand hI.lay depthE Tr _ _ _ hpk hMk
  rw [← ha] at hE hTE
  have hwa : wid a = z := by rw [hz]; exact ptyp_wid hI.lay _ _ hTE
  have hkz : k * z + z ≤ xs.length * z := by
    have := Nat.mul_le_mul_right z (show k + 1 ≤ xs.length by omega)
    rw [Nat.add_mul] at this; omega
  have hcz : xs.length * z ≤ cur.size := by rw [← g6]; exact Nat.mul_le_mul_right _ g4
  have hrun := run_store_cells h6 g3 (v := v) (o := k * z + off) (by omega) (by omega) (cells_one' h5 hx)
  refine ⟨_, hrun, ?_⟩
  have hsp := spliced cur (k * z + off) v.cells.toList (by simp; omega)
  simp only [Array.length_toList] at hsp
  have hsrc : ∀ j, cellAt (C.w.setRow (C.ι i).block (cur.toList.take (k * z + off) ++ v.cells.toList ++ cur.toList.drop (k * z + off + v.cells.size)).toArray) (C.ι i).block j = if k * z + off ≤ j ∧ j < k * z + off + v.cells.size then v.cells[j - (k * z + off)]? else cellAt C.w (C.ι i).block j := fun j => by
    rw [cellAt_row _ _ cur _ Tr g3, hsp, cellAt_heap g3]; simp
  generalize hw' : C.w.setRow (C.ι i).block (cur.toList.take (k * z + off) ++ v.cells.toList ++ cur.toList.drop (k * z + off + v.cells.size)).toArray = w' at *
  have hM : M C (setP a path x) (cellAt w' (C.ι i).block) (k * z) := by
    refine M_setP hI path a (cellAt C.w (C.ι i).block) _ (k * z) h1 hwx (by simpa using hE) ?_ (fun j hj hnj => ?_)
    · refine M_cells hI hx (fun j hj => ?_) hnj
      rw [hsrc, h2, if_pos (by omega)]
      congr 1; omega
    · rw [hsrc, if_neg (by omega)]
  have hpt := chk_ptyp _ _ _ _ h7 hM
  have hMR : MR C (setN xs k (setP a path x)) z (cellAt w' (C.ι i).block) 0 :=
    MR_set hI (by rw [wid_setP path a x h1 hwx, hwa]) xs k _ _ 0 (fun b hb => by rw [hz]; exact ptypL_wid hI.lay xs g0 b hb) hk g7 (by simpa using hM) (fun j hj hnj => by rw [hsrc, if_neg (by omega)])
  have hown : ownd (C.ι i) (nthO C.st i) = true := by rw [hst]; simp [ownd, g2]
  have hr : RefOK C (C.upd i (.row Tr (setN xs k (setP a path x))) w') i i := refs_atP_row hi hst (by rw [setN_length]; exact Nat.le_refl _)
  have hother : ∀ b, b ≠ (C.ι i).block → w'.heap[b]? = C.w.heap[b]? := fun b hb => by rw [← hw']; exact setRow_other _ _ _ _ hb
  refine upd_ctx hI hi hown (by rw [← hw']; simp) (by rw [← hw']; exact setRow_os _ _ _) hother hr ?_
  have hkp : Keeps C (C.upd i (.row Tr (setN xs k (setP a path x))) w') := ⟨rfl, fun _ h => h, fun b hb => hother b (fun e => g1 (e ▸ hb))⟩
  refine ⟨ptypL_setN xs k _ g0 hpt, .inr ⟨g2, g1, (cur.toList.take (k * z + off) ++ v.cells.toList ++ cur.toList.drop (k * z + off + v.cells.size)).toArray, ?_, by rw [setN_length]; exact g4, g5, ?_, ?_⟩⟩
  · rw [show (C.upd i (.row Tr (setN xs k (setP a path x))) w').w = w' from rfl, ← hw']
    exact setRow_heap _ _ cur _ Tr (0, 0) g3
  · show (C.ι i).cap * C.P.cellsOf Tr = _
    rw [← hz, g6]
    simp only [List.size_toArray, List.length_append, List.length_take, List.length_drop, Array.length_toList]
    omega
  · have := MR_pure hkp hI.lay (setN xs k (setP a path x)) Tr (cellAt w' (C.ι i).block) (cellAt w' (C.ι i).block) 0 0 (ptypL_setN xs k _ g0 hpt) (fun _ _ => rfl) (by rw [← hz]; exact hMR)
    exact this
end Go.Dn
