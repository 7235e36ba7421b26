import Derived.Test.YtbppdpbagmbmpaaGreatDoorDnS
namespace Go.Dn
open Go
theorem MR_mk {C : Ctx} {z : Nat} : ∀ (l : List AV) (s : Src) (o : Nat), (∀ k, k < l.length → M C (nth l k) s (o + k * z)) → MR C l z s o
  | [], _, _, _ => by simp [MR]
  | a :: l, s, o, h => by
    simp only [MR]
    refine ⟨by simpa [nth] using h 0 (by simp), MR_mk l s (o + z) (fun k hk => ?_)⟩
    have := h (k + 1) (by simpa using hk)
    simp only [nth] at this
    rwa [show o + z + k * z = o + (k + 1) * z by rw [Nat.add_mul]; omega]
theorem nth_replicate (a : AV) : ∀ (n k : Nat), k < n → nth (List.replicate n a) k = a
  | 0, _, h => by omega
  | n + 1, 0, _ => rfl
  | n + 1, k + 1, h => by simp only [List.replicate_succ, nth]; exact nth_replicate a n k (by omega)
theorem ptypL_replicate {P : Program} {T : TypeId} {a : AV} (h : ptyp P a T) : ∀ n, ptypL P (List.replicate n a) T
  | 0 => by simp [ptypL]
  | n + 1 => by simp only [List.replicate_succ, ptypL]; exact ⟨h, ptypL_replicate h n⟩
theorem zeros_at (zero : Array Value) (m j : Nat) (hj : j < m) (hz : 0 < zero.size) : ((Array.range m).map fun x => zero[x % zero.size]!)[j]? = zero[j % zero.size]? := by
  have : j % zero.size < zero.size := Nat.mod_lt _ hz
  simp [hj, this]
theorem MR_zeros {C : Ctx} (hI : Inv C) {T : TypeId} {z : AV} {zv : Value} (hr : Rel C z zv) (hp : ptyp C.P z T) (hz : 0 < C.P.cellsOf T) (n m : Nat) (hm : n * C.P.cellsOf T ≤ m) {s : Src}
    (hs : ∀ j, j < n * C.P.cellsOf T → s j = ((Array.range m).map fun x => zv.cells[x % zv.cells.size]!)[j]?) : MR C (List.replicate n z) (C.P.cellsOf T) s 0 := by
  have hj : z ≠ .junk := by intro e; subst e; simp [ptyp] at hp
  have hsz : zv.cells.size = C.P.cellsOf T := by rw [hr.2.1.resolve_right hj, ptyp_wid hI.lay _ _ hp]
  refine MR_mk _ _ _ (fun k hk => ?_)
  simp only [List.length_replicate] at hk
  rw [nth_replicate _ _ _ hk, Nat.zero_add]
  have hk1 : k * C.P.cellsOf T + C.P.cellsOf T ≤ n * C.P.cellsOf T := by
    have := Nat.mul_le_mul_right (C.P.cellsOf T) (show k + 1 ≤ n by omega)
    rw [Nat.add_mul] at this; omega
  refine M_cells hI hr (fun j hj => ?_) hj
  rw [hs _ (by omega), zeros_at _ _ _ (by omega) (by omega)]
  congr 1
  rw [hsz, Nat.add_comm, Nat.add_mul_mod_self_right, Nat.mod_eq_of_lt (by omega)]
theorem slc_new {C : Ctx} {T : TypeId} {xs : List AV} {g : G} {w : World} (hI : Inv (C.add (.row T xs) g w)) {n : Nat} (hn : n = xs.length) (hg : g.isNil = false) (hle : n ≤ g.cap) :
    Rel (C.add (.row T xs) g w) (.slc C.st.length 0 n) (.slice (some ⟨g.block, 0, none⟩) n g.cap) := by
  refine rel_mk rfl rfl ?_ hI
  simp only [M]
  refine ⟨by simp [Ctx.add], _, rfl, rfl, fun T0 ys hx => ?_, fun _ _ _ _ hx => (by rw [add_new.1] at hx; cases hx)⟩
  rw [add_new.1] at hx
  simp only [elT, Option.some.injEq, Prod.mk.injEq] at hx
  obtain ⟨rfl, rfl⟩ := hx
  rw [add_new.2]
  exact ⟨by omega, .inr ⟨hg, g.cap, _, rfl, .inl (by simp), hle, by omega⟩⟩
theorem makeSlice_raw {C : Ctx} (_hI : Inv C) {T Te : TypeId} (hT : C.P.underlying T = some (.slice Te)) {n c : Int} {z : AV} {zv : Value} {ti : TypeInfo} (hi : C.P.info? Te = some ti) (hzv : ti.zero = some zv) (_hrz : Rel C z zv) (hpz : ptyp C.P z Te) (hpos : 0 < C.P.cellsOf Te) (h0 : 0 ≤ n) (h1 : n ≤ c) (hb : (c.toNat + 1) * (C.P.bytesOf Te + 1) ≤ limB) :
    (Instr.makeSlice T (.int .i64 n) (.int .i64 c)).run C.P C.w = .ok (.slice (some ⟨C.w.heap.size, 0, none⟩) n.toNat c.toNat) (C.w.alloc (.cells ((Array.range (c.toNat * C.P.cellsOf Te)).map fun x => zv.cells[x % zv.cells.size]!) Te)) := by
  obtain ⟨d, hd⟩ := ptyp_under hpz
  obtain ⟨his, hib⟩ := info_parts' hi
  obtain ⟨hb1, hb2⟩ := bounds_of hb
  have hwn : IntKind.i64.wrap n = n := IntWalk.i64_in n (by omega)
  have hwc : IntKind.i64.wrap c = c := IntWalk.i64_in c (by omega)
  have hbc : ¬ ((ti.bytes : Int) * c > 281474976710656) := by
    obtain ⟨m, rfl⟩ := Int.eq_ofNat_of_zero_le (show 0 ≤ c by omega)
    simp only [Int.toNat_natCast] at hb1
    rw [← hib, Nat.mul_comm] at hb1
    have : ((ti.bytes * m : Nat) : Int) ≤ 140737488355328 := by omega
    rw [Int.natCast_mul] at this
    omega
  by_cases hc0 : c.toNat * C.P.cellsOf Te = 0
  · have : c.toNat = 0 := by
      rcases Nat.mul_eq_zero.1 hc0 with h | h
      · exact h
      · omega
    simp [Instr.makeSlice, run_underlying hT, asInt, asIntOf, typeInfo, hi, hwn, hwc, hbc, show ¬ c < 0 by omega, show ¬ n < 0 by omega, show ¬ c < n by omega, run_sizeOf hd, this, newRow]
    simp [show Array.range 0 = #[] from rfl]
  · simp [Instr.makeSlice, run_underlying hT, asInt, asIntOf, typeInfo, hi, hwn, hwc, hbc, show ¬ c < 0 by omega, show ¬ n < 0 by omega, show ¬ c < n by omega, run_sizeOf hd, hc0, newRow, run_zero hi hzv]
theorem makeSlice_run {C : Ctx} (hI : Inv C) {T Te : TypeId} (hT : C.P.underlying T = some (.slice Te)) {n c : Int} {z : AV} (hz : zeroA C.P Te = some z) (hpos : 0 < C.P.cellsOf Te) (h0 : 0 ≤ n) (h1 : n ≤ c) (hb : (c.toNat + 1) * (C.P.bytesOf Te + 1) ≤ limB) :
    ∃ w' g, (Instr.makeSlice T (.int .i64 n) (.int .i64 c)).run C.P C.w = .ok (.slice (some ⟨g.block, 0, none⟩) n.toNat g.cap) w' ∧ Inv (C.add (.row Te (zerosA z n.toNat)) g w') ∧ Ext C.st.length C (C.add (.row Te (zerosA z n.toNat)) g w') ∧
      Rel (C.add (.row Te (zerosA z n.toNat)) g w') (.slc C.st.length 0 n.toNat) (.slice (some ⟨g.block, 0, none⟩) n.toNat g.cap) := by
  obtain ⟨ti, zv, hi, hzv, hrz, hcz, hpz⟩ := zero_sound hI hz
  obtain ⟨hb1, hb2⟩ := bounds_of hb
  refine ⟨C.w.alloc (.cells ((Array.range (c.toNat * C.P.cellsOf Te)).map fun x => zv.cells[x % zv.cells.size]!) Te), ⟨C.w.heap.size, c.toNat, false⟩, makeSlice_raw hI hT hi hzv hrz hpz hpos h0 h1 hb, ?_⟩
  have hold := alloc_heap_old C.w (.cells ((Array.range (c.toNat * C.P.cellsOf Te)).map fun x => zv.cells[x % zv.cells.size]!) Te)
  have hcell := cellAt_new C.w ((Array.range (c.toNat * C.P.cellsOf Te)).map fun x => zv.cells[x % zv.cells.size]!) Te (0, 0)
  have hle : n.toNat * C.P.cellsOf Te ≤ c.toNat * C.P.cellsOf Te := Nat.mul_le_mul_right _ (by omega)
  have hkk := add_keeps hI hold (o := .row Te (zerosA z n.toNat)) (g := ⟨C.w.heap.size, c.toNat, false⟩)
  have hMR := MR_zeros hI hrz hpz hpos n.toNat (c.toNat * C.P.cellsOf Te) hle (s := cellAt (C.w.alloc (.cells ((Array.range (c.toNat * C.P.cellsOf Te)).map fun x => zv.cells[x % zv.cells.size]!) Te)) C.w.heap.size) (fun j _ => hcell j)
  have hpl := ptypL_replicate hpz n.toNat
  have h := add_ctx hI (o := .row Te (zerosA z n.toNat)) (g := ⟨C.w.heap.size, c.toNat, false⟩) rfl (by rw [alloc_size]; omega) (alloc_os _ _) hold (by
    refine ⟨hpl, .inr ⟨rfl, fun h => by have := hI.xs _ h; simp at this, _, alloc_heap_new _ _, by simp [zerosA]; omega, by unfold maxLen; show c.toNat ≤ _; omega, by simp [Ctx.add], ?_⟩⟩
    exact MR_pure hkk hI.lay _ Te _ _ 0 0 hpl (fun _ _ => rfl) hMR)
  exact ⟨h.1, h.2, slc_new h.1 (by simp [zerosA]) rfl (by show n.toNat ≤ c.toNat; omega)⟩
theorem nthL_replicate : ∀ n k, nthL (List.replicate n []) k = []
  | 0, _ => rfl
  | _ + 1, 0 => rfl
  | n + 1, k + 1 => nthL_replicate n k
theorem makeRows_run {C : Ctx} (hI : Inv C) {T Te E : TypeId} (hT : C.P.underlying T = some (.slice Te)) (hTe : C.P.underlying Te = some (.slice E)) (hE : flatT C.P E = true) (hz1 : C.P.cellsOf Te = 1) {n c : Int} (hz : zeroA C.P Te = some (.lit (.slice none 0 0))) (h0 : 0 ≤ n) (h1 : n ≤ c) (hb : (c.toNat + 1) * (C.P.bytesOf Te + 1) ≤ limB) :
    ∃ v w' g, (Instr.makeSlice T (.int .i64 n) (.int .i64 c)).run C.P C.w = .ok v w' ∧ isAggV v = false ∧ Inv (C.add (.rows Te E (List.replicate n.toNat []) none) g w') ∧ Ext C.st.length C (C.add (.rows Te E (List.replicate n.toNat []) none) g w') ∧
      Rel (C.add (.rows Te E (List.replicate n.toNat []) none) g w') (.slc C.st.length 0 n.toNat) v := by
  obtain ⟨ti, zv, hi, hzv, hrz, hcz, hpz⟩ := zero_sound hI hz
  obtain rfl := rel_lit_inv hrz
  refine ⟨_, _, ⟨C.w.heap.size, 0, false⟩, makeSlice_raw hI hT hi hzv hrz hpz (by omega) h0 h1 hb, rfl, ?_⟩
  rw [hz1, Nat.mul_one]
  have hold := alloc_heap_old C.w (.cells ((Array.range c.toNat).map fun x => (Value.slice none 0 0).cells[x % (Value.slice none 0 0).cells.size]!) Te)
  have h := add_ctx hI (o := .rows Te E (List.replicate n.toNat []) none) (g := ⟨C.w.heap.size, 0, false⟩) rfl (by rw [alloc_size]; omega) (alloc_os _ _) hold (by
    refine ⟨fun h => by have := hI.xs _ h; simp at this, hTe, hE, fun k v hv => (by rw [nthL_replicate] at hv; cases hv), _, alloc_heap_new _ _, by simp; omega, fun k hk _ => ⟨.slice none 0 0, ?_, ?_⟩⟩
    · simp only [List.length_replicate] at hk
      have hk' : k < c.toNat := by omega
      simp [hk', Value.cells, Nat.mod_one]
    · rw [nthL_replicate]
      exact ⟨Nat.le_refl _, .inl ⟨rfl, rfl⟩⟩)
  refine ⟨h.1, h.2, rel_mk rfl rfl ?_ h.1⟩
  simp only [M]
  refine ⟨by simp [Ctx.add], _, rfl, rfl, fun T0 ys hx => (by rw [add_new.1] at hx; simp [elT] at hx), fun T0 E0 l0 p0 hx => ?_⟩
  rw [add_new.1] at hx
  cases hx
  rw [add_new.2]
  exact ⟨by simp, c.toNat, rfl, by omega⟩
theorem putParts_spec {C C1 : Ctx} (hI : Inv C) (hI1 : Inv C1) (hk : Keeps C C1) (hw : C1.w = C.w) {s : S} {act : Act} (hs : SRel C s act) {Te : TypeId} (is0 : List Nat) (hX : ∀ i, i ∈ is0 → i < C.st.length → Lent C i → C1.X (C.ι i).block) :
    ∀ (ps : List (Nat × Operand)) (l m : List AV) (is : List Nat) (cells : Array Value), putParts C.P Te C.st l (evParts s ps) = some (m, is) → ptypL C.P l Te → MR C1 l (C.P.cellsOf Te) (fun j => cells[j]?) 0 → cells.size = l.length * C.P.cellsOf Te → (∀ i, i ∈ is → i ∈ is0) →
      ∃ cells' : Array Value, Instr.fill (fun i => some (i * C.P.cellsOf Te, C.P.cellsOf Te)) cells (ps.map fun p => (p.1, act.eval p.2)) = some cells' ∧ cells'.size = l.length * C.P.cellsOf Te ∧ m.length = l.length ∧ ptypL C.P m Te ∧ MR C1 m (C.P.cellsOf Te) (fun j => cells'[j]?) 0
  | [], l, m, is, cells, h, hp, hm, hsz, _ => by
    simp only [evParts, putParts, Option.some.injEq, Prod.mk.injEq] at h
    obtain ⟨rfl, rfl⟩ := h
    exact ⟨cells, rfl, hsz, rfl, hp, hm⟩
  | (i, o) :: ps, l, m, is, cells, h, hp, hm, hsz, hsub => by
    simp only [evParts, putParts] at h
    split at h
    · rename_i x' hx'
      split at h
      · rename_i hc
        simp only [Bool.and_eq_true, decide_eq_true_eq] at hc
        split at h
        · rename_i m' is' hrec
          simp only [Option.some.injEq, Prod.mk.injEq] at h
          obtain ⟨rfl, rfl⟩ := h
          have hre := rel_ev hs o
          have hrx := pure_rel hI hk hw hx' (fun j hj hlt hn => hX j (hsub j (List.mem_append_left _ hj)) hlt hn) hre
          have hpt : ptyp C.P x' Te := by
            have := chk_ptyp (C := C1) x' Te _ _ (by rw [hk.P]; exact hc.1) hrx.2.2
            rwa [hk.P] at this
          have hwx : wid x' = C.P.cellsOf Te := ptyp_wid hI.lay _ _ hpt
          have hnj : x' ≠ .junk := by intro e; subst e; simp [ptyp] at hpt
          have hvs : (act.eval o).cells.size = C.P.cellsOf Te := by rw [hrx.2.1.resolve_right hnj, hwx]
          have hiz : i * C.P.cellsOf Te + C.P.cellsOf Te ≤ l.length * C.P.cellsOf Te := by
            have := Nat.mul_le_mul_right (C.P.cellsOf Te) (show i + 1 ≤ l.length by omega)
            rw [Nat.add_mul] at this; omega
          have hsrc : ∀ j, ((act.eval o).cells.zipIdx.foldl (fun cs (x : Value × Nat) => cs.setIfInBounds (i * C.P.cellsOf Te + x.2) x.1) cells)[j]? = if i * C.P.cellsOf Te ≤ j ∧ j < i * C.P.cellsOf Te + C.P.cellsOf Te then (act.eval o).cells[j - i * C.P.cellsOf Te]? else cells[j]? := fun j => by
            have := foldl_cells_at (i * C.P.cellsOf Te) (act.eval o).cells.toList 0 cells j (by simp; omega)
            simp only [Nat.add_zero, Array.length_toList, hvs] at this
            have e : ((act.eval o).cells.zipIdx.foldl (fun cs (x : Value × Nat) => cs.setIfInBounds (i * C.P.cellsOf Te + x.2) x.1) cells) = (((act.eval o).cells.toList.zipIdx 0).foldl (fun cs (x : Value × Nat) => cs.setIfInBounds (i * C.P.cellsOf Te + x.2) x.1) cells) := by
              rw [← Array.foldl_toList]; simp
            rw [e, this]
            simp
          have hMR := MR_set hI1 hwx l i (fun j => cells[j]?) (fun j => ((act.eval o).cells.zipIdx.foldl (fun cs (x : Value × Nat) => cs.setIfInBounds (i * C.P.cellsOf Te + x.2) x.1) cells)[j]?) 0 (fun a ha => ptypL_wid hI.lay l hp a ha) hc.2 hm
            (by rw [Nat.zero_add]; exact M_cells hI1 hrx (fun j hj => by rw [hsrc, if_pos (by omega)]; congr 1; omega) hnj) (fun j hj hnj => by rw [Nat.zero_add, hsrc, if_neg (by omega)])
          have hsz2 : ((act.eval o).cells.zipIdx.foldl (fun cs (x : Value × Nat) => cs.setIfInBounds (i * C.P.cellsOf Te + x.2) x.1) cells).size = (setN l i x').length * C.P.cellsOf Te := by
            rw [← Array.foldl_toList, foldl_cells, setN_length, hsz]
          obtain ⟨cells', g1, g2, g3, g4, g5⟩ := putParts_spec hI hI1 hk hw hs is0 hX ps (setN l i x') m' is' _ hrec (ptypL_setN l i x' hp hpt) hMR hsz2 (fun j hj => hsub j (List.mem_append_right _ hj))
          rw [setN_length] at g2 g3
          refine ⟨cells', ?_, g2, g3, g4, g5⟩
          simp only [List.map_cons, Instr.fill]
          rw [if_neg (by simp; omega)]
          exact g1
        · simp at h
      · simp at h
    · simp at h
theorem buildSlice_run {C : Ctx} (hI : Inv C) {s : S} {act : Act} (hs : SRel C s act) {T Te : TypeId} (hT : C.P.underlying T = some (.slice Te)) {len : Nat} {parts : Array (Nat × Operand)} {z : AV} (hz : zeroA C.P Te = some z) (hpos : 0 < C.P.cellsOf Te)
    {m : List AV} {is : List Nat} (hp : putParts C.P Te C.st (zerosA z len) (evParts s parts.toList) = some (m, is)) (hb : len * C.P.cellsOf Te ≤ 16777216) :
    ∃ C' v, (Instr.buildSlice T len (parts.map fun x => (x.1, act.eval x.2))).run C.P C.w = .ok v C'.w ∧ C'.st = freezeSt C.st is ++ [.row Te m] ∧ Inv C' ∧ Ext C.st.length C C' ∧ Rel C' (.slc C.st.length 0 len) v := by
  obtain ⟨ti, zv, hi, hzv, hrz, hcz, hpz⟩ := zero_sound hI hz
  obtain ⟨d, hd⟩ := ptyp_under hpz
  have hzs : zv.cells.size = C.P.cellsOf Te := by
    rw [hrz.2.1.resolve_right (by intro e; subst e; simp [ptyp] at hpz), ptyp_wid hI.lay _ _ hpz]
  obtain ⟨C1, f1, f2, f3, f4, f5, f6⟩ := frzs_ctx is hI
  have hl1 : C1.st.length = C.st.length := by rw [f1, freezeSt_length]
  have hrz1 : Rel C1 z zv := hrz.pure f5.keeps hI.lay hpz
  have hMR := MR_zeros f4 hrz1 (by rw [f5.keeps.P]; exact hpz) (by rw [f5.keeps.P]; exact hpos) len (len * C.P.cellsOf Te) (by rw [f5.keeps.P]; omega) (s := fun j => ((Array.range (len * C.P.cellsOf Te)).map fun x => zv.cells[x % zv.cells.size]!)[j]?) (fun j _ => rfl)
  rw [f5.keeps.P] at hMR
  obtain ⟨cells', g1, g2, g3, g4, g5⟩ := fillAll hI f4 f5.keeps f2 hs f6 hp (ptypL_replicate hpz len) hMR
  have hml : m.length = len := by rw [g3]; simp [zerosA]
  have hold := alloc_heap_old C1.w (.cells cells' Te)
  have hkk := add_keeps f4 hold (o := .row Te m) (g := ⟨C1.w.heap.size, len, false⟩)
  have h := add_ctx f4 (o := .row Te m) (g := ⟨C1.w.heap.size, len, false⟩) rfl (by rw [alloc_size]; omega) (alloc_os _ _) hold (by
    refine ⟨by show ptypL C1.P m Te; rw [f5.keeps.P]; exact g4, .inr ⟨rfl, fun h => by have := f4.xs _ h; simp at this, cells', alloc_heap_new _ _, by show m.length ≤ len; omega, ?_, ?_, ?_⟩⟩
    · unfold maxLen; show len ≤ _
      have : len * 1 ≤ len * C.P.cellsOf Te := Nat.mul_le_mul_left _ hpos
      omega
    · show len * C1.P.cellsOf Te = _
      rw [f5.keeps.P, g2]; simp [zerosA]
    · have := MR_pure hkk f4.lay m Te (fun j => cells'[j]?) (cellAt (C1.w.alloc (.cells cells' Te)) C1.w.heap.size) 0 0 (by rw [f5.keeps.P]; exact g4) (fun j _ => by rw [Nat.zero_add]; exact cellAt_new _ _ _ _ _) (by rw [f5.keeps.P]; exact g5)
      exact this)
  refine ⟨C1.add (.row Te m) ⟨C1.w.heap.size, len, false⟩ (C1.w.alloc (.cells cells' Te)), .slice (some ⟨C1.w.heap.size, 0, none⟩) len len, ?_, by simp [Ctx.add, f1], h.1, f5.trans h.2 (by omega), ?_⟩
  · have e1 : (Ctx.add C1 (.row Te m) ⟨C1.w.heap.size, len, false⟩ (C1.w.alloc (.cells cells' Te))).w = C1.w.alloc (.cells cells' Te) := rfl
    rw [e1, f2]
    unfold Instr.buildSlice
    by_cases hc0 : len * C.P.cellsOf Te = 0
    · have hl0 : len = 0 := by
        rcases Nat.mul_eq_zero.1 hc0 with h | h
        · exact h
        · omega
      subst hl0
      simp only [Nat.zero_mul, show Array.range 0 = #[] from rfl, Array.map_empty] at g1
      simp only [Sem.run_bind, run_underlying hT, Result.andThen_ok, run_sizeOf hd, Nat.zero_mul]
      simp [g1, newRow, show Array.range 0 = #[] from rfl]
    · simp only [Sem.run_bind, run_underlying hT, Result.andThen_ok, run_sizeOf hd]
      rw [if_neg (by omega)]
      simp [hc0, run_zero hi hzv, g1, newRow]
  · have := slc_new h.1 (n := len) (by omega) rfl (Nat.le_refl _)
    rw [hl1] at this
    exact this
where
  fillAll {C C1 : Ctx} (hI : Inv C) (hI1 : Inv C1) (hk : Keeps C C1) (hw : C1.w = C.w) {s : S} {act : Act} (hs : SRel C s act) {Te : TypeId} {is : List Nat}
      (hX : ∀ i, i ∈ is → i < C.st.length → Lent C i → C1.X (C.ι i).block) {ps : List (Nat × Operand)} {l m : List AV} {cells : Array Value}
      (h : putParts C.P Te C.st l (evParts s ps) = some (m, is)) (hp : ptypL C.P l Te) (hm : MR C1 l (C.P.cellsOf Te) (fun j => cells[j]?) 0) (hsz : cells.size = l.length * C.P.cellsOf Te := by simp [zerosA]) :
      ∃ cells' : Array Value, Instr.fill (fun i => some (i * C.P.cellsOf Te, C.P.cellsOf Te)) cells (ps.map fun p => (p.1, act.eval p.2)) = some cells' ∧ cells'.size = l.length * C.P.cellsOf Te ∧ m.length = l.length ∧ ptypL C.P m Te ∧ MR C1 m (C.P.cellsOf Te) (fun j => cells'[j]?) 0 :=
    putParts_spec hI hI1 hk hw hs is hX ps l m is cells h hp hm hsz (fun _ h => h)
end Go.Dn
