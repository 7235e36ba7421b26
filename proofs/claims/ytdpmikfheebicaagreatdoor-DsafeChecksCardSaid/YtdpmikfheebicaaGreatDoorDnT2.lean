import Derived.Test.YtdpmikfheebicaaGreatDoorDnT
import Derived.Maps.RangeRun
namespace Go.Dn
open Go
open Go.ChangeMaps (setBlock)
theorem cn.length {C : Ctx} {V : TypeId} : ∀ {es : List (Value × AV)} {ents : List MapEntry}, cn C V es ents → es.length = ents.length
 | [], [], _ => rfl
 | [], _ :: _, h => by simp [cn] at h
 | _ :: _, [], h => by simp [cn] at h
 | (k, a) :: es, e :: ents, h => by
  simp only [cn] at h
  simp [cn.length h.2.2.2]
theorem cn.mem {C : Ctx} {V : TypeId} : ∀ {es : List (Value × AV)} {ents : List MapEntry}, cn C V es ents → ∀ e, e ∈ ents → ∃ a, (e.key, a) ∈ es ∧ bE C.P a V ∧ Rel C a e.val
 | [], [], _, e, he => by simp at he
 | [], _ :: _, h, _, _ => by simp [cn] at h
 | _ :: _, [], h, _, _ => by simp [cn] at h
 | (k, a) :: es, e0 :: ents, h, e, he => by
  simp only [cn] at h
  rcases List.mem_cons.1 he with rfl | he
  ·exact ⟨a, by rw [h.1]; simp, h.2.1, h.2.2.1⟩
  ·obtain ⟨a', h1, h2⟩ := cn.mem h.2.2.2 e he
   exact ⟨a', by simp [h1], h2⟩
theorem cn.seen {C : Ctx} {V : TypeId} {ks : List Value} : ∀ {es : List (Value × AV)} {ents : List MapEntry}, cn C V es ents → (∀ e, e ∈ ents → yv ks e.key = true) → pX ks es = true
 | [], [], _, _ => rfl
 | [], _ :: _, h, _ => by simp [cn] at h
 | _ :: _, [], h, _ => by simp [cn] at h
 | (k, a) :: es, e0 :: ents, h, hk => by
  simp only [cn] at h
  simp only [pX, aa1]
  exact ⟨by have := hk e0 (by simp); rwa [h.1] at this, cn.seen h.2.2.2 (fun e he => hk e (by simp [he]))⟩
theorem Dd (s u : ByteArray) : (s == u) = (u == s) := by
 cases s with | mk a => cases u with | mk b => exact (show (a == b) = (b == a) from Bool.eq_iff_iff.2 (by simp only [beq_iff_eq]; exact eq_comm))
theorem CP (a b : Value) : dm a b = dm b a := by
 cases a <;> cases b <;> first
  | rfl
  | (simp only [dm]; exact Dd _ _)
  | (simp only [dm]; rw [Bool.eq_iff_iff]; simp only [aa1, beq_iff_eq]; exact ⟨fun h => ⟨h.1.symm, h.2.symm⟩, fun h => ⟨h.1.symm, h.2.symm⟩⟩)
  | (simp only [dm]; rw [Bool.eq_iff_iff]; simp only [beq_iff_eq]; exact eq_comm)
theorem Ic {P : Program} {K : TypeId} {ents : List MapEntry} {clock : Nat} (h : qk P K ents clock) {e e' : MapEntry} (he : e ∈ ents) (he' : e' ∈ ents) : (e'.born == e.born) = dm e.key e'.key := by
 obtain ⟨i, hi⟩ := List.mem_iff_getElem?.1 he
 obtain ⟨j, hj⟩ := List.mem_iff_getElem?.1 he'
 obtain ⟨hil, hie⟩ := List.getElem?_eq_some_iff.1 hi
 obtain ⟨hjl, hje⟩ := List.getElem?_eq_some_iff.1 hj
 rcases Nat.lt_trichotomy i j with hlt | heq | hlt
 ·have a := List.pairwise_iff_getElem.1 h.apart i j hil hjl hlt
  have b := List.pairwise_iff_getElem.1 h.born i j hil hjl hlt
  rw [hie, hje] at a b
  rw [CP, a]
  simp; omega
 ·subst heq
  rw [hie] at hje; subst hje
  rw [kk (h.keys e he)]; simp
 ·have a := List.pairwise_iff_getElem.1 h.apart j i hjl hil hlt
  have b := List.pairwise_iff_getElem.1 h.born j i hjl hil hlt
  rw [hie, hje] at a b
  rw [a]
  simp; omega
theorem Fy {C : Ctx} (hI : Inv C) {i : Nat} (hi : i < C.st.length) {K V T Kt Vt : TypeId} {es : List (Value × AV)} (hst : aD C.st i = .map K V es) (hT : C.P.underlying T = some (.map Kt Vt)) :
  ∃ w', (Instr.range T (.map (some (C.ι i).block))).run C.P C.w = .ok (.pointer (some ⟨C.w.heap.size, 0, none⟩)) w' ∧ Inv (C.add (.iter i es.length []) ⟨C.w.heap.size, 0, false⟩ w') ∧ Ext C.st.length C (C.add (.iter i es.length []) ⟨C.w.heap.size, 0, false⟩ w') ∧
   Rel (C.add (.iter i es.length []) ⟨C.w.heap.size, 0, false⟩ w') (.ptr C.st.length 0 [] 0) (.pointer (some ⟨C.w.heap.size, 0, none⟩)) := by
 obtain ⟨entries, clock, hh, hent, hmap⟩ := mh hI hi hst
 have hlt := (Array.getElem?_eq_some_iff.1 hh).1
 have hold := cf C.w (.mapIter (some (C.ι i).block) clock #[] clock)
 have hlen := hent.length
 have h := ij hI (o := .iter i es.length []) (g := ⟨C.w.heap.size, 0, false⟩) (w := C.w.alloc (.mapIter (some (C.ι i).block) clock #[] clock)) rfl (by rw [du]; omega) (kl _ _) hold (by
  refine ⟨fun h => by have := hI.xs _ h; simp at this, by simp [Ctx.add]; omega, _, _, _, _, alloc_heap_new _ _, fun h => (by cases h), fun K' V' es' hx => ?_⟩
  rw [(cF hi).1, hst] at hx
  cases hx
  rw [(cF hi).2]
  refine ⟨rfl, entries, clock, (hold _ hlt).trans hh, ⟨by rw [hlen]; simp, Nat.le_refl _, Nat.le_refl _, fun e _ _ => by simp [yv], fun k r hx => by cases hx⟩⟩)
 refine ⟨_, run_range_map C.w T Kt Vt _ entries clock hT hh, h.1, h.2, gg rfl rfl ?_ h.1⟩
 simp only [M]
 exact ⟨by simp [Ctx.add], _, rfl, rfl, fun T0 xs hx => (by rw [b9.1] at hx; simp [iE] at hx), fun T0 b hx => (by rw [b9.1] at hx; cases hx), fun _ _ _ hx => (by rw [b9.2]), fun _ _ hx => (by rw [b9.1] at hx; cases hx)⟩
theorem Fm {C : Ctx} (hI : Inv C) {T Kt Vt : TypeId} (hT : C.P.underlying T = some (.map Kt Vt)) :
  ∃ w', (Instr.range T (.map none)).run C.P C.w = .ok (.pointer (some ⟨C.w.heap.size, 0, none⟩)) w' ∧ Inv (C.add (.iter C.st.length 0 [.map none]) ⟨C.w.heap.size, 0, false⟩ w') ∧ Ext C.st.length C (C.add (.iter C.st.length 0 [.map none]) ⟨C.w.heap.size, 0, false⟩ w') ∧
   Rel (C.add (.iter C.st.length 0 [.map none]) ⟨C.w.heap.size, 0, false⟩ w') (.ptr C.st.length 0 [] 0) (.pointer (some ⟨C.w.heap.size, 0, none⟩)) := by
 have hold := cf C.w (.mapIter none 0 #[] 0)
 have h := ij hI (o := .iter C.st.length 0 [.map none]) (g := ⟨C.w.heap.size, 0, false⟩) (w := C.w.alloc (.mapIter none 0 #[] 0)) rfl (by rw [du]; omega) (kl _ _) hold (by
  refine ⟨fun h => by have := hI.xs _ h; simp at this, by simp [Ctx.add], _, _, _, _, alloc_heap_new _ _, fun _ => rfl, fun K' V' es' hx => ?_⟩
  rw [b9.1] at hx
  cases hx)
 refine ⟨_, run_range_nilMap C.w T Kt Vt hT, h.1, h.2, gg rfl rfl ?_ h.1⟩
 simp only [M]
 exact ⟨by simp [Ctx.add], _, rfl, rfl, fun T0 xs hx => (by rw [b9.1] at hx; simp [iE] at hx), fun T0 b hx => (by rw [b9.1] at hx; cases hx), fun _ _ _ hx => (by rw [b9.2]), fun _ _ hx => (by rw [b9.1] at hx; cases hx)⟩
theorem H8 {C : Ctx} (hI : Inv C) {i j n : Nat} (hj : j < C.st.length) (hsj : aD C.st j = .iter i n [.map none]) (ty : TypeId) :
  (Instr.next (.pointer (some ⟨(C.ι j).block, 0, none⟩)) false ty).run C.P C.w = .ok (.tuple #[.bool false]) C.w := by
 have hob := hI.obj j hj
 rw [hsj] at hob
 obtain ⟨hX, hi, m, since, seen, stepped, h1, h2⟩ := hob
 obtain rfl := h2.1 rfl
 simp [Instr.next, getObj, Sem.run, h1, Result.andThen]
theorem F9 {C : Ctx} (hI : Inv C) {T : TypeId} (hT : C.P.underlying T = some .string) (b : ByteArray) :
  ∃ w', (Instr.range T (.string b)).run C.P C.w = .ok (.pointer (some ⟨C.w.heap.size, 0, none⟩)) w' ∧ Inv (C.add (.db b 0) ⟨C.w.heap.size, 0, false⟩ w') ∧ Ext C.st.length C (C.add (.db b 0) ⟨C.w.heap.size, 0, false⟩ w') ∧
   Rel (C.add (.db b 0) ⟨C.w.heap.size, 0, false⟩ w') (.ptr C.st.length 0 [] 0) (.pointer (some ⟨C.w.heap.size, 0, none⟩)) := by
 have hold := cf C.w (.stringIter b 0)
 have h := ij hI (o := .db b 0) (g := ⟨C.w.heap.size, 0, false⟩) (w := C.w.alloc (.stringIter b 0)) rfl (by rw [du]; omega) (kl _ _) hold
  ⟨fun h => by have := hI.xs _ h; simp at this, alloc_heap_new _ _⟩
 refine ⟨_, by simp [Instr.range, run_underlying hT], h.1, h.2, gg rfl rfl ?_ h.1⟩
 simp only [M]
 exact ⟨by simp [Ctx.add], _, rfl, rfl, fun T0 xs hx => (by rw [b9.1] at hx; simp [iE] at hx), fun T0 b hx => (by rw [b9.1] at hx; cases hx), fun _ _ _ hx => (by rw [b9.1] at hx; cases hx), fun _ _ _ => (by rw [b9.2])⟩
theorem Jy {C : Ctx} (hI : Inv C) {j : Nat} (hj : j < C.st.length) {b : ByteArray} {p : Nat} (hsj : aD C.st j = .db b p) (ty : TypeId) :
  (p < b.size → ∃ w', (Instr.next (.pointer (some ⟨(C.ι j).block, 0, none⟩)) true ty).run C.P C.w = .ok (.tuple #[.bool true, .int .i64 p, .int .i32 (Utf8.decode b p).1]) w' ∧
   Inv (C.eX j (.db b (p + (Utf8.decode b p).2)) w') ∧ Ext C.st.length C (C.eX j (.db b (p + (Utf8.decode b p).2)) w')) ∧
  (¬ p < b.size → (Instr.next (.pointer (some ⟨(C.ι j).block, 0, none⟩)) true ty).run C.P C.w = .ok (.tuple #[.bool false]) C.w) := by
 have hob := hI.obj j hj
 rw [hsj] at hob
 obtain ⟨hX, hh⟩ := hob
 refine ⟨fun hlt => ?_, fun hge => ?_⟩
 ·have hown : cD (C.ι j) (aD C.st j) = true := by rw [hsj]; rfl
  have hB := (Array.getElem?_eq_some_iff.1 hh).1
  have hother : ∀ k, k ≠ (C.ι j).block → (C.w.putObj (C.ι j).block (.stringIter b (p + (Utf8.decode b p).2))).heap[k]? = C.w.heap[k]? := fun k hk => World.putObj_heap_other hk
  have hs : aD (C.eX j (.db b (p + (Utf8.decode b p).2)) (C.w.putObj (C.ι j).block (.stringIter b (p + (Utf8.decode b p).2)))).st j = .db b (p + (Utf8.decode b p).2) := bD _ _ _ hj
  refine ⟨C.w.putObj (C.ι j).block (.stringIter b (p + (Utf8.decode b p).2)), ?_, jI hI hj hown World.putObj_size ⟨rfl, rfl, rfl⟩ hother
   ⟨by simp only [Ctx.eX, bd]; exact hj, fun T xs hx => (by rw [hs] at hx; simp [iE] at hx), fun T b hx => (by rw [hs] at hx; cases hx), fun _ _ _ hx => (by rw [hs] at hx; cases hx), fun _ hx => (by rw [hs] at hx; cases hx), fun _ _ _ hx => (by rw [hs] at hx; cases hx), fun _ hx => (by rw [hs] at hx; cases hx), fun s q hx => (by rw [hs] at hx; cases hx; exact ⟨_, hsj, rfl⟩)⟩
   ⟨hX, World.putObj_heap_same hB⟩⟩
  simp [Instr.next, getObj, setObj, Sem.run, hh, Result.andThen, hlt, World.putObj, goInt]
 ·simp [Instr.next, getObj, Sem.run, hh, Result.andThen, hge]
theorem gT : ∀ (l : List AV) (lo n : Nat) (z : AV), (dP l lo n z).length = l.length
 | [], _, _, _ => rfl
 | _ :: _, 0, 0, _ => rfl
 | _ :: l, 0, n + 1, z => by simp [dP, gT l 0 n z]
 | _ :: l, lo + 1, n, z => by simp [dP, gT l lo n z]
theorem rX : ∀ (l : List AV) (lo : Nat) (z : AV), dP l lo 0 z = l
 | [], _, _ => rfl
 | _ :: _, 0, _ => rfl
 | a :: l, lo + 1, z => by simp [dP, rX l lo z]
theorem oW : ∀ (l : List AV) (lo n : Nat) (z : AV) (k : Nat), k < l.length → nth (dP l lo n z) k = if lo ≤ k ∧ k < lo + n then z else nth l k
 | [], _, _, _, k, h => by simp at h
 | a :: l, 0, 0, z, k, h => by rw [if_neg (by omega)]; rfl
 | a :: l, 0, n + 1, z, 0, h => by rw [if_pos (by omega)]; rfl
 | a :: l, 0, n + 1, z, k + 1, h => by
  have := oW l 0 n z k (by simpa using h)
  show nth (dP l 0 n z) k = if 0 ≤ k + 1 ∧ k + 1 < 0 + (n + 1) then z else nth l k
  rw [this]
  by_cases h' : k < n
  ·rw [if_pos (by omega), if_pos (by omega)]
  ·rw [if_neg (by omega), if_neg (by omega)]
 | a :: l, lo + 1, n, z, 0, h => by rw [if_neg (by omega)]; rfl
 | a :: l, lo + 1, n, z, k + 1, h => by
  have := oW l lo n z k (by simpa using h)
  show nth (dP l lo n z) k = if lo + 1 ≤ k + 1 ∧ k + 1 < lo + 1 + n then z else nth l k
  rw [this]
  by_cases h' : lo ≤ k ∧ k < lo + n
  ·rw [if_pos h', if_pos (by omega)]
  ·rw [if_neg h', if_neg (by omega)]
theorem mj {P : Program} {T : TypeId} {z : AV} (hz : bE P z T) : ∀ (l : List AV) (lo n : Nat), bW P l T → bW P (dP l lo n z) T
 | [], _, _, h => h
 | _ :: _, 0, 0, h => h
 | _ :: l, 0, n + 1, h => by simp only [bW] at h; simp only [dP, bW]; exact ⟨hz, mj hz l 0 n h.2⟩
 | _ :: l, lo + 1, n, h => by simp only [bW] at h; simp only [dP, bW]; exact ⟨h.1, mj hz l lo n h.2⟩
theorem LS {C : Ctx} {z : Nat} : ∀ (l : List AV) (s : Src) (o : Nat), (∀ k, k < l.length → M C (nth l k) s (o + k * z)) → MR C l z s o
 | [], _, _, _ => by simp [MR]
 | a :: l, s, o, h => by
  simp only [MR]
  refine ⟨by have := h 0 (by simp); simpa [nth] using this, LS l s (o + z) (fun k hk => ?_)⟩
  have := h (k + 1) (by simpa using hk)
  simp only [nth] at this
  rwa [show o + (k + 1) * z = o + z + k * z by rw [Nat.add_mul]; omega] at this
theorem xB : ∀ (l : List Obj) (i : Nat), dU l i (aD l i) = l
 | [], _ => rfl
 | _ :: _, 0 => rfl
 | a :: l, i + 1 => by simp only [dU, aD]; rw [xB l i]
theorem GP {C : Ctx} {i : Nat} {o : Obj} (h : aD C.st i = o) : C.eX i o C.w = C := by
 subst h
 simp only [Ctx.eX, xB]
theorem FQ {C : Ctx} (hI : Inv C) {i lo n : Nat} (hi : i < C.st.length) {T Te ty : TypeId} {xs : List AV} {z : AV} (hT : C.P.underlying T = some (.slice Te)) (hrow : aD C.st i = .row Te xs) (hz : iC C.P Te = some z) (hpos : 0 < C.P.cellsOf Te) {v : Value}
  (hv : oI C i lo n v) : ∃ w', (Builtin.clear_ #[T] ty #[v]).run C.P C.w = .ok (.tuple #[]) w' ∧ Inv (C.eX i (.row Te (dP xs lo n z)) w') ∧ Ext C.st.length C (C.eX i (.row Te (dP xs lo n z)) w') := by
 obtain ⟨hlen, hv'⟩ := hv Te xs (by rw [hrow]; rfl)
 by_cases hn : n = 0
 ·subst hn
  refine ⟨C.w, ?_, by rw [rX, GP hrow]; exact ⟨hI, Ext.refl C (Nat.le_refl _)⟩⟩
  rcases hv' with ⟨_, rfl, _, _⟩ | ⟨_, cap, q, rfl, _⟩
  ·simp [Builtin.clear_, run_underlying hT]
  ·simp [Builtin.clear_, run_underlying hT]
 ·have hob := hI.obj i hi
  rw [hrow] at hob
  obtain ⟨g0, ⟨_, g9⟩ | ⟨g2, g1, cur, g3, g4, g5, g6, g7⟩⟩ := hob
  ·subst g9; simp at hlen; omega
  rcases hv' with ⟨_, rfl, _, e⟩ | ⟨_, cap, q, rfl, hq, hc1, hc2⟩
  ·exact absurd e hn
  have hq' : q = ⟨(C.ι i).block, lo * C.P.cellsOf Te, none⟩ := by
   rcases hq with h | ⟨h, _⟩
   ·exact h
   ·omega
  subst hq'
  obtain ⟨ti, zv, hti, hzv, hrz, hcz, hpz⟩ := eP hI hz
  have hwz : wid z = C.P.cellsOf Te := da hI.lay _ _ hpz
  have hzs : zv.cells.size = C.P.cellsOf Te := by rw [hrz.2.1.resolve_right (by intro e; subst e; simp [bE] at hpz), hwz]
  have hzj : z ≠ .cw := by intro e; subst e; simp [bE] at hpz
  generalize hZ : C.P.cellsOf Te = Z at *
  have hlz : (lo + n) * Z ≤ xs.length * Z := Nat.mul_le_mul_right _ hlen
  have hcz2 : xs.length * Z ≤ cur.size := by rw [← g6]; exact Nat.mul_le_mul_right _ g4
  have hadd : (lo + n) * Z = lo * Z + n * Z := Nat.add_mul _ _ _
  have hzl : (Builtin.zeroCells zv.cells n).toList.length = n * Z := by simp [Builtin.zeroCells, hzs]
  have hzat : ∀ j, j < n * Z → (Builtin.zeroCells zv.cells n).toList[j]? = zv.cells[j % Z]? := fun j hj => by
   have hm : j % Z < zv.cells.size := by rw [hzs]; exact Nat.mod_lt _ (by omega)
   simp only [Builtin.zeroCells, hzs, Array.toList_map, List.getElem?_map, Array.toList_range, List.getElem?_range hj, Option.map_some]
   rw [Array.getElem?_eq_getElem hm, getElem!_pos zv.cells (j % Z) hm]
  have hone : ∀ u, u ∈ (Builtin.zeroCells zv.cells n).toList → u.oneCell' = true := fun u hu => by
   obtain ⟨j, hj, e⟩ := List.getElem_of_mem hu
   have h1 := hzat j (by rw [← hzl]; exact hj)
   rw [ab7 hj, e] at h1
   have hm : j % Z < zv.cells.size := by rw [hzs]; exact Nat.mod_lt _ (by omega)
   rw [Array.getElem?_eq_getElem hm] at h1
   have hsol : cH z = true := o8 _ _ hpz
   exact pq hsol hrz u (by rw [Option.some.inj h1]; simp)
  have hst := run_storeCells_at C.P (C.ι i).block (lo * Z) Te (Builtin.zeroCells zv.cells n).toList 0 cur C.w g3 (by rw [hzl]; omega) hone
  simp only [Nat.add_zero, hzl] at hst
  refine ⟨C.w.setRow (C.ι i).block (cur.toList.take (lo * Z) ++ (Builtin.zeroCells zv.cells n).toList ++ cur.toList.drop (lo * Z + n * Z)).toArray, ?_, ?_⟩
  ·obtain ⟨m, rfl⟩ : ∃ m, n = m + 1 := ⟨n - 1, by omega⟩
   simp only [Builtin.clear_]
   simp only [Sem.run_bind, List.getElem?_toArray, List.getElem?_cons_zero, run_underlying hT, Result.andThen_ok, jg hti hzv, hst, Sem.run_pure]
  ·generalize hw' : C.w.setRow (C.ι i).block (cur.toList.take (lo * Z) ++ (Builtin.zeroCells zv.cells n).toList ++ cur.toList.drop (lo * Z + n * Z)).toArray = w' at *
   have hsp := spliced cur (lo * Z) (Builtin.zeroCells zv.cells n).toList (by rw [hzl]; omega)
   rw [hzl] at hsp
   have hsrc : ∀ j, cellAt w' (C.ι i).block j = if lo * Z ≤ j ∧ j < lo * Z + n * Z then (Builtin.zeroCells zv.cells n).toList[j - lo * Z]? else cellAt C.w (C.ι i).block j := fun j => by
    rw [← hw', lY _ _ cur _ Te g3, hsp, ky g3]
   have hMR : MR C (dP xs lo n z) Z (cellAt w' (C.ι i).block) 0 := by
    refine LS _ _ _ (fun k hk => ?_)
    rw [gT] at hk
    rw [oW xs lo n z k hk, Nat.zero_add]
    by_cases h' : lo ≤ k ∧ k < lo + n
    ·rw [if_pos h']
     refine qE hI hrz (fun j hj => ?_) hzj
     rw [hzs] at hj
     have h1 : lo * Z ≤ k * Z := Nat.mul_le_mul_right _ h'.1
     have h2 : (k - lo) * Z + Z ≤ n * Z := by
      have := Nat.mul_le_mul_right Z (show k - lo + 1 ≤ n by omega)
      rwa [Nat.add_mul, Nat.one_mul] at this
     have h3 : k * Z = lo * Z + (k - lo) * Z := by rw [← Nat.add_mul]; congr 1; omega
     rw [hsrc, if_pos (by omega), hzat _ (by omega)]
     congr 1
     rw [show k * Z + j - lo * Z = j + Z * (k - lo) by rw [Nat.mul_comm Z]; omega, Nat.add_mul_mod_self_left, Nat.mod_eq_of_lt hj]
    ·rw [if_neg h']
     have hMk := Bx xs k Z _ 0 hk g7
     rw [Nat.zero_add] at hMk
     have hpk := nJ xs k Te hk g0
     have hwk : wid (nth xs k) = Z := by rw [da hI.lay _ _ hpk, hZ]
     refine jr hI (fun j hj => ?_) hMk
     rw [hwk] at hj
     rw [hsrc, if_neg ?_]
     rintro ⟨a1, a2⟩
     rcases Nat.lt_or_ge k lo with h | h
     ·have := Nat.mul_le_mul_right Z (show k + 1 ≤ lo by omega)
      rw [Nat.add_mul, Nat.one_mul] at this
      omega
     ·have := Nat.mul_le_mul_right Z (show lo + n ≤ k by omega)
      omega
   have hown : cD (C.ι i) (aD C.st i) = true := by rw [hrow]; simp [cD, g2]
   have hr : cd C (C.eX i (.row Te (dP xs lo n z)) w') i i := qJ hi hrow (by rw [gT]; exact Nat.le_refl _)
   have hother : ∀ b, b ≠ (C.ι i).block → w'.heap[b]? = C.w.heap[b]? := fun b hb => by rw [← hw']; exact setRow_other _ _ _ _ hb
   refine jI hI hi hown (by rw [← hw']; simp) (by rw [← hw']; exact setRow_os _ _ _) hother hr ?_
   have hkp : bL C (C.eX i (.row Te (dP xs lo n z)) w') := ⟨rfl, fun _ h => h, fun b hb => hother b (fun e => g1 (e ▸ hb))⟩
   have hpt := mj hpz xs lo n g0
   refine ⟨hpt, .inr ⟨g2, g1, (cur.toList.take (lo * Z) ++ (Builtin.zeroCells zv.cells n).toList ++ cur.toList.drop (lo * Z + n * Z)).toArray, ?_, by rw [gT]; exact g4, g5, ?_, ?_⟩⟩
   ·rw [show (C.eX i (.row Te (dP xs lo n z)) w').w = w' from rfl, ← hw']
    exact setRow_heap _ _ cur _ Te (0, 0) g3
   ·show (C.ι i).cap * C.P.cellsOf Te = _
    rw [hZ, g6]
    simp only [List.size_toArray, ab9, List.length_take, List.length_drop, hzl, Array.length_toList]
    omega
   ·show MR _ _ (C.P.cellsOf Te) _ _
    exact fW hkp hI.lay _ Te _ _ 0 0 hpt (fun _ _ => rfl) (by rw [hZ]; exact hMR)
theorem Bw {C : Ctx} (hI : Inv C) {i j n : Nat} (hj : j < C.st.length) {ks : List Value} (hsj : aD C.st j = .iter i n ks) {K V : TypeId} {es : List (Value × AV)} (hst : aD C.st i = .map K V es) (hn : es.length = n) :
  i < C.st.length ∧ ¬ C.X (C.ι j).block ∧ ∃ since seen entries clock, C.w.heap[(C.ι j).block]? = some (.mapIter (some (C.ι i).block) since seen clock) ∧ C.w.heap[(C.ι i).block]? = some (.map entries clock) ∧
   cn C V es entries.toList ∧ qk C.P K entries.toList clock ∧ QJ entries clock since seen clock n ks ∧ since = clock := by
 have hob := hI.obj j hj
 rw [hsj] at hob
 obtain ⟨hX, hi, m, since, seen, stepped, h1, h2⟩ := hob
 obtain ⟨rfl, entries, clock, hh, hp⟩ := h2.2 K V es hst
 obtain ⟨entries', clock', hh', hent, hmap⟩ := mh hI hi hst
 rw [hh] at hh'; cases hh'
 have hlen := hent.length
 have hsz := hp.size
 have h3 := hp.QS
 have h4 := hp.QV
 have hsz' : entries.size = n := by rw [← hn, hlen]; simp
 obtain rfl : since = clock := by omega
 obtain rfl : stepped = since := by omega
 exact ⟨hi, hX, _, seen, entries, _, h1, hh, hent, hmap, hp, rfl⟩
theorem IB {C : Ctx} (hI : Inv C) {i j n : Nat} (hj : j < C.st.length) {ks : List Value} (hsj : aD C.st j = .iter i n ks) {K V : TypeId} {es : List (Value × AV)} (hst : aD C.st i = .map K V es) (hn : es.length = n) (ty : TypeId) :
  (pX ks es = true ∧ (Instr.next (.pointer (some ⟨(C.ι j).block, 0, none⟩)) false ty).run C.P C.w = .ok (.tuple #[.bool false]) C.w) ∨
  ∃ k a v w', (k, a) ∈ es ∧ yv ks k = false ∧ plainKey C.P K k = true ∧ (Instr.next (.pointer (some ⟨(C.ι j).block, 0, none⟩)) false ty).run C.P C.w = .ok (.tuple #[.bool true, k, v]) w' ∧
   Inv (C.eX j (.iter i n (k :: ks)) w') ∧ Ext C.st.length C (C.eX j (.iter i n (k :: ks)) w') ∧ bE C.P a V ∧ Rel (C.eX j (.iter i n (k :: ks)) w') a v := by
 obtain ⟨hi, hX, since, seen, entries, clock, h1, hh, hent, hmap, hp, rfl⟩ := Bw hI hj hsj hst hn
 have hij : i ≠ j := by intro e; subst e; rw [hst] at hsj; cases hsj
 have hownj : cD (C.ι j) (aD C.st j) = true := by rw [hsj]; rfl
 have howni : cD (C.ι i) (aD C.st i) = true := by rw [hst]; rfl
 have hbne : (C.ι i).block ≠ (C.ι j).block := hI.sK i j hi hj hij howni hownj
 rcases run_next_at (P := C.P) C.w ty (C.ι j).block (C.ι i).block since since seen entries since h1 hh (fun x hx => hmap.clock x hx) (Nat.le_refl _) with ⟨h0, hr⟩ | ⟨e, he, w1, hw1, hr⟩
 ·refine .inl ⟨hent.seen (fun e he => ?_), hr⟩
  have hm := hp.met e (by simpa using he) (hmap.clock e he)
  rw [← hm]
  cases hc : seen.contains e.born with
  | true => rfl
  | false =>
   have : e ∈ leftOf entries seen := by unfold leftOf; simp only [Array.mem_filter]; exact ⟨by simpa using he, by simp only [hc]; rfl⟩
   have hpos := Array.size_pos_of_mem this
   omega
 ·have he' : e ∈ entries.toList ∧ seen.contains e.born = false := by
   have := he
   unfold leftOf at this
   simp only [Array.toList_filter, List.mem_filter, Bool.not_eq_true'] at this
   exact this
  obtain ⟨hem, hes⟩ := he'
  obtain ⟨a, ha, hpa, hra⟩ := hent.mem e hem
  have hm := hp.met e (by simpa using hem) (hmap.clock e hem)
  have hheap1 : w1.heap = C.w.heap := by rcases hw1 with rfl | rfl <;> rfl
  have hos1 : ed C.w w1 := by rcases hw1 with rfl | rfl <;> exact ⟨rfl, rfl, rfl⟩
  have hltj := (Array.getElem?_eq_some_iff.1 h1).1
  have hother : ∀ b, b ≠ (C.ι j).block → (setBlock w1 (C.ι j).block (.mapIter (some (C.ι i).block) since (seen.push e.born) since)).heap[b]? = C.w.heap[b]? := fun b hb => by
   rw [← hheap1]
   show (w1.heap.set! _ _)[b]? = _
   simp [Array.getElem?_setIfInBounds_ne (Ne.symm hb)]
  have hsame : (setBlock w1 (C.ι j).block (.mapIter (some (C.ι i).block) since (seen.push e.born) since)).heap[(C.ι j).block]? = some (.mapIter (some (C.ι i).block) since (seen.push e.born) since) := by
   show (w1.heap.set! _ _)[_]? = _
   rw [hheap1]
   simp [hltj]
  have hk : bL C (C.eX j (.iter i n (e.key :: ks)) (setBlock w1 (C.ι j).block (.mapIter (some (C.ι i).block) since (seen.push e.born) since))) := ⟨rfl, fun _ h => h, fun b hb => hother b (fun e => hX (e ▸ hb))⟩
  have hs : aD (C.eX j (.iter i n (e.key :: ks)) (setBlock w1 (C.ι j).block (.mapIter (some (C.ι i).block) since (seen.push e.born) since))).st j = .iter i n (e.key :: ks) := bD _ _ _ hj
  have hup := jI hI hj (o := .iter i n (e.key :: ks)) (w := setBlock w1 (C.ι j).block (.mapIter (some (C.ι i).block) since (seen.push e.born) since)) hownj
   (by show (w1.heap.set! _ _).size = _; rw [hheap1]; simp) ⟨hos1.os, hos1.tape, hos1.output⟩ hother
   ⟨by simp only [Ctx.eX, bd]; exact hj, fun T xs hx => (by rw [hs] at hx; simp [iE] at hx), fun T b hx => (by rw [hs] at hx; cases hx), fun _ _ _ hx => (by rw [hs] at hx; cases hx), fun _ hx => (by rw [hs] at hx; cases hx),
    fun m n' ks' hx => (by rw [hs] at hx; cases hx; exact ⟨_, _, hsj, rfl⟩), fun _ hx => (by rw [hs] at hx; cases hx), fun _ _ hx => (by rw [hs] at hx; cases hx)⟩
   (by
    refine ⟨hX, by simp only [Ctx.eX, bd]; exact hi, _, _, _, _, hsame, fun h => (by
     have hpk := hmap.keys e hem
     simp only [List.cons.injEq] at h
     rw [h.1] at hpk; cases hpk), fun K' V' es' hx => ?_⟩
    have hold : aD (C.eX j (.iter i n (e.key :: ks)) (setBlock w1 (C.ι j).block (.mapIter (some (C.ι i).block) since (seen.push e.born) since))).st i = aD C.st i := bK _ _ _ _ (Ne.symm hij)
    refine ⟨rfl, entries, since, (hother _ hbne).trans hh, ⟨hp.size, hp.QS, hp.QV, fun e2 he2 hb2 => ?_, fun k r hx => ?_⟩⟩
    ·simp only [yv]
     rw [Array.contains_push, hp.met e2 he2 hb2, Ic hmap hem (by simpa using he2), Bool.or_comm]
    ·cases hx
     exact ⟨e, seen, by simpa using hem, rfl, rfl⟩)
  exact .inr ⟨e.key, a, e.val, _, ha, by rw [← hm]; exact hes, hmap.keys e hem, hr, hup.1, hup.2, hpa, hra.pure hk hI.lay hpa⟩
theorem AY {C : Ctx} {K V : TypeId} {k : Value} {z : AV} (hk : plainKey C.P K k = true) : ∀ {es : List (Value × AV)} {ents : List MapEntry}, cn C V es ents → ents.Pairwise (fun e e' => dm e'.key e.key = false) → ∀ e, e ∈ ents → e.key = k →
  bE C.P (eg es k z) V ∧ Rel C (eg es k z) e.val
 | [], [], _, _, e, he, _ => by simp at he
 | [], _ :: _, h, _, _, _, _ => by simp [cn] at h
 | _ :: _, [], h, _, _, _, _ => by simp [cn] at h
 | (k0, a) :: es, e0 :: ents, h, hp, e, he, hek => by
  simp only [cn] at h
  rw [List.pairwise_cons] at hp
  simp only [eg]
  rcases List.mem_cons.1 he with rfl | he
  ·rw [← h.1, hek, kk hk]; exact ⟨h.2.1, h.2.2.1⟩
  ·have := hp.1 e he
   rw [hek, h.1] at this
   rw [this]
   exact AY hk h.2.2.2 hp.2 e he hek
theorem Gj {C : Ctx} (hI : Inv C) {i j n : Nat} (hj : j < C.st.length) {k : Value} {ks : List Value} (hsj : aD C.st j = .iter i n (k :: ks)) {K V : TypeId} {es : List (Value × AV)} (hst : aD C.st i = .map K V es) (hn : es.length = n) (z : AV) :
  ∃ v, (Instr.entry (.pointer (some ⟨(C.ι j).block, 0, none⟩))).run C.P C.w = .ok (.tuple #[k, v]) C.w ∧ plainKey C.P K k = true ∧ bE C.P (eg es k z) V ∧ Rel C (eg es k z) v := by
 obtain ⟨hi, hX, since, seen, entries, clock, h1, hh, hent, hmap, hp, rfl⟩ := Bw hI hj hsj hst hn
 obtain ⟨e, s', he, rfl, rfl⟩ := hp.last _ _ rfl
 have he' : e ∈ entries.toList := by simpa using he
 have hnd : (entries.toList.map (·.born)).Nodup := by
  rw [List.Nodup, List.pairwise_map]
  exact hmap.born.imp (fun h => by omega)
 refine ⟨e.val, run_entry_at C.w _ _ since s' entries since e h1 hh he' hnd, hmap.keys e he', ?_⟩
 exact AY (hmap.keys e he') hent hmap.apart e he' rfl
end Go.Dn
