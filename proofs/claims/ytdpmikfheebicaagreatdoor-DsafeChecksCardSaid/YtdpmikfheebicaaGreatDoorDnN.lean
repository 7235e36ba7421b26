import Derived.Test.YtdpmikfheebicaaGreatDoorDnM
namespace Go.Dn
open Go
def Stepped (C : Ctx) (act : Act) (dst : Option Tmp) (r : Result Next) (K : S → Prop) : Prop :=
 ∃ v w', (r = .ok (.value v) w' ∨ (r = .ok .skip w' ∧ v = undef)) ∧ ∃ C' s', C'.w = w' ∧ C'.P = C.P ∧ Inv C' ∧ dn C' s' (act.put dst v) ∧ Ext C.st.length C C' ∧ K s'
theorem xl (v : Value) : ba v = v.oneCell' := by cases v <;> rfl
mutual
theorem EP {C : Ctx} : ∀ (a : AV) (s : Src) (o : Nat), cH a = true → M C a s o → ∀ j, j < wid a → ∃ v, s (o + j) = some v ∧ ba v = true
 | .agg l, s, o, hs, h, j, hj => by
  simp only [cH] at hs; simp only [M] at h; simp only [wid] at hj
  exact Bi l s o hs h j hj
 | .cw, _, _, hs, _, _, _ | .bR _, _, _, hs, _, _, _ => by simp [cH] at hs
 | .lit v, s, o, hs, h, j, hj => by
  simp only [wid] at hj; obtain rfl : j = 0 := by omega
  exact gU (a := .lit v) rfl hs h
 | .ae T l, s, o, hs, h, j, hj => by simp only [wid] at hj; obtain rfl : j = 0 := (by omega); exact gU (a := .ae T l) rfl hs h
 | .a7 i lo n, s, o, hs, h, j, hj => by simp only [wid] at hj; obtain rfl : j = 0 := (by omega); exact gU (a := .a7 i lo n) rfl hs h
 | .ptr i k p f, s, o, hs, h, j, hj => by simp only [wid] at hj; obtain rfl : j = 0 := (by omega); exact gU (a := .ptr i k p f) rfl hs h
 | .jH T a, s, o, hs, h, j, hj => by simp only [wid] at hj; obtain rfl : j = 0 := (by omega); exact gU (a := .jH T a) rfl hs h
 | .mp i, s, o, hs, h, j, hj => by simp only [wid] at hj; obtain rfl : j = 0 := (by omega); exact gU (a := .mp i) rfl hs h
 | .dv i, s, o, hs, h, j, hj => by simp only [wid] at hj; obtain rfl : j = 0 := (by omega); exact gU (a := .dv i) rfl hs h
 | .kr i k, s, o, hs, h, j, hj => by simp only [wid] at hj; obtain rfl : j = 0 := (by omega); exact gU (a := .kr i k) rfl hs h
 | .dq f l, s, o, hs, h, j, hj => by simp only [wid] at hj; obtain rfl : j = 0 := (by omega); exact gU (a := .dq f l) rfl hs h
 | .jb T a, s, o, hs, h, j, hj => by simp only [wid] at hj; obtain rfl : j = 0 := (by omega); exact gU (a := .jb T a) rfl hs h
theorem Bi {C : Ctx} : ∀ (l : List AV) (s : Src) (o : Nat), dT l = true → ML C l s o → ∀ j, j < eG l → ∃ v, s (o + j) = some v ∧ ba v = true
 | [], _, _, _, _, j, hj => by simp [eG] at hj
 | a :: l, s, o, hs, h, j, hj => by
  simp only [dT, aa1] at hs
  simp only [ML] at h
  simp only [eG] at hj
  rcases Nat.lt_or_ge j (wid a) with hlt | hge
  ·exact EP a s o hs.1 h.1 j hlt
  ·obtain ⟨v, h1, h2⟩ := Bi l s (o + wid a) hs.2 h.2 (j - wid a) (by omega)
   exact ⟨v, by rw [← h1]; congr 1; omega, h2⟩
end
theorem pq {C : Ctx} {a : AV} {v : Value} (hs : cH a = true) (hr : Rel C a v) : ∀ u, u ∈ v.cells.toList → u.oneCell' = true := by
 intro u hu
 obtain ⟨j, hj, rfl⟩ := List.getElem_of_mem hu
 have hnj : a ≠ .cw := by intro e; subst e; simp [cH] at hs
 have hsz := hr.2.1.resolve_right hnj
 simp only [Array.length_toList] at hj
 obtain ⟨w, h1, h2⟩ := EP a _ 0 hs hr.2.2 j (by omega)
 simp only [Nat.zero_add] at h1
 have : v.cells[j] = w := by
  rw [Array.getElem?_eq_getElem hj] at h1
  exact Option.some.inj h1
 simp only [Array.getElem_toList]
 rw [this, ← xl]; exact h2
theorem cf (w : World) (o : Go.Obj) (b : Nat) (h : b < w.heap.size) : (w.alloc o).heap[b]? = w.heap[b]? := by
 show (w.heap.push o)[b]? = _
 rw [Array.getElem?_push, if_neg (by omega)]
theorem alloc_heap_new (w : World) (o : Go.Obj) : (w.alloc o).heap[w.heap.size]? = some o := by
 show (w.heap.push o)[w.heap.size]? = _
 simp
theorem du (w : World) (o : Go.Obj) : (w.alloc o).heap.size = w.heap.size + 1 := by
 show (w.heap.push o).size = _
 simp
theorem kl (w : World) (o : Go.Obj) : ed w (w.alloc o) := ⟨rfl, rfl, rfl⟩
theorem lp {C : Ctx} (hI : Inv C) {o : Obj} {g : G} {w : World} (hold : ∀ b, b < C.w.heap.size → w.heap[b]? = C.w.heap[b]?) : bL C (C.add o g w) :=
 ⟨rfl, fun _ h => h, fun b hb => hold b (hI.xs b hb)⟩
theorem uH {C : Ctx} (hI : Inv C) {o : Obj} {g : G} {w : World} (hold : ∀ b, b < C.w.heap.size → w.heap[b]? = C.w.heap[b]?) {i : Nat} (hi : i < C.st.length) : cd C (C.add o g w) i i :=
 ea (by simp [Ctx.add]; omega) (cF hi).1 (cF hi).2 (fun h => hold _ ((hI.obj i hi).lt h).1)
theorem iW (w : World) (cs : Array Value) (T : TypeId) (fz : Nat × Nat) (j : Nat) : cellAt (w.alloc (.cells cs T fz)) w.heap.size j = cs[j]? := by
 simp only [cellAt, World.cell?, alloc_heap_new]; simp
theorem EG {C : Ctx} (hI : Inv C) {T : TypeId} {a : AV} {v : Value} (hr : Rel C a v) (hs : cH a = true) :
  Inv (C.add (.box T a) ⟨C.w.heap.size, 0, false⟩ (C.w.alloc (.cells v.cells T))) ∧ Ext C.st.length C (C.add (.box T a) ⟨C.w.heap.size, 0, false⟩ (C.w.alloc (.cells v.cells T))) ∧
  Rel (C.add (.box T a) ⟨C.w.heap.size, 0, false⟩ (C.w.alloc (.cells v.cells T))) (.ptr C.st.length 0 [] 0) (.pointer (some ⟨C.w.heap.size, 0, none⟩)) := by
 have hnj : a ≠ .cw := by intro e; subst e; simp [cH] at hs
 have hold := cf C.w (.cells v.cells T)
 have hsz := hr.2.1.resolve_right hnj
 have h := ij hI (o := .box T a) (g := ⟨C.w.heap.size, 0, false⟩) (w := C.w.alloc (.cells v.cells T)) rfl (by rw [du]; omega) (kl _ _) hold (by
  refine ⟨fun h => by have := hI.xs _ h; simp at this, hs, v.cells, T, alloc_heap_new _ _, by omega, ?_⟩
  exact M.fu (lp hI hold) hI.lay (fun i _ hlt => uH hI hold hlt) (fun j _ => by simp only [Nat.zero_add]; exact iW _ _ _ _ _) hr.2.2)
 refine ⟨h.1, h.2, gg rfl rfl ?_ h.1⟩
 simp only [M]
 refine ⟨by simp [Ctx.add], _, rfl, rfl, fun T0 xs hx => ?_, fun T0 b hx => ?_, fun _ _ _ hx => (by rw [b9.1] at hx; cases hx), fun _ _ hx => (by rw [b9.1] at hx; cases hx)⟩
 ·rw [b9.1] at hx; simp [iE] at hx
 ·rw [b9.1] at hx; rw [b9.2]; exact ⟨rfl, rfl⟩
mutual
theorem o8 {P : Program} : ∀ (a : AV) (T : TypeId), bE P a T → cH a = true
 | .lit v, T, h => by
  simp only [bE] at h
  simp only [cH]
  split at h <;> first
   | (obtain ⟨_, rfl⟩ := h; rfl)
   | (subst h; rfl)
   | exact h.elim
   | exact h
 | .ae _ _, _, _ => by simp [cH]
 | .agg l, T, h => by
  simp only [bE] at h
  obtain ⟨fs, _, h⟩ := h
  simp only [cH]; exact r7 l _ h
 | .jH _ _, _, _ => by simp [cH]
 | .jb _ _, _, _ => by simp [cH]
 | .cw, _, h | .bR _, _, h | .a7 _ _ _, _, h | .ptr _ _ _ _, _, h | .mp _, _, h | .dv _, _, h | .kr _ _, _, h | .dq _ _, _, h => by simp [bE] at h
theorem r7 {P : Program} : ∀ (l : List AV) (fs : List Field), dk P l fs → dT l = true
 | [], _, _ => by simp [dT]
 | _ :: _, [], h => by simp [dk] at h
 | a :: l, f :: fs, h => by
  simp only [dk] at h
  simp only [dT, aa1]
  exact ⟨o8 a _ h.1, r7 l fs h.2⟩
end
theorem Stepped.mk' {C C' : Ctx} (hI : Inv C) {s : S} {act : Act} (hs : dn C s act) {dst : Option Tmp} {r : Result Next} {K : S → Prop} {x : AV} {v : Value}
  (hr : r = .ok (.value v) C'.w ∨ (r = .ok .skip C'.w ∧ v = undef)) (hI' : Inv C') (he : Ext C.st.length C C') (hx : Rel C' x v) (hK : K (put { s with st := C'.st } dst x)) : Stepped C act dst r K :=
 ⟨v, C'.w, hr, C', _, rfl, he.keeps.P, hI', (hs.step hI he).put hx, he, hK⟩
theorem tM {P : Program} {w : World} (T : TypeId) (v : Value) : (newVar T v).run P w = .ok ⟨w.heap.size, 0, none⟩ (w.alloc (.cells v.cells T)) := by
 simp [newVar, newRow]
theorem As {C : Ctx} (hI : Inv C) {s : S} {act : Act} (hs : dn C s act) {dst : Option Tmp} {T : TypeId} {z : AV} {K : S → Prop} (hz : iC C.P T = some z)
  (hK : K (put { s with st := s.st ++ [.box T z] } dst (.ptr s.st.length 0 [] 0))) {o : Oper} (ho : o.op = .alloc T) : Stepped C act dst ((execOp act.eval o).run C.P C.w) K := by
 obtain ⟨i, zv, hi, hzv, hrz, hc, hpz⟩ := eP hI hz
 obtain ⟨h1, h2, h3⟩ := EG hI (T := T) hrz (o8 _ _ hpz)
 refine Stepped.mk' hI hs (v := .pointer (some ⟨C.w.heap.size, 0, none⟩)) (.inl ?_) h1 h2 h3 (by simpa [Ctx.add, hs.st] using hK)
 simp [execOp, ho, Instr.alloc, jg hi hzv, tM]; rfl
theorem Gf {C : Ctx} (hI : Inv C) {s : S} {act : Act} (hs : dn C s act) {dst : Option Tmp} {T : TypeId} {x : Operand} {K : S → Prop} (hsol : cH (ev s x) = true)
  (hK : K (put { s with st := s.st ++ [.box T (ev s x)] } dst (.ptr s.st.length 0 [] 0))) {o : Oper} (ho : o.op = .box T x) : Stepped C act dst ((execOp act.eval o).run C.P C.w) K := by
 obtain ⟨h1, h2, h3⟩ := EG hI (T := T) (bp hs x) hsol
 refine Stepped.mk' hI hs (v := .pointer (some ⟨C.w.heap.size, 0, none⟩)) (.inl ?_) h1 h2 h3 (by simpa [Ctx.add, hs.st] using hK)
 simp [execOp, ho, Instr.box, tM]; rfl
theorem wa {C : Ctx} (hI : Inv C) {s : S} {act : Act} (hs : dn C s act) {dst : Option Tmp} {T Kt Vt : TypeId} {K : S → Prop} (_hT : C.P.underlying T = some (.map Kt Vt))
  (hK : K (put { s with st := s.st ++ [.map Kt Vt []] } dst (.mp s.st.length))) {o : Oper} (ho : o.op = .makeMap T none) : Stepped C act dst ((execOp act.eval o).run C.P C.w) K := by
 have hold := cf C.w (.map #[] 0)
 have h := ij hI (o := .map Kt Vt []) (g := ⟨C.w.heap.size, 0, false⟩) (w := C.w.alloc (.map #[] 0)) rfl (by rw [du]; omega) (kl _ _) hold (by
  refine ⟨fun h => by have := hI.xs _ h; simp at this, #[], 0, alloc_heap_new _ _, by simp [cn], ⟨by simp, by simp, by simp, by simp⟩⟩)
 refine Stepped.mk' hI hs (v := .map (some C.w.heap.size)) (x := .mp C.st.length) (.inl ?_) h.1 h.2 (gg rfl rfl ?_ h.1) (by simpa [Ctx.add, hs.st] using hK)
 ·simp [execOp, ho, Instr.makeMap]; rfl
 ·simp only [M]
  refine ⟨by simp [Ctx.add], _, rfl, rfl, fun K' V' es hx => ?_⟩
  rw [b9.2]
end Go.Dn
