import Derived.Test.YtdpmikfheebicaaGreatDoorDnM
namespace Go.Dn
open Go
def Stepped (C : Ctx) (act : Act) (dst : Option Tmp) (r : Result Next) (K : S → Prop) : Prop :=
 ∃ v w', (r = .ok (.value v) w' ∨ (r = .ok .skip w' ∧ v = undef)) ∧ ∃ C' s', C'.w = w' ∧ C'.P = C.P ∧ Inv C' ∧ cQ C' s' (act.put dst v) ∧ Ext C.st.length C C' ∧ K s'
theorem qm (v : Value) : aZ v = v.oneCell' := by cases v <;> rfl
mutual
theorem Df {C : Ctx} : ∀ (a : AV) (s : Src) (o : Nat), ck a = true → M C a s o → ∀ j, j < wid a → ∃ v, s (o + j) = some v ∧ aZ v = true
 | .agg l, s, o, hs, h, j, hj => by
  simp only [ck] at hs; simp only [M] at h; simp only [wid] at hj
  exact y9 l s o hs h j hj
 | .b7, _, _, hs, _, _, _ | .bj _, _, _, hs, _, _, _ => by simp [ck] at hs
 | .lit v, s, o, hs, h, j, hj => by
  simp only [wid] at hj; obtain rfl : j = 0 := by omega
  exact fy (a := .lit v) rfl hs h
 | .ae T l, s, o, hs, h, j, hj => by simp only [wid] at hj; obtain rfl : j = 0 := (by omega); exact fy (a := .ae T l) rfl hs h
 | .aB i lo n, s, o, hs, h, j, hj => by simp only [wid] at hj; obtain rfl : j = 0 := (by omega); exact fy (a := .aB i lo n) rfl hs h
 | .ptr i k p f, s, o, hs, h, j, hj => by simp only [wid] at hj; obtain rfl : j = 0 := (by omega); exact fy (a := .ptr i k p f) rfl hs h
 | .iz T a, s, o, hs, h, j, hj => by simp only [wid] at hj; obtain rfl : j = 0 := (by omega); exact fy (a := .iz T a) rfl hs h
 | .mp i, s, o, hs, h, j, hj => by simp only [wid] at hj; obtain rfl : j = 0 := (by omega); exact fy (a := .mp i) rfl hs h
 | .ct i, s, o, hs, h, j, hj => by simp only [wid] at hj; obtain rfl : j = 0 := (by omega); exact fy (a := .ct i) rfl hs h
 | .jk i k, s, o, hs, h, j, hj => by simp only [wid] at hj; obtain rfl : j = 0 := (by omega); exact fy (a := .jk i k) rfl hs h
 | .bL f l, s, o, hs, h, j, hj => by simp only [wid] at hj; obtain rfl : j = 0 := (by omega); exact fy (a := .bL f l) rfl hs h
 | .gO T a, s, o, hs, h, j, hj => by simp only [wid] at hj; obtain rfl : j = 0 := (by omega); exact fy (a := .gO T a) rfl hs h
 | .iq K V ks vs, s, o, hs, h, j, hj => by simp only [wid] at hj; obtain rfl : j = 0 := (by omega); exact fy (a := .iq K V ks vs) rfl hs h
theorem y9 {C : Ctx} : ∀ (l : List AV) (s : Src) (o : Nat), du l = true → ML C l s o → ∀ j, j < eh l → ∃ v, s (o + j) = some v ∧ aZ v = true
 | [], _, _, _, _, j, hj => by simp [eh] at hj
 | a :: l, s, o, hs, h, j, hj => by
  simp only [du, aa1] at hs
  simp only [ML] at h
  simp only [eh] at hj
  rcases Nat.lt_or_ge j (wid a) with hlt | hge
  ·exact Df a s o hs.1 h.1 j hlt
  ·obtain ⟨v, h1, h2⟩ := y9 l s (o + wid a) hs.2 h.2 (j - wid a) (by omega)
   exact ⟨v, by rw [← h1]; congr 1; omega, h2⟩
end
theorem nS {C : Ctx} {a : AV} {v : Value} (hs : ck a = true) (hr : Rel C a v) : ∀ u, u ∈ v.cells.toList → u.oneCell' = true := by
 intro u hu
 obtain ⟨j, hj, rfl⟩ := List.getElem_of_mem hu
 have hnj : a ≠ .b7 := by intro e; subst e; simp [ck] at hs
 have hsz := hr.2.1.resolve_right hnj
 simp only [Array.length_toList] at hj
 obtain ⟨w, h1, h2⟩ := Df a _ 0 hs hr.2.2 j (by omega)
 simp only [Nat.zero_add] at h1
 have : v.cells[j] = w := by
  rw [Array.getElem?_eq_getElem hj] at h1
  exact Option.some.inj h1
 simp only [Array.getElem_toList]
 rw [this, ← qm]; exact h2
theorem bC (w : World) (o : Go.Obj) (b : Nat) (h : b < w.heap.size) : (w.alloc o).heap[b]? = w.heap[b]? := by
 show (w.heap.push o)[b]? = _
 rw [Array.getElem?_push, if_neg (by omega)]
theorem alloc_heap_new (w : World) (o : Go.Obj) : (w.alloc o).heap[w.heap.size]? = some o := by
 show (w.heap.push o)[w.heap.size]? = _
 simp
theorem cr (w : World) (o : Go.Obj) : (w.alloc o).heap.size = w.heap.size + 1 := by
 show (w.heap.push o).size = _
 simp
theorem gz (w : World) (o : Go.Obj) : dm w (w.alloc o) := ⟨rfl, rfl, rfl⟩
theorem jl {C : Ctx} (hI : Inv C) {o : Obj} {g : G} {w : World} (hold : ∀ b, b < C.w.heap.size → w.heap[b]? = C.w.heap[b]?) : bD C (C.add o g w) :=
 ⟨rfl, fun _ h => h, fun b hb => hold b (hI.xs b hb)⟩
theorem tU {C : Ctx} (hI : Inv C) {o : Obj} {g : G} {w : World} (hold : ∀ b, b < C.w.heap.size → w.heap[b]? = C.w.heap[b]?) {i : Nat} (hi : i < C.st.length) : bP C (C.add o g w) i i :=
 dW hI hi (by simp [Ctx.add]; omega) (cn hi).1 (cn hi).2 (fun h b hb => ⟨rfl, rfl, hold _ (hI.cZ ⟨i, hi, h, hb.symm⟩).1⟩)
theorem gR (w : World) (cs : Array Value) (T : TypeId) (fz : Nat × Nat) (j : Nat) : cellAt (w.alloc (.cells cs T fz)) w.heap.size j = cs[j]? := by
 simp only [cellAt, World.cell?, alloc_heap_new]; simp
theorem Cb {C : Ctx} (hI : Inv C) {T : TypeId} {a : AV} {v : Value} (hr : Rel C a v) (hs : ck a = true) :
  Inv (C.add (.box T a) ⟨C.w.heap.size, 0, false⟩ (C.w.alloc (.cells v.cells T))) ∧ Ext C.st.length C (C.add (.box T a) ⟨C.w.heap.size, 0, false⟩ (C.w.alloc (.cells v.cells T))) ∧
  Rel (C.add (.box T a) ⟨C.w.heap.size, 0, false⟩ (C.w.alloc (.cells v.cells T))) (.ptr C.st.length 0 [] 0) (.pointer (some ⟨C.w.heap.size, 0, none⟩)) := by
 have hnj : a ≠ .b7 := by intro e; subst e; simp [ck] at hs
 have hold := bC C.w (.cells v.cells T)
 have hsz := hr.2.1.resolve_right hnj
 have h := fD hI (o := .box T a) (g := ⟨C.w.heap.size, 0, false⟩) (w := C.w.alloc (.cells v.cells T)) rfl (by rw [cr]; omega) (gz _ _) hold (by
  refine ⟨fun h => by have := hI.xs _ h; simp at this, hs, v.cells, T, alloc_heap_new _ _, by omega, ?_⟩
  exact M.dN (jl hI hold) hI.lay (fun i _ hlt => tU hI hold hlt) (fun j _ => by simp only [Nat.zero_add]; exact gR _ _ _ _ _) hr.2.2)
 refine ⟨h.1, h.2, dH rfl rfl ?_ h.1⟩
 simp only [M]
 refine ⟨by simp [Ctx.add], _, rfl, rfl, fun T0 xs hx => ?_, fun T0 b hx => ?_, fun _ _ _ hx => (by rw [bf.1] at hx; cases hx), fun _ _ hx => (by rw [bf.1] at hx; cases hx), fun _ _ _ _ _ hx => (by rw [bf.1] at hx; cases hx), fun _ _ _ _ hx => (by rw [bf.1] at hx; cases hx)⟩
 ·rw [bf.1] at hx; simp [fP] at hx
 ·rw [bf.1] at hx; rw [bf.2]; exact ⟨rfl, rfl⟩
mutual
theorem nQ {P : Program} : ∀ (a : AV) (T : TypeId), bk P a T → ck a = true
 | .lit v, T, h => by
  simp only [bk] at h
  simp only [ck]
  split at h <;> first
   | (obtain ⟨_, rfl⟩ := h; rfl)
   | (subst h; rfl)
   | exact h.elim
   | exact h
 | .ae _ _, _, _ => by simp [ck]
 | .agg l, T, h => by
  simp only [bk] at h
  obtain ⟨fs, _, h⟩ := h
  simp only [ck]; exact qD l _ h
 | .iz _ _, _, _ => by simp [ck]
 | .gO _ _, _, _ => by simp [ck]
 | .iq _ _ _ _, _, _ => by simp [ck]
 | .b7, _, h | .bj _, _, h | .aB _ _ _, _, h | .ptr _ _ _ _, _, h | .mp _, _, h | .ct _, _, h | .jk _ _, _, h | .bL _ _, _, h => by simp [bk] at h
theorem qD {P : Program} : ∀ (l : List AV) (fs : List Field), cW P l fs → du l = true
 | [], _, _ => by simp [du]
 | _ :: _, [], h => by simp [cW] at h
 | a :: l, f :: fs, h => by
  simp only [cW] at h
  simp only [du, aa1]
  exact ⟨nQ a _ h.1, qD l fs h.2⟩
end
theorem Stepped.mk' {C C' : Ctx} (hI : Inv C) {s : S} {act : Act} (hs : cQ C s act) {dst : Option Tmp} {r : Result Next} {K : S → Prop} {x : AV} {v : Value}
  (hr : r = .ok (.value v) C'.w ∨ (r = .ok .skip C'.w ∧ v = undef)) (hI' : Inv C') (he : Ext C.st.length C C') (hx : Rel C' x v) (hK : K (put { s with st := C'.st } dst x)) : Stepped C act dst r K :=
 ⟨v, C'.w, hr, C', _, rfl, he.keeps.P, hI', (hs.step hI he).put hx, he, hK⟩
theorem sm {P : Program} {w : World} (T : TypeId) (v : Value) : (newVar T v).run P w = .ok ⟨w.heap.size, 0, none⟩ (w.alloc (.cells v.cells T)) := by
 simp [newVar, newRow]
theorem yt {C : Ctx} (hI : Inv C) {s : S} {act : Act} (hs : cQ C s act) {dst : Option Tmp} {T : TypeId} {z : AV} {K : S → Prop} (hz : fG C.P T = some z)
  (hK : K (put { s with st := s.st ++ [.box T z] } dst (.ptr s.st.length 0 [] 0))) {o : Oper} (ho : o.op = .alloc T) : Stepped C act dst ((execOp act.eval o).run C.P C.w) K := by
 obtain ⟨i, zv, hi, hzv, hrz, hc, hpz⟩ := df hI hz
 obtain ⟨h1, h2, h3⟩ := Cb hI (T := T) hrz (nQ _ _ hpz)
 refine Stepped.mk' hI hs (v := .pointer (some ⟨C.w.heap.size, 0, none⟩)) (.inl ?_) h1 h2 h3 (by simpa [Ctx.add, hs.st] using hK)
 simp [execOp, ho, Instr.alloc, ig hi hzv, sm]; rfl
theorem EI {C : Ctx} (hI : Inv C) {s : S} {act : Act} (hs : cQ C s act) {dst : Option Tmp} {T : TypeId} {x : Operand} {K : S → Prop} (hsol : ck (ev s x) = true)
  (hK : K (put { s with st := s.st ++ [.box T (ev s x)] } dst (.ptr s.st.length 0 [] 0))) {o : Oper} (ho : o.op = .box T x) : Stepped C act dst ((execOp act.eval o).run C.P C.w) K := by
 obtain ⟨h1, h2, h3⟩ := Cb hI (T := T) (bc hs x) hsol
 refine Stepped.mk' hI hs (v := .pointer (some ⟨C.w.heap.size, 0, none⟩)) (.inl ?_) h1 h2 h3 (by simpa [Ctx.add, hs.st] using hK)
 simp [execOp, ho, Instr.box, sm]; rfl
theorem uo {C : Ctx} (hI : Inv C) {s : S} {act : Act} (hs : cQ C s act) {dst : Option Tmp} {T Kt Vt : TypeId} {K : S → Prop} (_hT : C.P.underlying T = some (.map Kt Vt))
  (hK : K (put { s with st := s.st ++ [.map Kt Vt []] } dst (.mp s.st.length))) {o : Oper} (ho : o.op = .makeMap T none) : Stepped C act dst ((execOp act.eval o).run C.P C.w) K := by
 have hold := bC C.w (.map #[] 0)
 have h := fD hI (o := .map Kt Vt []) (g := ⟨C.w.heap.size, 0, false⟩) (w := C.w.alloc (.map #[] 0)) rfl (by rw [cr]; omega) (gz _ _) hold (by
  refine ⟨fun h => by have := hI.xs _ h; simp at this, #[], 0, alloc_heap_new _ _, by simp [bR], ⟨by simp, by simp, by simp, by simp⟩⟩)
 refine Stepped.mk' hI hs (v := .map (some C.w.heap.size)) (x := .mp C.st.length) (.inl ?_) h.1 h.2 (dH rfl rfl ?_ h.1) (by simpa [Ctx.add, hs.st] using hK)
 ·simp [execOp, ho, Instr.makeMap]; rfl
 ·simp only [M]
  refine ⟨by simp [Ctx.add], _, rfl, rfl, fun K' V' es hx => ?_⟩
  rw [bf.2]
end Go.Dn
