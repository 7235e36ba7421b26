import Derived.Test.YtbppdpbagmbmpaaGreatDoorDnM
namespace Go.Dn
open Go
def Stepped (C : Ctx) (act : Act) (dst : Option Tmp) (r : Result Next) (K : S → Prop) : Prop :=
  ∃ v w', (r = .ok (.value v) w' ∨ (r = .ok .skip w' ∧ v = undef)) ∧ ∃ C' s', C'.w = w' ∧ C'.P = C.P ∧ Inv C' ∧ SRel C' s' (act.put dst v) ∧ Ext C.st.length C C' ∧ K s'
theorem oneV_cell (v : Value) : oneV v = v.oneCell' := by cases v <;> rfl
mutual
theorem M_solid {C : Ctx} : ∀ (a : AV) (s : Src) (o : Nat), solid a = true → M C a s o → ∀ j, j < wid a → ∃ v, s (o + j) = some v ∧ oneV v = true
  | .agg l, s, o, hs, h, j, hj => by
    simp only [solid] at hs; simp only [M] at h; simp only [wid] at hj
    exact ML_solid l s o hs h j hj
  | .junk, _, _, hs, _, _, _ | .tup _, _, _, hs, _, _, _ => by simp [solid] at hs
  | .lit v, s, o, hs, h, j, hj => by
    simp only [wid] at hj; obtain rfl : j = 0 := by omega
    exact M_leafV (a := .lit v) rfl hs h
  | .lst T l, s, o, hs, h, j, hj => by simp only [wid] at hj; obtain rfl : j = 0 := (by omega); exact M_leafV (a := .lst T l) rfl hs h
  | .slc i lo n, s, o, hs, h, j, hj => by simp only [wid] at hj; obtain rfl : j = 0 := (by omega); exact M_leafV (a := .slc i lo n) rfl hs h
  | .ptr i k p f, s, o, hs, h, j, hj => by simp only [wid] at hj; obtain rfl : j = 0 := (by omega); exact M_leafV (a := .ptr i k p f) rfl hs h
  | .pim T a, s, o, hs, h, j, hj => by simp only [wid] at hj; obtain rfl : j = 0 := (by omega); exact M_leafV (a := .pim T a) rfl hs h
  | .mp i, s, o, hs, h, j, hj => by simp only [wid] at hj; obtain rfl : j = 0 := (by omega); exact M_leafV (a := .mp i) rfl hs h
  | .yld i, s, o, hs, h, j, hj => by simp only [wid] at hj; obtain rfl : j = 0 := (by omega); exact M_leafV (a := .yld i) rfl hs h
  | .stp i k, s, o, hs, h, j, hj => by simp only [wid] at hj; obtain rfl : j = 0 := (by omega); exact M_leafV (a := .stp i k) rfl hs h
  | .clo f l, s, o, hs, h, j, hj => by simp only [wid] at hj; obtain rfl : j = 0 := (by omega); exact M_leafV (a := .clo f l) rfl hs h
  | .ifc T a, s, o, hs, h, j, hj => by simp only [wid] at hj; obtain rfl : j = 0 := (by omega); exact M_leafV (a := .ifc T a) rfl hs h
  | .fmp K V ks vs, s, o, hs, h, j, hj => by simp only [wid] at hj; obtain rfl : j = 0 := (by omega); exact M_leafV (a := .fmp K V ks vs) rfl hs h
theorem ML_solid {C : Ctx} : ∀ (l : List AV) (s : Src) (o : Nat), solidL l = true → ML C l s o → ∀ j, j < widL l → ∃ v, s (o + j) = some v ∧ oneV v = true
  | [], _, _, _, _, j, hj => by simp [widL] at hj
  | a :: l, s, o, hs, h, j, hj => by
    simp only [solidL, Bool.and_eq_true] at hs
    simp only [ML] at h
    simp only [widL] at hj
    rcases Nat.lt_or_ge j (wid a) with hlt | hge
    · exact M_solid a s o hs.1 h.1 j hlt
    · obtain ⟨v, h1, h2⟩ := ML_solid l s (o + wid a) hs.2 h.2 (j - wid a) (by omega)
      exact ⟨v, by rw [← h1]; congr 1; omega, h2⟩
end
theorem cells_one' {C : Ctx} {a : AV} {v : Value} (hs : solid a = true) (hr : Rel C a v) : ∀ u, u ∈ v.cells.toList → u.oneCell' = true := by
  intro u hu
  obtain ⟨j, hj, rfl⟩ := List.getElem_of_mem hu
  have hnj : a ≠ .junk := by intro e; subst e; simp [solid] at hs
  have hsz := hr.2.1.resolve_right hnj
  simp only [Array.length_toList] at hj
  obtain ⟨w, h1, h2⟩ := M_solid a _ 0 hs hr.2.2 j (by omega)
  simp only [Nat.zero_add] at h1
  have : v.cells[j] = w := by
    rw [Array.getElem?_eq_getElem hj] at h1
    exact Option.some.inj h1
  simp only [Array.getElem_toList]
  rw [this, ← oneV_cell]; exact h2
theorem alloc_heap_old (w : World) (o : Go.Obj) (b : Nat) (h : b < w.heap.size) : (w.alloc o).heap[b]? = w.heap[b]? := by
  show (w.heap.push o)[b]? = _
  rw [Array.getElem?_push, if_neg (by omega)]
theorem alloc_heap_new (w : World) (o : Go.Obj) : (w.alloc o).heap[w.heap.size]? = some o := by
  show (w.heap.push o)[w.heap.size]? = _
  simp
theorem alloc_size (w : World) (o : Go.Obj) : (w.alloc o).heap.size = w.heap.size + 1 := by
  show (w.heap.push o).size = _
  simp
theorem alloc_os (w : World) (o : Go.Obj) : SameOs w (w.alloc o) := ⟨rfl, rfl, rfl⟩
theorem add_keeps {C : Ctx} (hI : Inv C) {o : Obj} {g : G} {w : World} (hold : ∀ b, b < C.w.heap.size → w.heap[b]? = C.w.heap[b]?) : Keeps C (C.add o g w) :=
  ⟨rfl, fun _ h => h, fun b hb => hold b (hI.xs b hb)⟩
theorem add_refs {C : Ctx} (hI : Inv C) {o : Obj} {g : G} {w : World} (hold : ∀ b, b < C.w.heap.size → w.heap[b]? = C.w.heap[b]?) {i : Nat} (hi : i < C.st.length) : RefOK C (C.add o g w) i i :=
  refs_same hI hi (by simp [Ctx.add]; omega) (add_old hi).1 (add_old hi).2 (fun h b hb => ⟨rfl, rfl, hold _ (hI.own_lt ⟨i, hi, h, hb.symm⟩).1⟩)
theorem cellAt_new (w : World) (cs : Array Value) (T : TypeId) (fz : Nat × Nat) (j : Nat) : cellAt (w.alloc (.cells cs T fz)) w.heap.size j = cs[j]? := by
  simp only [cellAt, World.cell?, alloc_heap_new]; simp
theorem box_new {C : Ctx} (hI : Inv C) {T : TypeId} {a : AV} {v : Value} (hr : Rel C a v) (hs : solid a = true) :
    Inv (C.add (.box T a) ⟨C.w.heap.size, 0, false⟩ (C.w.alloc (.cells v.cells T))) ∧ Ext C.st.length C (C.add (.box T a) ⟨C.w.heap.size, 0, false⟩ (C.w.alloc (.cells v.cells T))) ∧
    Rel (C.add (.box T a) ⟨C.w.heap.size, 0, false⟩ (C.w.alloc (.cells v.cells T))) (.ptr C.st.length 0 [] 0) (.pointer (some ⟨C.w.heap.size, 0, none⟩)) := by
  have hnj : a ≠ .junk := by intro e; subst e; simp [solid] at hs
  have hold := alloc_heap_old C.w (.cells v.cells T)
  have hsz := hr.2.1.resolve_right hnj
  have h := add_ctx hI (o := .box T a) (g := ⟨C.w.heap.size, 0, false⟩) (w := C.w.alloc (.cells v.cells T)) rfl (by rw [alloc_size]; omega) (alloc_os _ _) hold (by
    refine ⟨fun h => by have := hI.xs _ h; simp at this, hs, v.cells, T, alloc_heap_new _ _, ⟨by omega, by omega, rfl⟩, ?_⟩
    exact M.keep (add_keeps hI hold) hI.lay (fun i _ hlt => add_refs hI hold hlt) (fun j _ => by simp only [Nat.zero_add]; exact cellAt_new _ _ _ _ _) hr.2.2)
  refine ⟨h.1, h.2, rel_mk rfl rfl ?_ h.1⟩
  simp only [M]
  refine ⟨by simp [Ctx.add], _, rfl, rfl, fun T0 xs hx => ?_, fun T0 b hx => ?_, fun _ _ _ hx => (by rw [add_new.1] at hx; cases hx), fun _ _ hx => (by rw [add_new.1] at hx; cases hx), fun _ _ _ _ _ hx => (by rw [add_new.1] at hx; cases hx), fun _ _ _ _ hx => (by rw [add_new.1] at hx; cases hx)⟩
  · rw [add_new.1] at hx; simp [elT] at hx
  · rw [add_new.1] at hx; rw [add_new.2]; exact ⟨rfl, rfl⟩
mutual
theorem ptyp_solid {P : Program} : ∀ (a : AV) (T : TypeId), ptyp P a T → solid a = true
  | .lit v, T, h => by
    simp only [ptyp] at h
    simp only [solid]
    split at h <;> first
      | (obtain ⟨_, rfl⟩ := h; rfl)
      | (subst h; rfl)
      | exact h.elim
      | exact h
  | .lst _ _, _, _ => by simp [solid]
  | .agg l, T, h => by
    simp only [ptyp] at h
    obtain ⟨fs, _, h⟩ := h
    simp only [solid]; exact ptypF_solid l _ h
  | .pim _ _, _, _ => by simp [solid]
  | .ifc _ _, _, _ => by simp [solid]
  | .fmp _ _ _ _, _, _ => by simp [solid]
  | .junk, _, h | .tup _, _, h | .slc _ _ _, _, h | .ptr _ _ _ _, _, h | .mp _, _, h | .yld _, _, h | .stp _ _, _, h | .clo _ _, _, h => by simp [ptyp] at h
theorem ptypF_solid {P : Program} : ∀ (l : List AV) (fs : List Field), ptypF P l fs → solidL l = true
  | [], _, _ => by simp [solidL]
  | _ :: _, [], h => by simp [ptypF] at h
  | a :: l, f :: fs, h => by
    simp only [ptypF] at h
    simp only [solidL, Bool.and_eq_true]
    exact ⟨ptyp_solid a _ h.1, ptypF_solid l fs h.2⟩
end
theorem Stepped.mk' {C C' : Ctx} (hI : Inv C) {s : S} {act : Act} (hs : SRel C s act) {dst : Option Tmp} {r : Result Next} {K : S → Prop} {x : AV} {v : Value}
    (hr : r = .ok (.value v) C'.w ∨ (r = .ok .skip C'.w ∧ v = undef)) (hI' : Inv C') (he : Ext C.st.length C C') (hx : Rel C' x v) (hK : K (put { s with st := C'.st } dst x)) : Stepped C act dst r K :=
  ⟨v, C'.w, hr, C', _, rfl, he.keeps.P, hI', (hs.step hI he).put hx, he, hK⟩
theorem run_newVar {P : Program} {w : World} (T : TypeId) (v : Value) : (newVar T v).run P w = .ok ⟨w.heap.size, 0, none⟩ (w.alloc (.cells v.cells T)) := by
  simp [newVar, newRow]
theorem alloc_sound {C : Ctx} (hI : Inv C) {s : S} {act : Act} (hs : SRel C s act) {dst : Option Tmp} {T : TypeId} {z : AV} {K : S → Prop} (hz : zeroA C.P T = some z)
    (hK : K (put { s with st := s.st ++ [.box T z] } dst (.ptr s.st.length 0 [] 0))) {o : Oper} (ho : o.op = .alloc T) : Stepped C act dst ((execOp act.eval o).run C.P C.w) K := by
  obtain ⟨i, zv, hi, hzv, hrz, hc, hpz⟩ := zero_sound hI hz
  obtain ⟨h1, h2, h3⟩ := box_new hI (T := T) hrz (ptyp_solid _ _ hpz)
  refine Stepped.mk' hI hs (v := .pointer (some ⟨C.w.heap.size, 0, none⟩)) (.inl ?_) h1 h2 h3 (by simpa [Ctx.add, hs.st] using hK)
  simp [execOp, ho, Instr.alloc, run_zero hi hzv, run_newVar]; rfl
theorem box_sound {C : Ctx} (hI : Inv C) {s : S} {act : Act} (hs : SRel C s act) {dst : Option Tmp} {T : TypeId} {x : Operand} {K : S → Prop} (hsol : solid (ev s x) = true)
    (hK : K (put { s with st := s.st ++ [.box T (ev s x)] } dst (.ptr s.st.length 0 [] 0))) {o : Oper} (ho : o.op = .box T x) : Stepped C act dst ((execOp act.eval o).run C.P C.w) K := by
  obtain ⟨h1, h2, h3⟩ := box_new hI (T := T) (rel_ev hs x) hsol
  refine Stepped.mk' hI hs (v := .pointer (some ⟨C.w.heap.size, 0, none⟩)) (.inl ?_) h1 h2 h3 (by simpa [Ctx.add, hs.st] using hK)
  simp [execOp, ho, Instr.box, run_newVar]; rfl
theorem xgrow0 {A : Ctx} (hI : Inv A) {X : Nat → Prop} (h1 : ∀ b, Own A b → ¬ X b) (h2 : ∀ b, A.cls b ≠ b → ¬ X b) (h3 : ∀ b, X b → b < A.w.heap.size) :
    Inv { A with X := fun b => A.X b ∨ X b } ∧ Keeps A { A with X := fun b => A.X b ∨ X b } ∧ (∀ i, i < A.st.length → RefOK A { A with X := fun b => A.X b ∨ X b } i i) := by
  have hk : Keeps A { A with X := fun b => A.X b ∨ X b } := ⟨rfl, fun _ h => .inl h, fun _ _ => rfl⟩
  have hrefs : ∀ i, i < A.st.length → RefOK A { A with X := fun b => A.X b ∨ X b } i i := fun i hi => refs_same hI hi hi rfl rfl (fun _ _ _ => ⟨rfl, rfl, rfl⟩)
  refine ⟨⟨hI.lay, fun j hj => ?_, hI.dis, fun b hb => hb.elim (hI.xs b) (h3 b), hI.cown, fun b hb => ⟨(hI.clt b hb).1, fun hx => hx.elim (hI.clt b hb).2.1 (h2 b hb), (hI.clt b hb).2.2⟩, hI.kept' hk⟩, hk, hrefs⟩
  exact (hI.obj j hj).keep hk hI.lay (fun j hj _ => hrefs j hj) (hI.cown j hj) ⟨fun b ho hb => ⟨fun hx => hx.elim (hI.own_lt ⟨j, hj, ho, hb.symm⟩).2 (h1 b ⟨j, hj, ho, hb.symm⟩), rfl⟩, fun _ _ => ⟨Iff.rfl, fun _ => rfl⟩, SameOs.refl _, Nat.le_refl _, fun _ _ => rfl⟩
theorem imm_sound {C : Ctx} (hI : Inv C) {s : S} {act : Act} (hs : SRel C s act) {dst : Option Tmp} {T : TypeId} {x : Operand} {K : S → Prop} (hc : chk C.P (ev s x) T = true)
    (hK : K (put { s with st := s.st ++ [.dead] } dst (.pim T (ev s x)))) {o : Oper} (ho : o.op = .box T x) : Stepped C act dst ((execOp act.eval o).run C.P C.w) K := by
  have hr := rel_ev hs x
  generalize ev s x = a at hc hK hr
  generalize hv : act.eval x = v at hr
  have hp := chk_ptyp a T _ _ hc hr.2.2
  have hold := alloc_heap_old C.w (.cells v.cells T)
  obtain ⟨h1, h2⟩ := add_ctx hI (o := .dead) (g := ⟨C.w.heap.size, 0, false⟩) (w := C.w.alloc (.cells v.cells T)) rfl (by rw [alloc_size]; omega) (alloc_os _ _) hold trivial
  have hfr : C.cls C.w.heap.size = C.w.heap.size := hI.fresh (Nat.le_refl _)
  obtain ⟨x1, x2, x3⟩ := xgrow0 h1 (X := fun b => b = C.w.heap.size) (by
    rintro b ⟨i, hi, ho, hb⟩ rfl
    by_cases hi' : i < C.st.length
    · rw [(add_old hi').1, (add_old hi').2] at ho
      rw [(add_old hi').2] at hb
      have := ((hI.obj i hi').lt ho).1
      rw [hb] at this
      rw [show (C.add .dead ⟨C.w.heap.size, 0, false⟩ (C.w.alloc (.cells v.cells T))).cls C.w.heap.size = C.cls C.w.heap.size from rfl, hfr] at this
      omega
    · have : i = C.st.length := by simp [Ctx.add] at hi; omega
      subst this
      rw [add_new.1] at ho
      simp [ownd] at ho) (by rintro b hb rfl; exact hb hfr) (by rintro b rfl; show _ < (C.w.alloc _).heap.size; rw [alloc_size]; omega)
  have hE : Ext C.st.length C { C.add .dead ⟨C.w.heap.size, 0, false⟩ (C.w.alloc (.cells v.cells T)) with X := fun b => C.X b ∨ b = C.w.heap.size } :=
    ⟨h2.keeps.trans x2, h2.size, h2.os, h2.tape, h2.output, h2.frame, fun b hb => hb.elim (h2.newX b) (fun e => .inr (.inr (by omega))), h2.newOwn, fun i hi => (h2.refs i hi).trans (x3 i (h2.refs i hi).lt), h2.cls, h2.phi⟩
  refine Stepped.mk' hI hs (v := .pointer (some ⟨C.w.heap.size, 0, none⟩)) (x := .pim T a) (.inl ?_) x1 hE (rel_mk rfl rfl ?_ x1) (by simpa [Ctx.add, hs.st] using hK)
  · simp [execOp, ho, Instr.box, run_newVar, hv]; rfl
  · simp only [M]
    refine ⟨C.w.heap.size, 0, rfl, .inr rfl, hp, M_pure hE.keeps hI.lay a T _ _ 0 0 hp (fun j _ => ?_) hr.2.2⟩
    simp only [Nat.zero_add]; exact cellAt_new _ _ _ _ _
theorem makeMap_sound {C : Ctx} (hI : Inv C) {s : S} {act : Act} (hs : SRel C s act) {dst : Option Tmp} {T Kt Vt : TypeId} {K : S → Prop} (_hT : C.P.underlying T = some (.map Kt Vt))
    (hK : K (put { s with st := s.st ++ [.map Kt Vt []] } dst (.mp s.st.length))) {o : Oper} (ho : o.op = .makeMap T none) : Stepped C act dst ((execOp act.eval o).run C.P C.w) K := by
  have hold := alloc_heap_old C.w (.map #[] 0)
  have h := add_ctx hI (o := .map Kt Vt []) (g := ⟨C.w.heap.size, 0, false⟩) (w := C.w.alloc (.map #[] 0)) rfl (by rw [alloc_size]; omega) (alloc_os _ _) hold (by
    refine ⟨fun h => by have := hI.xs _ h; simp at this, #[], 0, alloc_heap_new _ _, by simp [EntOK], ⟨by simp, by simp, by simp, by simp⟩⟩)
  refine Stepped.mk' hI hs (v := .map (some C.w.heap.size)) (x := .mp C.st.length) (.inl ?_) h.1 h.2 (rel_mk rfl rfl ?_ h.1) (by simpa [Ctx.add, hs.st] using hK)
  · simp [execOp, ho, Instr.makeMap]; rfl
  · simp only [M]
    refine ⟨by simp [Ctx.add], _, rfl, rfl, fun K' V' es hx => ?_⟩
    rw [add_new.2]
end Go.Dn
