import Derived.Test.YtbppdpbagmbmpaaGreatDoorDxGE
namespace Go.Proofs.YtbppdpbagmbmpaaGreatDoor
open Go Go.Dn Go.Proofs Go.RowKit Go.Extern.Stop Go.Stop Go.Extern
theorem noAsJ (v : Value) (xT : TypeId) (w : World) : (Instr.typeAssert (.iface 60 v) xT 99 true).run Tryz.prog w = .ok (.tuple #[.nilIface, .bool false]) w := run_typeAssert_lacksB Tryz.underlying99 (by kernel_rfl) (by kernel_rfl) v xT w
theorem noUnwrapJ (v : Value) (xT : TypeId) (w : World) : (Instr.typeAssert (.iface 60 v) xT 102 true).run Tryz.prog w = .ok (.tuple #[.nilIface, .bool false]) w := run_typeAssert_lacksB Tryz.underlying102 (by kernel_rfl) (by kernel_rfl) v xT w
theorem hasUnwrapsJ (v : Value) (xT : TypeId) (w : World) : (Instr.typeAssert (.iface 60 v) xT 104 true).run Tryz.prog w = .ok (.tuple #[.iface 60 v, .bool true]) w := run_typeAssert_hasB Tryz.underlying104 (by kernel_rfl) v xT w
theorem methodUnwrapJ (v : Value) (w : World) : (Go.method 316 60 v "Unwrap").run Tryz.prog w = .ok (147, v) w := by kernel_rfl
abbrev asW1 (a : Addr) (w : World) : World := w.alloc (.cells #[.pointer (some ⟨13, 47, none⟩), .pointer (some a), .int .u64 150] 66)
abbrev asW2 (a t e : Addr) (w : World) : World := ((asW1 a w).alloc (.cells #[.pointer (some e)] 42)).setCell t (.pointer (some e))
set_option maxHeartbeats 4000000 in
set_option maxRecDepth 100000 in
theorem as_join (ja ra a t e : Addr) (cap : Nat) (T1 old : Value) (w : World) (ha : w.cell? a = some (.pointer (some t))) (ht0 : w.cell? t = some old) (hf0 : w.frozen? t = false)
    (h1 : w.cell? ja = some (.slice (some ra) 1 cap)) (h2 : w.cell? ra = some (.iface 42 (.pointer (some e)))) :
    Calls Tryz.prog 35 #[.iface 60 (.pointer (some ja)), T1, valT a, typW] w fun ev w' => ev = .returned (.bool true) ∧ w' = asW2 a t e (asW1 a w) := by
  have h10 := @run_callFunc_extern Tryz.prog 64 _ ReflectliteType.typeOf Tryz.func64 (by kernel_rfl) (by kernel_rfl) (by kernel_rfl) (by kernel_rfl)
  have h35 := @run_callFunc_extern Tryz.prog 152 _ (ReflectliteType.relation "AssignableTo" ReflectliteType.assignableTo) Tryz.func152 (by kernel_rfl) (by kernel_rfl) (by kernel_rfl) (by kernel_rfl)
  have tO := asTypeOfJ
  have mA := asMethodAssign
  have a25 := asAssignJ
  have n1 := noAsJ
  have n2 := noUnwrapJ
  have n3 := hasUnwrapsJ
  have mU := methodUnwrapJ
  have lt : ∀ x : Addr, ∀ v, w.cell? x = some v → x.block < w.heap.size := fun x v hx => by
    rcases Nat.lt_or_ge x.block w.heap.size with h | h
    · exact h
    · simp [World.cell?, Array.getElem?_eq_none h] at hx
  have ha' : (asW1 a w).cell? a = some (.pointer (some t)) := by rw [World.cell?_alloc_lt _ _ a (lt _ _ ha)]; exact ha
  have ht' : (asW1 a w).cell? t = some old := by rw [World.cell?_alloc_lt _ _ t (lt _ _ ht0)]; exact ht0
  have hf' : (asW1 a w).frozen? t = false := by rw [World.frozen?_alloc_old _ _ t (Nat.ne_of_lt (lt _ _ ht0))]; exact hf0
  have hj' : (asW1 a w).cell? ja = some (.slice (some ra) 1 cap) := by rw [World.cell?_alloc_lt _ _ ja (lt _ _ h1)]; exact h1
  have hr' : (asW1 a w).cell? ra = some (.iface 42 (.pointer (some e))) := by rw [World.cell?_alloc_lt _ _ ra (lt _ _ h2)]; exact h2
  go_enter Tryz.func35, Tryz.ntmps35
  go_wp2
  refine wp_loop_rounds 1 ?_
  rw [rounds_succ]
  go_wp2
  refine wp_loop_rounds 1 ?_
  rw [rounds_succ]
  go_wp2_with (first | (go_at_call 35; refine (as_in a t e _ old _ ha' ht' hf').mono ?_; rintro e w' ⟨rfl, rfl⟩))
  all_goals (go_ret; exact ⟨rfl, rfl⟩)
end Go.Proofs.YtbppdpbagmbmpaaGreatDoor
namespace Go.Proofs.YtbppdpbagmbmpaaGreatDoor
open Go Go.Dn Go.Proofs Go.RowKit Go.Extern.Stop Go.Stop Go.Extern
abbrev asW0 (t : Addr) (w : World) : World := asW1 ⟨w.heap.size, 0, none⟩ (w.alloc (.cells #[.pointer (some t)] 47))
set_option maxHeartbeats 4000000 in
set_option maxRecDepth 100000 in
theorem as_As (ja ra t e : Addr) (cap : Nat) (old : Value) (w : World) (hg : w.cell? ⟨0, 0, none⟩ = some (.iface 94 (.agg #[.pointer (some ⟨13, 35, none⟩)]))) (ht0 : w.cell? t = some old) (hf0 : w.frozen? t = false)
    (h1 : w.cell? ja = some (.slice (some ra) 1 cap)) (h2 : w.cell? ra = some (.iface 42 (.pointer (some e)))) :
    Calls Tryz.prog 20 #[.iface 60 (.pointer (some ja)), .iface 47 (.pointer (some t))] w fun ev w' => ev = .returned (.bool true) ∧
      w' = asW2 ⟨w.heap.size, 0, none⟩ t e (asW1 ⟨w.heap.size, 0, none⟩ (asW0 t w)) := by
  have h6 := @run_callFunc_extern Tryz.prog 32 _ (fun args => ReflectliteValue.unpack (args.getD 0 (.tuple #[]))) Tryz.func32 (by kernel_rfl) (by kernel_rfl) (by kernel_rfl) (by kernel_rfl)
  have h7 := @run_callFunc_extern Tryz.prog 33 _ (ReflectliteValue.methodAny (ReflectliteValue.valueError "reflectlite.Value.Type" 0) (fun t _ _ _ => ReflectliteType.toType t)) Tryz.func33 (by kernel_rfl) (by kernel_rfl) (by kernel_rfl) (by kernel_rfl)
  have h8 := @run_callFunc_extern Tryz.prog 34 _ (ReflectliteValue.method (ReflectliteValue.valueError "reflectlite.Value.IsNil" 0) ReflectliteValue.isNil) Tryz.func34 (by kernel_rfl) (by kernel_rfl) (by kernel_rfl) (by kernel_rfl)
  have h27 := @run_callFunc_extern Tryz.prog 142 _ (ReflectliteType.abiMethod fun t => do pure (.int .u8 (← Rtype.kind t))) Tryz.func142 (by kernel_rfl) (by kernel_rfl) (by kernel_rfl) (by kernel_rfl)
  have h37 := @run_callFunc_extern Tryz.prog 154 _ (ReflectliteType.method ReflectliteType.elem) Tryz.func154 (by kernel_rfl) (by kernel_rfl) (by kernel_rfl) (by kernel_rfl)
  have h38 := @run_callFunc_extern Tryz.prog 155 _ (ReflectliteType.relation "Implements" ReflectliteType.implements_) Tryz.func155 (by kernel_rfl) (by kernel_rfl) (by kernel_rfl) (by kernel_rfl)
  have f6 := asValueOfT
  have f7 := asTypeT
  have mK := asMethodKind
  have mE := asMethodElem
  have mI := asMethodImpl
  have k27 := asKindT
  have k25 := asKindW
  have e27 := asElemT
  have i25 := asImplW
  have lt : ∀ x : Addr, ∀ v, w.cell? x = some v → x.block < w.heap.size := fun x v hx => by
    rcases Nat.lt_or_ge x.block w.heap.size with h | h
    · exact h
    · simp [World.cell?, Array.getElem?_eq_none h] at hx
  have old2 : ∀ x : Addr, ∀ v, w.cell? x = some v → (asW0 t w).cell? x = some v := fun x v hx => by
    rw [World.cell?_alloc_lt _ _ x (by have := lt x v hx; simp; omega), World.cell?_alloc_lt _ _ x (lt x v hx)]; exact hx
  have n8 := asIsNilT ⟨w.heap.size, 0, none⟩ t (asW0 t w) (by rw [World.cell?_alloc_lt _ _ _ (by simp), World.cell?_alloc_at _ _ _ _ (by simp)]; rfl)
  have hg2 := old2 _ _ hg
  have hf' : (asW0 t w).frozen? t = false := by rw [World.frozen?_alloc_old _ _ t (by have := lt t _ ht0; simp; omega), World.frozen?_alloc_old _ _ t (Nat.ne_of_lt (lt _ _ ht0))]; exact hf0
  have ha' : (asW0 t w).cell? ⟨w.heap.size, 0, none⟩ = some (.pointer (some t)) := by rw [World.cell?_alloc_lt _ _ _ (by simp), World.cell?_alloc_at _ _ _ _ (by simp)]; rfl
  go_enter Tryz.func20, Tryz.ntmps20
  go_wp2_with (first | (go_at_call 35; refine (as_join ja ra ⟨w.heap.size, 0, none⟩ t e cap _ old _ ha' (old2 _ _ ht0) hf' (old2 _ _ h1) (old2 _ _ h2)).mono ?_; rintro e w' ⟨rfl, rfl⟩))
  all_goals (go_ret; exact ⟨rfl, rfl⟩)
end Go.Proofs.YtbppdpbagmbmpaaGreatDoor
namespace Go.Proofs.YtbppdpbagmbmpaaGreatDoor
open Go Go.Dn Go.Proofs
attribute [local irreducible] funA vc
set_option maxRecDepth 20000
def EB.unroll (b : EB) (N f k n : Nat) : EB := ⟨b.E.addLoop f k (unrollSp b.E N f k n), b.ok.addLoop b.mono (unroll_ok b.mono n), b.mono.addLoop (unroll_mono b.mono n)⟩
noncomputable def BJ1 (κ : Kp) : EB := EB.unroll (BSp κ) 12 19 3 3
noncomputable def BJ2 (κ : Kp) : EB := EB.unroll (BJ1 κ) 12 19 12 3
abbrev wrA (a c : Int) : AV := .ifc 42 (.pim 44 (.agg [.int a, .int c]))
abbrev jnA : AV := .ifc 60 (.ptr 0 0 [] 0)
abbrev jnS (a c : Int) : List Dn.Obj := [.box 62 (.agg [.slc 1 0 1]), .row 35 [wrA a c]]
theorem yJn (κ : Kp) (a c : Int) (K : AV → List Dn.Obj → Prop) : (funA (BJ2 κ).E 12 19 [.lst 35 [wrA a c]] [] K) = (
  loopCode (Pg.toProgram (Env.P (EB.E (BSp κ)))) 19 3 = loopCode (Pg.toProgram (Env.P (EB.E (BSp κ)))) 19 3 ∧ loopCode (Pg.toProgram (Env.P (EB.E (BJ1 κ)))) 19 12
  = loopCode (Pg.toProgram (Env.P (EB.E (BJ1 κ)))) 19 12 ∧ K (AV.ifc 60 (AV.ptr 0 0 [] 0)) [Obj.box 62 (AV.agg [AV.slc 1 0 1]), Obj.row 35 [AV.ifc 42 (AV.pim 44
  (AV.agg [AV.int a, AV.int c]))]]) := by kernel_rfl
theorem cJn (κ : Kp) : CallOk (BJ2 κ).E 12 19 (callE (fun x : Int × Int => ([.lst 35 [wrA x.1 x.2]], [])) (fun _ => True) (fun x => .one (jnA, jnS x.1 x.2))) := by
  refine callE_ok ?_
  rintro ⟨a, c⟩ K _ ho
  exact Eq.mpr (yJn κ a c K) ⟨rfl, rfl, ho⟩
noncomputable def BJn (κ : Kp) : EB := (BJ2 κ).call (cJn κ)
theorem grows_alloc (w : World) (o : Go.Obj) : Grows w (w.alloc o) := ⟨by rw [alloc_size]; omega, rfl, rfl, rfl, fun b hb => alloc_heap_old w o b hb⟩
abbrev tgA (i : Nat) : AV := .ifc 47 (.ptr i 0 [] 0)
theorem ifc_inv {C : Ctx} {T : TypeId} {i k off : Nat} {p : List Nat} {v : Value} (h : Rel C (.ifc T (.ptr i k p off)) v) : ∃ u, v = .iface T u ∧ i < C.st.length ∧ PtrOK C i k off u := by
  obtain ⟨c1, _⟩ := rel_cell h rfl (by simp)
  have a3 := h.2.2
  simp only [M, c1] at a3
  obtain ⟨u, u1, u2, u3, u4, v', v1', v2', v3⟩ := a3
  have hv1 : v = .iface T u := by simpa using u1
  have hu : u.cells = #[u] := cells_one (by rw [u2]; rfl)
  have huv : v' = u := by rw [hu] at v1'; simpa using v1'.symm
  exact ⟨u, hv1, u4, huv ▸ v3⟩
theorem simAs (κ : Kp) : ∀ args st K, selC sel1 (callE (fun _ : Unit => ([.lit .nilIface, tgA 0], [.box 42 (.lit (.pointer none))])) (fun _ => True) (fun _ => .one (.bool false, [.box 42 (.lit (.pointer none))])))
    (callE (fun x : Int × Int => ([jnA, tgA 2], jnS x.1 x.2 ++ [.box 42 (.lit (.pointer none))])) (fun _ => True) (fun x => .one (.bool true, jnS x.1 x.2 ++ [.box 42 (.pim 44 (.agg [.int x.1, .int x.2]))]))) args st K → SimCall (BJn κ).E.P 20 args st K := by
  rintro args st K h
  unfold selC at h
  cases hs : sel1 st with
  | true =>
    rw [hs, cond_true] at h
    obtain ⟨_, ha, _, hK⟩ := h
    obtain ⟨rfl, rfl⟩ := Prod.mk.inj ha
    have hK : K (.bool false) [.box 42 (.lit (.pointer none))] := hK
    refine ⟨⟨_, Tryz.func20, rfl⟩, fun C vs hC hI hst hm => ?_⟩
    obtain ⟨vs⟩ := vs
    match vs, hm with
    | [v1, v2], hm =>
      simp only [MT] at hm
      obtain ⟨a1, a2, a3, b1, b2, b3, _⟩ := hm
      have hv1 : v1 = .nilIface := rel_lit_inv (C := C) ⟨a1, a2, a3⟩
      subst hv1
      refine (callsIn_wide.2 (as_nil v2 C.w)).mono ?_
      rintro e' w' ⟨rfl, rfl⟩
      exact ⟨_, .bool false, C, rfl, rfl, rfl, hI, rel_lit rfl, Ext.refl _ (by rw [hst]; exact Nat.le_refl _), by rw [hst]; exact hK⟩
    | [], hm => simp [MT] at hm
    | [_], hm => simp [MT] at hm
    | _ :: _ :: _ :: _, hm => simp [MT] at hm
  | false =>
    rw [hs, cond_false] at h
    obtain ⟨⟨a, c⟩, ha, _, hK⟩ := h
    obtain ⟨rfl, rfl⟩ := Prod.mk.inj ha
    have hK : K (.bool true) (jnS a c ++ [.box 42 (.pim 44 (.agg [.int a, .int c]))]) := hK
    refine ⟨⟨_, Tryz.func20, rfl⟩, fun C vs hC hI hst hm => ?_⟩
    obtain ⟨vs⟩ := vs
    match vs, hm with
    | [v1, v2], hm =>
      simp only [MT] at hm
      obtain ⟨a1, a2, a3, b1, b2, b3, _⟩ := hm
      obtain ⟨u, rfl, _, hu⟩ := ifc_inv (C := C) (v := v1) ⟨a1, a2, a3⟩
      obtain ⟨u2, rfl, hi2, hu2⟩ := ifc_inv (C := C) (v := v2) ⟨b1, b2, b3⟩
      have n0 : nthO C.st 0 = .box 62 (.agg [.slc 1 0 1]) := by rw [hst]; rfl
      have n1 : nthO C.st 1 = .row 35 [wrA a c] := by rw [hst]; rfl
      have n2 : nthO C.st 2 = .box 42 (.lit (.pointer none)) := by rw [hst]; rfl
      obtain ⟨_, rfl⟩ := hu.2.1 _ _ n0
      obtain ⟨_, rfl⟩ := hu2.2.1 _ _ n2
      have o0 := hI.obj 0 (by rw [hst]; simp)
      have o1 := hI.obj 1 (by rw [hst]; simp)
      have o2 := hI.obj 2 hi2
      rw [n0] at o0
      rw [n1] at o1
      rw [n2] at o2
      obtain ⟨_, _, c0, e0, g1, _, g2⟩ := o0
      simp only [M, ML] at g2
      obtain ⟨⟨_, s, s1, _, s2⟩, _⟩ := g2
      obtain ⟨_, s3⟩ := s2.1 35 [wrA a c] (by rw [n1]; rfl)
      rcases s3 with ⟨_, _, _, s3⟩ | ⟨m1, cap, q, rfl, s3, s4, _⟩
      · cases s3
      have hq : q = ⟨(C.ι 1).block, 0, none⟩ := by
        rcases s3 with s3 | ⟨s3, s5⟩
        · rw [s3, Nat.zero_mul]
        · omega
      subst hq
      obtain ⟨_, o1⟩ := o1
      rcases o1 with ⟨o1, _⟩ | ⟨_, _, c', k1, _, _, _, k2⟩
      · rw [m1] at o1; cases o1
      simp only [MR] at k2
      obtain ⟨k2, _⟩ := k2
      rw [show wrA a c = .ifc 42 (.pim 44 (.agg [.int a, .int c])) from rfl] at k2
      simp only [M] at k2
      obtain ⟨y, y1, y2, y3, b, off, y4, y5, y6, y7⟩ := k2
      have hy : y.cells = #[y] := cells_one (by rw [y2]; rfl)
      have hyv : y = .pointer (some ⟨b, off, none⟩) := by rw [hy] at y4; simpa using y4
      subst hyv
      obtain ⟨p1, p2, c2, e2, p3, ⟨p4, p5, rfl⟩, p6⟩ := o2
      have p5 : c2.size = 1 := p5
      simp only [M] at p6
      have hg : C.w.cell? ⟨0, 0, none⟩ = some (.iface 94 (.agg #[.pointer (some ⟨13, 35, none⟩)])) := cell_kept hC hI (T := κ.T6) (z := κ.z6) rfl
      have hf : C.w.frozen? ⟨(C.ι 2).block, 0, none⟩ = false := by simp [World.frozen?, p3]
      refine (callsIn_wide.2 (as_As ⟨(C.ι 0).block, 0, none⟩ ⟨(C.ι 1).block, 0, none⟩ ⟨(C.ι 2).block, 0, none⟩ ⟨b, off, none⟩ cap _ C.w hg p6.1 hf s1 y1)).mono ?_
      rintro e' w' ⟨rfl, rfl⟩
      have hgr : Grows C.w ((asW1 ⟨C.w.heap.size, 0, none⟩ (asW1 ⟨C.w.heap.size, 0, none⟩ (asW0 ⟨(C.ι 2).block, 0, none⟩ C.w))).alloc (.cells #[.pointer (some ⟨b, off, none⟩)] 42)) :=
        (grows_alloc _ _).trans ((grows_alloc _ _).trans ((grows_alloc _ _).trans ((grows_alloc _ _).trans (grows_alloc _ _))))
      show ∃ _, _
      unfold asW2
      generalize hw1 : ((asW1 ⟨C.w.heap.size, 0, none⟩ (asW1 ⟨C.w.heap.size, 0, none⟩ (asW0 ⟨(C.ι 2).block, 0, none⟩ C.w))).alloc (.cells #[.pointer (some ⟨b, off, none⟩)] 42)) = w1 at hgr
      have hbl : (C.ι 2).block < C.w.heap.size := (Array.getElem?_eq_some_iff.1 p3).1
      have p3' : w1.heap[(C.ι 2).block]? = some (.cells c2 42 (0, 0)) := (hgr.heap _ hbl).trans p3
      have hh : (w1.setCell ⟨(C.ι 2).block, 0, none⟩ (.pointer (some ⟨b, off, none⟩))).heap[(C.ι 2).block]? = some (.cells (c2.setIfInBounds 0 (.pointer (some ⟨b, off, none⟩))) 42 (0, 0)) := by
        rw [Sort.setCell_eq]
        simp [Sort.mapBlock, Array.getElem?_modify, p3', Sort.onCells]
      have hold : ∀ b', b' ≠ (C.ι 2).block → (w1.setCell ⟨(C.ι 2).block, 0, none⟩ (.pointer (some ⟨b, off, none⟩))).heap[b']? = w1.heap[b']? := fun b' hb => by
        rw [Sort.setCell_eq]
        have : (C.ι 2).block ≠ b' := fun e => hb e.symm
        simp [Sort.mapBlock, Array.getElem?_modify, this]
      have hsz : (w1.setCell ⟨(C.ι 2).block, 0, none⟩ (.pointer (some ⟨b, off, none⟩))).heap.size = w1.heap.size := by
        rw [Sort.setCell_eq]; simp [Sort.mapBlock]
      have hos : SameOs w1 (w1.setCell ⟨(C.ι 2).block, 0, none⟩ (.pointer (some ⟨b, off, none⟩))) := by
        rw [Sort.setCell_eq]; exact ⟨rfl, rfl, rfl⟩
      generalize w1.setCell ⟨(C.ι 2).block, 0, none⟩ (.pointer (some ⟨b, off, none⟩)) = w2 at *
      obtain ⟨hI1, hE1⟩ := grow_ctx (w := w1) hI hgr
      have hbX : b ≠ (C.ι 2).block := fun e => p1 (e ▸ y5)
      have hkp : Keeps C ((({ C with w := w1 } : Ctx)).upd 2 (.box 42 (.pim 44 (.agg [.int a, .int c]))) w2) := ⟨rfl, fun _ h => h, fun b' hb => by
        have : b' ≠ (C.ι 2).block := fun e => p1 (e ▸ hb)
        exact (hold b' this).trans (hgr.heap b' (hI.xs b' hb))⟩
      obtain ⟨h1, h2⟩ := upd_ctx (C := { C with w := w1 }) (i := 2) (o := .box 42 (.pim 44 (.agg [.int a, .int c]))) (w := w2) hI1 hi2 (by rw [show nthO ({ C with w := w1 } : Ctx).st 2 = _ from n2]; rfl) hsz hos hold (refs_atP_box (C := { C with w := w1 }) hi2 n2 _ _ rfl rfl) (by
        refine ⟨p1, rfl, _, _, hh, ⟨by rw [Array.size_setIfInBounds, p5]; exact Nat.le_refl 1, by rw [Array.size_setIfInBounds, p5]; rfl, rfl⟩, ?_⟩
        simp only [M]
        refine ⟨b, off, ?_, y5, y6, M_pure hkp hI.lay _ 44 _ _ _ _ y6 (fun j _ => ?_) y7⟩
        · show cellAt w2 (C.ι 2).block 0 = _
          simp only [cellAt, World.cell?, hh]
          simp [p5]
        · show w2.cell? ⟨b, off + j, none⟩ = C.w.cell? ⟨b, off + j, none⟩
          simp only [World.cell?, (hold b hbX).trans (hgr.heap b (hI.xs b y5))])
      exact ⟨_, .bool true, ({ C with w := w1 } : Ctx).upd 2 (.box 42 (.pim 44 (.agg [.int a, .int c]))) w2, rfl, rfl, rfl, h1, rel_lit rfl, by rw [← hst]; exact hE1.trans h2 (Nat.le_refl _), by show K _ (setO C.st 2 _); rw [hst]; exact hK⟩
    | [], hm => simp [MT] at hm
    | [_], hm => simp [MT] at hm
    | _ :: _ :: _ :: _, hm => simp [MT] at hm
noncomputable def BAs (κ : Kp) : EB := (BJn κ).sim (selC_mono callE_mono callE_mono) (simAs κ)
end Go.Proofs.YtbppdpbagmbmpaaGreatDoor
