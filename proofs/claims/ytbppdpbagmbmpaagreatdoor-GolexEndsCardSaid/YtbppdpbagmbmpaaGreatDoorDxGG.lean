import Derived.Test.YtbppdpbagmbmpaaGreatDoorDxGF
namespace Go.Proofs.YtbppdpbagmbmpaaGreatDoor
open Go Go.Dn Go.Proofs
attribute [local irreducible] funA vc
set_option maxRecDepth 20000
def EB.unroll (b : EB) (N f k n : Nat) : EB := ⟨b.E.addLoop f k (unrollSp b.E N f k n), b.ok.addLoop b.mono (unroll_ok b.mono n), b.mono.addLoop (unroll_mono b.mono n)⟩
noncomputable def BJ1 (κ : Kp) : EB := EB.unroll (BSp κ) 12 19 3 3
noncomputable def BJ2 (κ : Kp) : EB := EB.unroll (BJ1 κ) 12 19 12 3
abbrev wrA (a c : Int) : AV := .ifc 42 (.pim 44 (.agg [.int a, .int c]))
abbrev jnA : AV := .ifc 60 (.ptr 0 0 [] 0)
abbrev jnS (a c : Int) : List Dn.Obj := [.box 62 (.agg [.slc 1 0 1]), .row 35 [wrA a c]]
theorem yJn (κ : Kp) (a c : Int) (K : AV → List Dn.Obj → Prop) : (funA (BJ2 κ).E 12 19 [.lst 35 [wrA a c]] [] K) = (
  loopCode (Pg.toProgram (Env.P (EB.E (BSp κ)))) 19 3 = loopCode (Pg.toProgram (Env.P (EB.E (BSp κ)))) 19 3 ∧ loopCode (Pg.toProgram (Env.P (EB.E (BJ1 κ)))) 19 12
  = loopCode (Pg.toProgram (Env.P (EB.E (BJ1 κ)))) 19 12 ∧ K (AV.ifc 60 (AV.ptr 0 0 [] 0)) [Obj.box 62 (AV.agg [AV.slc 1 0 1]), Obj.row 35 [AV.ifc 42 (AV.pim 44
  (AV.agg [AV.int a, AV.int c]))]]) := by kernel_rfl
theorem cJn (κ : Kp) : CallOk (BJ2 κ).E 12 19 (callE (fun x : Int × Int => ([.lst 35 [wrA x.1 x.2]], [])) (fun _ => True) (fun x => .one (jnA, jnS x.1 x.2))) := by
  refine callE_ok ?_
  rintro ⟨a, c⟩ K _ ho
  exact Eq.mpr (yJn κ a c K) ⟨rfl, rfl, ho⟩
noncomputable def BJn (κ : Kp) : EB := (BJ2 κ).call (cJn κ)
theorem grows_alloc (w : World) (o : Go.Obj) : Grows w (w.alloc o) := ⟨by rw [alloc_size]; omega, rfl, rfl, rfl, fun b hb => alloc_heap_old w o b hb⟩
abbrev tgA (i : Nat) : AV := .ifc 47 (.ptr i 0 [] 0)
theorem ifc_inv {C : Ctx} {T : TypeId} {i k off : Nat} {p : List Nat} {v : Value} (h : Rel C (.ifc T (.ptr i k p off)) v) : ∃ u, v = .iface T u ∧ i < C.st.length ∧ PtrOK C i k off u := by
  obtain ⟨c1, _⟩ := rel_cell h rfl (by simp)
  have a3 := h.2.2
  simp only [M, c1] at a3
  obtain ⟨u, u1, u2, u3, u4, v', v1', v2', v3⟩ := a3
  have hv1 : v = .iface T u := by simpa using u1
  have hu : u.cells = #[u] := cells_one (by rw [u2]; rfl)
  have huv : v' = u := by rw [hu] at v1'; simpa using v1'.symm
  exact ⟨u, hv1, u4, huv ▸ v3⟩
theorem simAs (κ : Kp) : ∀ args st K, selC sel1 (callE (fun _ : Unit => ([.lit .nilIface, tgA 0], [.box 42 (.lit (.pointer none))])) (fun _ => True) (fun _ => .one (.bool false, [.box 42 (.lit (.pointer none))])))
    (callE (fun x : Int × Int => ([jnA, tgA 2], jnS x.1 x.2 ++ [.box 42 (.lit (.pointer none))])) (fun _ => True) (fun x => .one (.bool true, jnS x.1 x.2 ++ [.box 42 (.pim 44 (.agg [.int x.1, .int x.2]))]))) args st K → SimCall (BJn κ).E.P 20 args st K := by
  rintro args st K h
  unfold selC at h
  cases hs : sel1 st with
  | true =>
    rw [hs, cond_true] at h
    obtain ⟨_, ha, _, hK⟩ := h
    obtain ⟨rfl, rfl⟩ := Prod.mk.inj ha
    have hK : K (.bool false) [.box 42 (.lit (.pointer none))] := hK
    refine ⟨⟨_, Tryz.func20, rfl⟩, fun C vs hC hI hst hm => ?_⟩
    obtain ⟨vs⟩ := vs
    match vs, hm with
    | [v1, v2], hm =>
      simp only [MT] at hm
      obtain ⟨a1, a2, a3, b1, b2, b3, _⟩ := hm
      have hv1 : v1 = .nilIface := rel_lit_inv (C := C) ⟨a1, a2, a3⟩
      subst hv1
      refine (callsIn_wide.2 (as_nil v2 C.w)).mono ?_
      rintro e' w' ⟨rfl, rfl⟩
      exact ⟨_, .bool false, C, rfl, rfl, rfl, hI, rel_lit rfl, Ext.refl _ (by rw [hst]; exact Nat.le_refl _), by rw [hst]; exact hK⟩
    | [], hm => simp [MT] at hm
    | [_], hm => simp [MT] at hm
    | _ :: _ :: _ :: _, hm => simp [MT] at hm
  | false =>
    rw [hs, cond_false] at h
    obtain ⟨⟨a, c⟩, ha, _, hK⟩ := h
    obtain ⟨rfl, rfl⟩ := Prod.mk.inj ha
    have hK : K (.bool true) (jnS a c ++ [.box 42 (.pim 44 (.agg [.int a, .int c]))]) := hK
    refine ⟨⟨_, Tryz.func20, rfl⟩, fun C vs hC hI hst hm => ?_⟩
    obtain ⟨vs⟩ := vs
    match vs, hm with
    | [v1, v2], hm =>
      simp only [MT] at hm
      obtain ⟨a1, a2, a3, b1, b2, b3, _⟩ := hm
      obtain ⟨u, rfl, _, hu⟩ := ifc_inv (C := C) (v := v1) ⟨a1, a2, a3⟩
      obtain ⟨u2, rfl, hi2, hu2⟩ := ifc_inv (C := C) (v := v2) ⟨b1, b2, b3⟩
      have n0 : nthO C.st 0 = .box 62 (.agg [.slc 1 0 1]) := by rw [hst]; rfl
      have n1 : nthO C.st 1 = .row 35 [wrA a c] := by rw [hst]; rfl
      have n2 : nthO C.st 2 = .box 42 (.lit (.pointer none)) := by rw [hst]; rfl
      obtain ⟨_, rfl⟩ := hu.2.1 _ _ n0
      obtain ⟨_, rfl⟩ := hu2.2.1 _ _ n2
      have o0 := hI.obj 0 (by rw [hst]; simp)
      have o1 := hI.obj 1 (by rw [hst]; simp)
      have o2 := hI.obj 2 hi2
      rw [n0] at o0
      rw [n1] at o1
      rw [n2] at o2
      obtain ⟨_, _, c0, e0, g1, _, g2⟩ := o0
      simp only [M, ML] at g2
      obtain ⟨⟨_, s, s1, _, s2⟩, _⟩ := g2
      obtain ⟨_, s3⟩ := s2.1 35 [wrA a c] (by rw [n1]; rfl)
      rcases s3 with ⟨_, _, _, s3⟩ | ⟨m1, cap, q, rfl, s3, s4, _⟩
      · cases s3
      have hq : q = ⟨(C.ι 1).block, 0, none⟩ := by
        rcases s3 with s3 | ⟨s3, s5⟩
        · rw [s3, Nat.zero_mul]
        · omega
      subst hq
      obtain ⟨_, o1⟩ := o1
      rcases o1 with ⟨o1, _⟩ | ⟨_, _, c', k1, _, _, _, k2⟩
      · rw [m1] at o1; cases o1
      simp only [MR] at k2
      obtain ⟨k2, _⟩ := k2
      rw [show wrA a c = .ifc 42 (.pim 44 (.agg [.int a, .int c])) from rfl] at k2
      simp only [M] at k2
      obtain ⟨y, y1, y2, y3, b, off, y4, y5, y6, y7⟩ := k2
      have hy : y.cells = #[y] := cells_one (by rw [y2]; rfl)
      have hyv : y = .pointer (some ⟨b, off, none⟩) := by rw [hy] at y4; simpa using y4
      subst hyv
      obtain ⟨p1, p2, c2, e2, p3, ⟨p4, p5, rfl⟩, p6⟩ := o2
      have p5 : c2.size = 1 := p5
      simp only [M] at p6
      have hg : C.w.cell? ⟨0, 0, none⟩ = some (.iface 94 (.agg #[.pointer (some ⟨13, 35, none⟩)])) := cell_kept hC hI (T := κ.T6) (z := κ.z6) rfl
      have hf : C.w.frozen? ⟨(C.ι 2).block, 0, none⟩ = false := by simp [World.frozen?, p3]
      refine (callsIn_wide.2 (as_As ⟨(C.ι 0).block, 0, none⟩ ⟨(C.ι 1).block, 0, none⟩ ⟨(C.ι 2).block, 0, none⟩ ⟨b, off, none⟩ cap _ C.w hg p6.1 hf s1 y1)).mono ?_
      rintro e' w' ⟨rfl, rfl⟩
      have hgr : Grows C.w ((asW1 ⟨C.w.heap.size, 0, none⟩ (asW1 ⟨C.w.heap.size, 0, none⟩ (asW0 ⟨(C.ι 2).block, 0, none⟩ C.w))).alloc (.cells #[.pointer (some ⟨b, off, none⟩)] 42)) :=
        (grows_alloc _ _).trans ((grows_alloc _ _).trans ((grows_alloc _ _).trans ((grows_alloc _ _).trans (grows_alloc _ _))))
      show ∃ _, _
      unfold asW2
      generalize hw1 : ((asW1 ⟨C.w.heap.size, 0, none⟩ (asW1 ⟨C.w.heap.size, 0, none⟩ (asW0 ⟨(C.ι 2).block, 0, none⟩ C.w))).alloc (.cells #[.pointer (some ⟨b, off, none⟩)] 42)) = w1 at hgr
      have hbl : (C.ι 2).block < C.w.heap.size := (Array.getElem?_eq_some_iff.1 p3).1
      have p3' : w1.heap[(C.ι 2).block]? = some (.cells c2 42 (0, 0)) := (hgr.heap _ hbl).trans p3
      have hh : (w1.setCell ⟨(C.ι 2).block, 0, none⟩ (.pointer (some ⟨b, off, none⟩))).heap[(C.ι 2).block]? = some (.cells (c2.setIfInBounds 0 (.pointer (some ⟨b, off, none⟩))) 42 (0, 0)) := by
        rw [Sort.setCell_eq]
        simp [Sort.mapBlock, Array.getElem?_modify, p3', Sort.onCells]
      have hold : ∀ b', b' ≠ (C.ι 2).block → (w1.setCell ⟨(C.ι 2).block, 0, none⟩ (.pointer (some ⟨b, off, none⟩))).heap[b']? = w1.heap[b']? := fun b' hb => by
        rw [Sort.setCell_eq]
        have : (C.ι 2).block ≠ b' := fun e => hb e.symm
        simp [Sort.mapBlock, Array.getElem?_modify, this]
      have hsz : (w1.setCell ⟨(C.ι 2).block, 0, none⟩ (.pointer (some ⟨b, off, none⟩))).heap.size = w1.heap.size := by
        rw [Sort.setCell_eq]; simp [Sort.mapBlock]
      have hos : SameOs w1 (w1.setCell ⟨(C.ι 2).block, 0, none⟩ (.pointer (some ⟨b, off, none⟩))) := by
        rw [Sort.setCell_eq]; exact ⟨rfl, rfl, rfl⟩
      generalize w1.setCell ⟨(C.ι 2).block, 0, none⟩ (.pointer (some ⟨b, off, none⟩)) = w2 at *
      obtain ⟨hI1, hE1⟩ := grow_ctx (w := w1) hI hgr
      have hbX : b ≠ (C.ι 2).block := fun e => p1 (e ▸ y5)
      have hkp : Keeps C ((({ C with w := w1 } : Ctx)).upd 2 (.box 42 (.pim 44 (.agg [.int a, .int c]))) w2) := ⟨rfl, fun _ h => h, fun b' hb => by
        have : b' ≠ (C.ι 2).block := fun e => p1 (e ▸ hb)
        exact (hold b' this).trans (hgr.heap b' (hI.xs b' hb))⟩
      obtain ⟨h1, h2⟩ := upd_ctx (C := { C with w := w1 }) (i := 2) (o := .box 42 (.pim 44 (.agg [.int a, .int c]))) (w := w2) hI1 hi2 (by rw [show nthO ({ C with w := w1 } : Ctx).st 2 = _ from n2]; rfl) hsz hos hold (refs_atP_box (C := { C with w := w1 }) hi2 n2 _ _ rfl rfl) (by
        refine ⟨p1, rfl, _, _, hh, ⟨by rw [Array.size_setIfInBounds, p5]; exact Nat.le_refl 1, by rw [Array.size_setIfInBounds, p5]; rfl, rfl⟩, ?_⟩
        simp only [M]
        refine ⟨b, off, ?_, y5, y6, M_pure hkp hI.lay _ 44 _ _ _ _ y6 (fun j _ => ?_) y7⟩
        · show cellAt w2 (C.ι 2).block 0 = _
          simp only [cellAt, World.cell?, hh]
          simp [p5]
        · show w2.cell? ⟨b, off + j, none⟩ = C.w.cell? ⟨b, off + j, none⟩
          simp only [World.cell?, (hold b hbX).trans (hgr.heap b (hI.xs b y5))])
      exact ⟨_, .bool true, ({ C with w := w1 } : Ctx).upd 2 (.box 42 (.pim 44 (.agg [.int a, .int c]))) w2, rfl, rfl, rfl, h1, rel_lit rfl, by rw [← hst]; exact hE1.trans h2 (Nat.le_refl _), by show K _ (setO C.st 2 _); rw [hst]; exact hK⟩
    | [], hm => simp [MT] at hm
    | [_], hm => simp [MT] at hm
    | _ :: _ :: _ :: _, hm => simp [MT] at hm
noncomputable def BAs (κ : Kp) : EB := (BJn κ).sim (selC_mono callE_mono callE_mono) (simAs κ)
end Go.Proofs.YtbppdpbagmbmpaaGreatDoor
namespace Go.Proofs.YtbppdpbagmbmpaaGreatDoor
open Go Go.Dn Go.Proofs
attribute [local irreducible] funA vc
set_option maxRecDepth 20000
noncomputable def BGe (κ : Kp) : EB := ⟨(BAs κ).E.withGen (fun f => memN f [49]), (BAs κ).ok.withGen _, (BAs κ).mono.withGen _⟩
theorem zI0 (κ : Kp) (x : AIn) (I : Nat → S → Prop) (n : Nat) (K : Exit → S → Prop) : (vc (BGe κ).E 12 28 none 11 (loopCode (Pr κ).toProgram 28 1) (stI0 κ x) (loopK (BGe κ).E 28 1 11 I n K)) = (
  brn (ByteArray.toList { data := List.toArray (Lib.trimLeftS (bl x.t) (bl { data := #[OfNat.ofNat 32, OfNat.ofNat 9] })) } == ByteArray.toList { data := #[] }) (K
  (Exit.exit 0) (sp 45 [(0, AV.yld 10), (2, AV.ptr 9 0 [] 0), (4, AV.ptr 11 0 [] 0)] [Obj.box 24 (AV.slc 7 0 x.toks.length), Obj.box 35 (AV.lit Value.nilIface),
  Obj.box 3 (AV.int (IntKind.wrap IntKind.i64 (x.ln + (1 : Int)))), Obj.dead, Obj.dead, Obj.dead, Dn.Obj.loop (lpA Tryz.prog 10 7 LoopState.busy none (spR (junks
  58) [(0, AV.str x.s), (2, AV.nil), (3, AV.int 0), (4, AV.int 0), (5, AV.ptr 0 0 [] 0), (6, AV.ptr 1 0 [] 0), (7, AV.ptr 2 0 [] 0), (12, AV.str x.s), (13,
  AV.int (↑(ByteArray.size x.s) : Int)), (14, AV.bool false), (15, AV.str x.s), (16, AV.clo 49 [AV.ptr 4 0 [] 0, AV.ptr 3 0 [] 0, AV.ptr 5 0 [] 0])])), Obj.row
  31 x.toks, Obj.box 9 (AV.lit (Value.string { data := List.toArray (Lib.trimLeftS (bl x.t) (bl { data := #[OfNat.ofNat 32, OfNat.ofNat 9] })) })), Obj.box 3
  (AV.int (IntKind.wrap IntKind.i64 (x.ln + (1 : Int)))), Dn.Obj.loop (lpA Tryz.prog 10 10 LoopState.ready none (spR (junks 58) [(0, AV.str x.s), (2, AV.nil),
  (3, AV.int 0), (4, AV.int 0), (5, AV.ptr 0 0 [] 0), (6, AV.ptr 1 0 [] 0), (7, AV.ptr 2 0 [] 0), (8, AV.str x.l), (12, AV.str x.s), (13, AV.int
  (↑(ByteArray.size x.s) : Int)), (14, AV.bool false), (15, AV.str x.s), (16, AV.clo 49 [AV.ptr 4 0 [] 0, AV.ptr 3 0 [] 0, AV.ptr 5 0 [] 0]), (17, AV.str x.l),
  (18, AV.int x.ln), (19, AV.int (IntKind.wrap IntKind.i64 (x.ln + (1 : Int)))), (20, AV.str x.l), (21, AV.int (IntKind.wrap IntKind.i64 (x.ln + (1 : Int)))),
  (22, AV.clo 28 [AV.ptr 8 0 [] 0, AV.ptr 9 0 [] 0])])), Obj.box 31 (AV.agg [AV.int x.k, AV.str x.q, AV.int x.z])])) (brn (hasP
  { data := List.toArray (Lib.trimLeftS (bl x.t) (bl { data := #[OfNat.ofNat 32, OfNat.ofNat 9] })) } { data := #[OfNat.ofNat 47, OfNat.ofNat 47] }) (K
  (Exit.exit 0) (sp 45 [(0, AV.yld 10), (2, AV.ptr 9 0 [] 0), (4, AV.ptr 11 0 [] 0)] [Obj.box 24 (AV.slc 7 0 x.toks.length), Obj.box 35 (AV.lit Value.nilIface),
  Obj.box 3 (AV.int (IntKind.wrap IntKind.i64 (x.ln + (1 : Int)))), Obj.dead, Obj.dead, Obj.dead, Dn.Obj.loop (lpA Tryz.prog 10 7 LoopState.busy none (spR (junks
  58) [(0, AV.str x.s), (2, AV.nil), (3, AV.int 0), (4, AV.int 0), (5, AV.ptr 0 0 [] 0), (6, AV.ptr 1 0 [] 0), (7, AV.ptr 2 0 [] 0), (12, AV.str x.s), (13,
  AV.int (↑(ByteArray.size x.s) : Int)), (14, AV.bool false), (15, AV.str x.s), (16, AV.clo 49 [AV.ptr 4 0 [] 0, AV.ptr 3 0 [] 0, AV.ptr 5 0 [] 0])])), Obj.row
  31 x.toks, Obj.box 9 (AV.lit (Value.string { data := List.toArray (Lib.trimLeftS (bl x.t) (bl { data := #[OfNat.ofNat 32, OfNat.ofNat 9] })) })), Obj.box 3
  (AV.int (IntKind.wrap IntKind.i64 (x.ln + (1 : Int)))), Dn.Obj.loop (lpA Tryz.prog 10 10 LoopState.ready none (spR (junks 58) [(0, AV.str x.s), (2, AV.nil),
  (3, AV.int 0), (4, AV.int 0), (5, AV.ptr 0 0 [] 0), (6, AV.ptr 1 0 [] 0), (7, AV.ptr 2 0 [] 0), (8, AV.str x.l), (12, AV.str x.s), (13, AV.int
  (↑(ByteArray.size x.s) : Int)), (14, AV.bool false), (15, AV.str x.s), (16, AV.clo 49 [AV.ptr 4 0 [] 0, AV.ptr 3 0 [] 0, AV.ptr 5 0 [] 0]), (17, AV.str x.l),
  (18, AV.int x.ln), (19, AV.int (IntKind.wrap IntKind.i64 (x.ln + (1 : Int)))), (20, AV.str x.l), (21, AV.int (IntKind.wrap IntKind.i64 (x.ln + (1 : Int)))),
  (22, AV.clo 28 [AV.ptr 8 0 [] 0, AV.ptr 9 0 [] 0])])), Obj.box 31 (AV.agg [AV.int x.k, AV.str x.q, AV.int x.z])])) (∃ (a : ByteArray), ([AV.lit (Value.string
  { data := List.toArray (Lib.trimLeftS (bl x.t) (bl { data := #[OfNat.ofNat 32, OfNat.ofNat 9] })) })], []) = stTk a ∧ sideTk a ∧ brn (Prod.snd (Prod.snd (tk1
  a)) == (0 : Int)) (∃ (a : Int × Int), ([AV.lst 35 [AV.ifc 42 (AV.pim 44 (AV.agg [AV.int (IntKind.wrap IntKind.i64 (x.ln + (1 : Int))), AV.int 160]))]], nilO) =
  ([AV.lst 35 [AV.ifc 42 (AV.pim 44 (AV.agg [AV.int a.1, AV.int a.2]))]], nilO) ∧ True ∧ K Exit.ret (sp 45 [] [Obj.box 24 (AV.slc 7 0 x.toks.length), Obj.box 35
  (AV.ifc 60 (AV.ptr 11 0 [] 0)), Obj.box 3 (AV.int (IntKind.wrap IntKind.i64 (x.ln + (1 : Int)))), Obj.dead, Obj.dead, Obj.dead, Dn.Obj.loop (lpA Tryz.prog 10 7
  LoopState.busy none (spR (junks 58) [(0, AV.str x.s), (2, AV.nil), (3, AV.int 0), (4, AV.int 0), (5, AV.ptr 0 0 [] 0), (6, AV.ptr 1 0 [] 0), (7, AV.ptr 2 0 []
  0), (12, AV.str x.s), (13, AV.int (↑(ByteArray.size x.s) : Int)), (14, AV.bool false), (15, AV.str x.s), (16, AV.clo 49 [AV.ptr 4 0 [] 0, AV.ptr 3 0 [] 0,
  AV.ptr 5 0 [] 0])])), Obj.row 31 x.toks, Obj.box 9 (AV.lit (Value.string
  { data := List.toArray (Lib.trimLeftS (bl x.t) (bl { data := #[OfNat.ofNat 32, OfNat.ofNat 9] })) })), Obj.box 3 (AV.int (IntKind.wrap IntKind.i64 (x.ln + (1 :
  Int)))), Dn.Obj.loop (lpA Tryz.prog 10 10 LoopState.done (some (Code.exit 0)) (spR (junks 58) [(0, AV.str x.s), (2, AV.nil), (3, AV.int 0), (4, AV.int 0), (5,
  AV.ptr 0 0 [] 0), (6, AV.ptr 1 0 [] 0), (7, AV.ptr 2 0 [] 0), (8, AV.str x.l), (12, AV.str x.s), (13, AV.int (↑(ByteArray.size x.s) : Int)), (14, AV.bool
  false), (15, AV.str x.s), (16, AV.clo 49 [AV.ptr 4 0 [] 0, AV.ptr 3 0 [] 0, AV.ptr 5 0 [] 0]), (17, AV.str x.l), (18, AV.int x.ln), (19, AV.int (IntKind.wrap
  IntKind.i64 (x.ln + (1 : Int)))), (20, AV.str x.l), (21, AV.int (IntKind.wrap IntKind.i64 (x.ln + (1 : Int)))), (22, AV.clo 28 [AV.ptr 8 0 [] 0, AV.ptr 9 0 []
  0])])), Obj.box 62 (AV.agg [AV.slc 12 0 1]), Obj.row 35 [AV.ifc 42 (AV.pim 44 (AV.agg [AV.int a.1, AV.int a.2]))]])) (brn ((↑(x.toks.length) : Int) == (300000
  : Int)) (∃ (a : Int × Int), ([AV.lst 35 [AV.ifc 42 (AV.pim 44 (AV.agg [AV.int (IntKind.wrap IntKind.i64 (x.ln + (1 : Int))), AV.int 21]))]], nilO) = ([AV.lst
  35 [AV.ifc 42 (AV.pim 44 (AV.agg [AV.int a.1, AV.int a.2]))]], nilO) ∧ True ∧ K Exit.ret (sp 45 [] [Obj.box 24 (AV.slc 7 0 x.toks.length), Obj.box 35 (AV.ifc
  60 (AV.ptr 11 0 [] 0)), Obj.box 3 (AV.int (IntKind.wrap IntKind.i64 (x.ln + (1 : Int)))), Obj.dead, Obj.dead, Obj.dead, Dn.Obj.loop (lpA Tryz.prog 10 7
  LoopState.busy none (spR (junks 58) [(0, AV.str x.s), (2, AV.nil), (3, AV.int 0), (4, AV.int 0), (5, AV.ptr 0 0 [] 0), (6, AV.ptr 1 0 [] 0), (7, AV.ptr 2 0 []
  0), (12, AV.str x.s), (13, AV.int (↑(ByteArray.size x.s) : Int)), (14, AV.bool false), (15, AV.str x.s), (16, AV.clo 49 [AV.ptr 4 0 [] 0, AV.ptr 3 0 [] 0,
  AV.ptr 5 0 [] 0])])), Obj.row 31 x.toks, Obj.box 9 (AV.lit (Value.string
  { data := List.toArray (Lib.trimLeftS (bl x.t) (bl { data := #[OfNat.ofNat 32, OfNat.ofNat 9] })) })), Obj.box 3 (AV.int (IntKind.wrap IntKind.i64 (x.ln + (1 :
  Int)))), Dn.Obj.loop (lpA Tryz.prog 10 10 LoopState.done (some (Code.exit 0)) (spR (junks 58) [(0, AV.str x.s), (2, AV.nil), (3, AV.int 0), (4, AV.int 0), (5,
  AV.ptr 0 0 [] 0), (6, AV.ptr 1 0 [] 0), (7, AV.ptr 2 0 [] 0), (8, AV.str x.l), (12, AV.str x.s), (13, AV.int (↑(ByteArray.size x.s) : Int)), (14, AV.bool
  false), (15, AV.str x.s), (16, AV.clo 49 [AV.ptr 4 0 [] 0, AV.ptr 3 0 [] 0, AV.ptr 5 0 [] 0]), (17, AV.str x.l), (18, AV.int x.ln), (19, AV.int (IntKind.wrap
  IntKind.i64 (x.ln + (1 : Int)))), (20, AV.str x.l), (21, AV.int (IntKind.wrap IntKind.i64 (x.ln + (1 : Int)))), (22, AV.clo 28 [AV.ptr 8 0 [] 0, AV.ptr 9 0 []
  0])])), Obj.box 62 (AV.agg [AV.slc 12 0 1]), Obj.row 35 [AV.ifc 42 (AV.pim 44 (AV.agg [AV.int a.1, AV.int a.2]))]])) (cnd (decide ((x.toks.length + 1 + 1) * 33
  ≤ 70368744177664)) ((cnd (decide ((0 : Int) ≤ Prod.snd (Prod.snd (tk1 a))) && decide (Prod.snd (Prod.snd (tk1 a)) ≤ (↑(ByteArray.size
  { data := List.toArray (Lib.trimLeftS (bl x.t) (bl { data := #[OfNat.ofNat 32, OfNat.ofNat 9] })) }) : Int)) && decide ((↑(ByteArray.size
  { data := List.toArray (Lib.trimLeftS (bl x.t) (bl { data := #[OfNat.ofNat 32, OfNat.ofNat 9] })) }) : Int) ≤ (↑(ByteArray.size
  { data := List.toArray (Lib.trimLeftS (bl x.t) (bl { data := #[OfNat.ofNat 32, OfNat.ofNat 9] })) }) : Int))) (∃ (m : Nat), m < n ∧ I m (sp 45 [(0, AV.yld 10),
  (1, AV.ptr 8 0 [] 0), (2, AV.ptr 9 0 [] 0), (4, AV.ptr 12 0 [] 0)] [Obj.box 24 (AV.slc 11 0 (x.toks.length + 1)), Obj.box 35 (AV.lit Value.nilIface), Obj.box 3
  (AV.int (IntKind.wrap IntKind.i64 (x.ln + (1 : Int)))), Obj.dead, Obj.dead, Obj.dead, Dn.Obj.loop (lpA Tryz.prog 10 7 LoopState.busy none (spR (junks 58) [(0,
  AV.str x.s), (2, AV.nil), (3, AV.int 0), (4, AV.int 0), (5, AV.ptr 0 0 [] 0), (6, AV.ptr 1 0 [] 0), (7, AV.ptr 2 0 [] 0), (12, AV.str x.s), (13, AV.int
  (↑(ByteArray.size x.s) : Int)), (14, AV.bool false), (15, AV.str x.s), (16, AV.clo 49 [AV.ptr 4 0 [] 0, AV.ptr 3 0 [] 0, AV.ptr 5 0 [] 0])])), Obj.dead,
  Obj.box 9 (AV.lit (Value.string (ByteArray.extract { data := List.toArray (Lib.trimLeftS (bl x.t) (bl { data := #[OfNat.ofNat 32, OfNat.ofNat 9] })) }
  (Int.toNat (Prod.snd (Prod.snd (tk1 a)))) (Int.toNat (↑(ByteArray.size
  { data := List.toArray (Lib.trimLeftS (bl x.t) (bl { data := #[OfNat.ofNat 32, OfNat.ofNat 9] })) }) : Int))))), Obj.box 3 (AV.int (IntKind.wrap IntKind.i64
  (x.ln + (1 : Int)))), Dn.Obj.loop (lpA Tryz.prog 10 10 LoopState.ready none (spR (junks 58) [(0, AV.str x.s), (2, AV.nil), (3, AV.int 0), (4, AV.int 0), (5,
  AV.ptr 0 0 [] 0), (6, AV.ptr 1 0 [] 0), (7, AV.ptr 2 0 [] 0), (8, AV.str x.l), (12, AV.str x.s), (13, AV.int (↑(ByteArray.size x.s) : Int)), (14, AV.bool
  false), (15, AV.str x.s), (16, AV.clo 49 [AV.ptr 4 0 [] 0, AV.ptr 3 0 [] 0, AV.ptr 5 0 [] 0]), (17, AV.str x.l), (18, AV.int x.ln), (19, AV.lit (Value.int
  IntKind.i64 (IntKind.wrap IntKind.i64 (x.ln + (1 : Int))))), (20, AV.str x.l), (21, AV.lit (Value.int IntKind.i64 (IntKind.wrap IntKind.i64 (x.ln + (1 :
  Int))))), (22, AV.clo 28 [AV.ptr 8 0 [] 0, AV.ptr 9 0 [] 0])])), Obj.row 31 (List.take x.toks.length x.toks ++ [AV.agg [AV.int (Prod.fst (tk1 a)), AV.str
  (Prod.fst (Prod.snd (tk1 a))), AV.lit (Value.int IntKind.i64 (IntKind.wrap IntKind.i64 (x.ln + (1 : Int))))]]), Obj.box 31 (AV.agg [AV.int (Prod.fst (tk1 a)),
  AV.str (Prod.fst (Prod.snd (tk1 a))), AV.lit (Value.int IntKind.i64 (IntKind.wrap IntKind.i64 (x.ln + (1 : Int))))])])) ∧ cnd (decide ((0 : Int) ≤ Prod.snd
  (Prod.snd (tk1 a))) && decide (Prod.snd (Prod.snd (tk1 a)) ≤ (↑(ByteArray.size
  { data := List.toArray (Lib.trimLeftS (bl x.t) (bl { data := #[OfNat.ofNat 32, OfNat.ofNat 9] })) }) : Int)) && decide ((↑(ByteArray.size
  { data := List.toArray (Lib.trimLeftS (bl x.t) (bl { data := #[OfNat.ofNat 32, OfNat.ofNat 9] })) }) : Int) ≤ (↑(ByteArray.size
  { data := List.toArray (Lib.trimLeftS (bl x.t) (bl { data := #[OfNat.ofNat 32, OfNat.ofNat 9] })) }) : Int))) (∃ (m : Nat), m < n ∧ I m (sp 45 [(0, AV.yld 10),
  (1, AV.ptr 8 0 [] 0), (2, AV.ptr 9 0 [] 0), (4, AV.ptr 12 0 [] 0)] [Obj.box 24 (AV.slc 11 0 (x.toks.length + 1)), Obj.box 35 (AV.lit Value.nilIface), Obj.box 3
  (AV.int (IntKind.wrap IntKind.i64 (x.ln + (1 : Int)))), Obj.dead, Obj.dead, Obj.dead, Dn.Obj.loop (lpA Tryz.prog 10 7 LoopState.busy none (spR (junks 58) [(0,
  AV.str x.s), (2, AV.nil), (3, AV.int 0), (4, AV.int 0), (5, AV.ptr 0 0 [] 0), (6, AV.ptr 1 0 [] 0), (7, AV.ptr 2 0 [] 0), (12, AV.str x.s), (13, AV.int
  (↑(ByteArray.size x.s) : Int)), (14, AV.bool false), (15, AV.str x.s), (16, AV.clo 49 [AV.ptr 4 0 [] 0, AV.ptr 3 0 [] 0, AV.ptr 5 0 [] 0])])), Obj.dead,
  Obj.box 9 (AV.lit (Value.string (ByteArray.extract { data := List.toArray (Lib.trimLeftS (bl x.t) (bl { data := #[OfNat.ofNat 32, OfNat.ofNat 9] })) }
  (Int.toNat (Prod.snd (Prod.snd (tk1 a)))) (Int.toNat (↑(ByteArray.size
  { data := List.toArray (Lib.trimLeftS (bl x.t) (bl { data := #[OfNat.ofNat 32, OfNat.ofNat 9] })) }) : Int))))), Obj.box 3 (AV.int (IntKind.wrap IntKind.i64
  (x.ln + (1 : Int)))), Dn.Obj.loop (lpA Tryz.prog 10 10 LoopState.ready none (spR (junks 58) [(0, AV.str x.s), (2, AV.nil), (3, AV.int 0), (4, AV.int 0), (5,
  AV.ptr 0 0 [] 0), (6, AV.ptr 1 0 [] 0), (7, AV.ptr 2 0 [] 0), (8, AV.str x.l), (12, AV.str x.s), (13, AV.int (↑(ByteArray.size x.s) : Int)), (14, AV.bool
  false), (15, AV.str x.s), (16, AV.clo 49 [AV.ptr 4 0 [] 0, AV.ptr 3 0 [] 0, AV.ptr 5 0 [] 0]), (17, AV.str x.l), (18, AV.int x.ln), (19, AV.lit (Value.int
  IntKind.i64 (IntKind.wrap IntKind.i64 (x.ln + (1 : Int))))), (20, AV.str x.l), (21, AV.lit (Value.int IntKind.i64 (IntKind.wrap IntKind.i64 (x.ln + (1 :
  Int))))), (22, AV.clo 28 [AV.ptr 8 0 [] 0, AV.ptr 9 0 [] 0])])), Obj.row 31 (List.take x.toks.length x.toks ++ [AV.agg [AV.int (Prod.fst (tk1 a)), AV.str
  (Prod.fst (Prod.snd (tk1 a))), AV.lit (Value.int IntKind.i64 (IntKind.wrap IntKind.i64 (x.ln + (1 : Int))))]]), Obj.box 31 (AV.agg [AV.int (Prod.fst (tk1 a)),
  AV.str (Prod.fst (Prod.snd (tk1 a))), AV.lit (Value.int IntKind.i64 (IntKind.wrap IntKind.i64 (x.ln + (1 : Int))))])]))) ∧ cnd (decide ((0 : Int) ≤ Prod.snd
  (Prod.snd (tk1 a))) && decide (Prod.snd (Prod.snd (tk1 a)) ≤ (↑(ByteArray.size
  { data := List.toArray (Lib.trimLeftS (bl x.t) (bl { data := #[OfNat.ofNat 32, OfNat.ofNat 9] })) }) : Int)) && decide ((↑(ByteArray.size
  { data := List.toArray (Lib.trimLeftS (bl x.t) (bl { data := #[OfNat.ofNat 32, OfNat.ofNat 9] })) }) : Int) ≤ (↑(ByteArray.size
  { data := List.toArray (Lib.trimLeftS (bl x.t) (bl { data := #[OfNat.ofNat 32, OfNat.ofNat 9] })) }) : Int))) (∃ (m : Nat), m < n ∧ I m (sp 45 [(0, AV.yld 10),
  (1, AV.ptr 8 0 [] 0), (2, AV.ptr 9 0 [] 0), (4, AV.ptr 12 0 [] 0)] [Obj.box 24 (AV.slc 11 0 (x.toks.length + 1)), Obj.box 35 (AV.lit Value.nilIface), Obj.box 3
  (AV.int (IntKind.wrap IntKind.i64 (x.ln + (1 : Int)))), Obj.dead, Obj.dead, Obj.dead, Dn.Obj.loop (lpA Tryz.prog 10 7 LoopState.busy none (spR (junks 58) [(0,
  AV.str x.s), (2, AV.nil), (3, AV.int 0), (4, AV.int 0), (5, AV.ptr 0 0 [] 0), (6, AV.ptr 1 0 [] 0), (7, AV.ptr 2 0 [] 0), (12, AV.str x.s), (13, AV.int
  (↑(ByteArray.size x.s) : Int)), (14, AV.bool false), (15, AV.str x.s), (16, AV.clo 49 [AV.ptr 4 0 [] 0, AV.ptr 3 0 [] 0, AV.ptr 5 0 [] 0])])), Obj.dead,
  Obj.box 9 (AV.lit (Value.string (ByteArray.extract { data := List.toArray (Lib.trimLeftS (bl x.t) (bl { data := #[OfNat.ofNat 32, OfNat.ofNat 9] })) }
  (Int.toNat (Prod.snd (Prod.snd (tk1 a)))) (Int.toNat (↑(ByteArray.size
  { data := List.toArray (Lib.trimLeftS (bl x.t) (bl { data := #[OfNat.ofNat 32, OfNat.ofNat 9] })) }) : Int))))), Obj.box 3 (AV.int (IntKind.wrap IntKind.i64
  (x.ln + (1 : Int)))), Dn.Obj.loop (lpA Tryz.prog 10 10 LoopState.ready none (spR (junks 58) [(0, AV.str x.s), (2, AV.nil), (3, AV.int 0), (4, AV.int 0), (5,
  AV.ptr 0 0 [] 0), (6, AV.ptr 1 0 [] 0), (7, AV.ptr 2 0 [] 0), (8, AV.str x.l), (12, AV.str x.s), (13, AV.int (↑(ByteArray.size x.s) : Int)), (14, AV.bool
  false), (15, AV.str x.s), (16, AV.clo 49 [AV.ptr 4 0 [] 0, AV.ptr 3 0 [] 0, AV.ptr 5 0 [] 0]), (17, AV.str x.l), (18, AV.int x.ln), (19, AV.lit (Value.int
  IntKind.i64 (IntKind.wrap IntKind.i64 (x.ln + (1 : Int))))), (20, AV.str x.l), (21, AV.lit (Value.int IntKind.i64 (IntKind.wrap IntKind.i64 (x.ln + (1 :
  Int))))), (22, AV.clo 28 [AV.ptr 8 0 [] 0, AV.ptr 9 0 [] 0])])), Obj.row 31 (List.take x.toks.length x.toks ++ [AV.agg [AV.int (Prod.fst (tk1 a)), AV.str
  (Prod.fst (Prod.snd (tk1 a))), AV.lit (Value.int IntKind.i64 (IntKind.wrap IntKind.i64 (x.ln + (1 : Int))))]]), Obj.box 31 (AV.agg [AV.int (Prod.fst (tk1 a)),
  AV.str (Prod.fst (Prod.snd (tk1 a))), AV.lit (Value.int IntKind.i64 (IntKind.wrap IntKind.i64 (x.ln + (1 : Int))))])])))))))) := by kernel_rfl
theorem zI1 (κ : Kp) (x : AIn) (I : Nat → S → Prop) (n : Nat) (K : Exit → S → Prop) : (vc (BGe κ).E 12 28 none 11 (loopCode (Pr κ).toProgram 28 1) (stI1 κ x) (loopK (BGe κ).E 28 1 11 I n K)) = (
  brn (ByteArray.toList { data := List.toArray (Lib.trimLeftS (bl x.t) (bl { data := #[OfNat.ofNat 32, OfNat.ofNat 9] })) } == ByteArray.toList { data := #[] }) (K
  (Exit.exit 0) (sp 45 [(0, AV.yld 10), (2, AV.ptr 9 0 [] 0), (4, AV.ptr 12 0 [] 0)] [Obj.box 24 (AV.slc 11 0 x.toks.length), Obj.box 35 (AV.lit Value.nilIface),
  Obj.box 3 (AV.int (IntKind.wrap IntKind.i64 (x.ln + (1 : Int)))), Obj.dead, Obj.dead, Obj.dead, Dn.Obj.loop (lpA Tryz.prog 10 7 LoopState.busy none (spR (junks
  58) [(0, AV.str x.s), (2, AV.nil), (3, AV.int 0), (4, AV.int 0), (5, AV.ptr 0 0 [] 0), (6, AV.ptr 1 0 [] 0), (7, AV.ptr 2 0 [] 0), (12, AV.str x.s), (13,
  AV.int (↑(ByteArray.size x.s) : Int)), (14, AV.bool false), (15, AV.str x.s), (16, AV.clo 49 [AV.ptr 4 0 [] 0, AV.ptr 3 0 [] 0, AV.ptr 5 0 [] 0])])), Obj.dead,
  Obj.box 9 (AV.lit (Value.string { data := List.toArray (Lib.trimLeftS (bl x.t) (bl { data := #[OfNat.ofNat 32, OfNat.ofNat 9] })) })), Obj.box 3 (AV.int
  (IntKind.wrap IntKind.i64 (x.ln + (1 : Int)))), Dn.Obj.loop (lpA Tryz.prog 10 10 LoopState.ready none (spR (junks 58) [(0, AV.str x.s), (2, AV.nil), (3, AV.int
  0), (4, AV.int 0), (5, AV.ptr 0 0 [] 0), (6, AV.ptr 1 0 [] 0), (7, AV.ptr 2 0 [] 0), (8, AV.str x.l), (12, AV.str x.s), (13, AV.int (↑(ByteArray.size x.s) :
  Int)), (14, AV.bool false), (15, AV.str x.s), (16, AV.clo 49 [AV.ptr 4 0 [] 0, AV.ptr 3 0 [] 0, AV.ptr 5 0 [] 0]), (17, AV.str x.l), (18, AV.int x.ln), (19,
  AV.int (IntKind.wrap IntKind.i64 (x.ln + (1 : Int)))), (20, AV.str x.l), (21, AV.int (IntKind.wrap IntKind.i64 (x.ln + (1 : Int)))), (22, AV.clo 28 [AV.ptr 8 0
  [] 0, AV.ptr 9 0 [] 0])])), Obj.row 31 x.toks, Obj.box 31 (AV.agg [AV.int x.k, AV.str x.q, AV.int x.z])])) (brn (hasP
  { data := List.toArray (Lib.trimLeftS (bl x.t) (bl { data := #[OfNat.ofNat 32, OfNat.ofNat 9] })) } { data := #[OfNat.ofNat 47, OfNat.ofNat 47] }) (K
  (Exit.exit 0) (sp 45 [(0, AV.yld 10), (2, AV.ptr 9 0 [] 0), (4, AV.ptr 12 0 [] 0)] [Obj.box 24 (AV.slc 11 0 x.toks.length), Obj.box 35 (AV.lit Value.nilIface),
  Obj.box 3 (AV.int (IntKind.wrap IntKind.i64 (x.ln + (1 : Int)))), Obj.dead, Obj.dead, Obj.dead, Dn.Obj.loop (lpA Tryz.prog 10 7 LoopState.busy none (spR (junks
  58) [(0, AV.str x.s), (2, AV.nil), (3, AV.int 0), (4, AV.int 0), (5, AV.ptr 0 0 [] 0), (6, AV.ptr 1 0 [] 0), (7, AV.ptr 2 0 [] 0), (12, AV.str x.s), (13,
  AV.int (↑(ByteArray.size x.s) : Int)), (14, AV.bool false), (15, AV.str x.s), (16, AV.clo 49 [AV.ptr 4 0 [] 0, AV.ptr 3 0 [] 0, AV.ptr 5 0 [] 0])])), Obj.dead,
  Obj.box 9 (AV.lit (Value.string { data := List.toArray (Lib.trimLeftS (bl x.t) (bl { data := #[OfNat.ofNat 32, OfNat.ofNat 9] })) })), Obj.box 3 (AV.int
  (IntKind.wrap IntKind.i64 (x.ln + (1 : Int)))), Dn.Obj.loop (lpA Tryz.prog 10 10 LoopState.ready none (spR (junks 58) [(0, AV.str x.s), (2, AV.nil), (3, AV.int
  0), (4, AV.int 0), (5, AV.ptr 0 0 [] 0), (6, AV.ptr 1 0 [] 0), (7, AV.ptr 2 0 [] 0), (8, AV.str x.l), (12, AV.str x.s), (13, AV.int (↑(ByteArray.size x.s) :
  Int)), (14, AV.bool false), (15, AV.str x.s), (16, AV.clo 49 [AV.ptr 4 0 [] 0, AV.ptr 3 0 [] 0, AV.ptr 5 0 [] 0]), (17, AV.str x.l), (18, AV.int x.ln), (19,
  AV.int (IntKind.wrap IntKind.i64 (x.ln + (1 : Int)))), (20, AV.str x.l), (21, AV.int (IntKind.wrap IntKind.i64 (x.ln + (1 : Int)))), (22, AV.clo 28 [AV.ptr 8 0
  [] 0, AV.ptr 9 0 [] 0])])), Obj.row 31 x.toks, Obj.box 31 (AV.agg [AV.int x.k, AV.str x.q, AV.int x.z])])) (∃ (a : ByteArray), ([AV.lit (Value.string
  { data := List.toArray (Lib.trimLeftS (bl x.t) (bl { data := #[OfNat.ofNat 32, OfNat.ofNat 9] })) })], []) = stTk a ∧ sideTk a ∧ brn (Prod.snd (Prod.snd (tk1
  a)) == (0 : Int)) (∃ (a : Int × Int), ([AV.lst 35 [AV.ifc 42 (AV.pim 44 (AV.agg [AV.int (IntKind.wrap IntKind.i64 (x.ln + (1 : Int))), AV.int 160]))]], nilO) =
  ([AV.lst 35 [AV.ifc 42 (AV.pim 44 (AV.agg [AV.int a.1, AV.int a.2]))]], nilO) ∧ True ∧ K Exit.ret (sp 45 [] [Obj.box 24 (AV.slc 11 0 x.toks.length), Obj.box 35
  (AV.ifc 60 (AV.ptr 12 0 [] 0)), Obj.box 3 (AV.int (IntKind.wrap IntKind.i64 (x.ln + (1 : Int)))), Obj.dead, Obj.dead, Obj.dead, Dn.Obj.loop (lpA Tryz.prog 10 7
  LoopState.busy none (spR (junks 58) [(0, AV.str x.s), (2, AV.nil), (3, AV.int 0), (4, AV.int 0), (5, AV.ptr 0 0 [] 0), (6, AV.ptr 1 0 [] 0), (7, AV.ptr 2 0 []
  0), (12, AV.str x.s), (13, AV.int (↑(ByteArray.size x.s) : Int)), (14, AV.bool false), (15, AV.str x.s), (16, AV.clo 49 [AV.ptr 4 0 [] 0, AV.ptr 3 0 [] 0,
  AV.ptr 5 0 [] 0])])), Obj.dead, Obj.box 9 (AV.lit (Value.string
  { data := List.toArray (Lib.trimLeftS (bl x.t) (bl { data := #[OfNat.ofNat 32, OfNat.ofNat 9] })) })), Obj.box 3 (AV.int (IntKind.wrap IntKind.i64 (x.ln + (1 :
  Int)))), Dn.Obj.loop (lpA Tryz.prog 10 10 LoopState.done (some (Code.exit 0)) (spR (junks 58) [(0, AV.str x.s), (2, AV.nil), (3, AV.int 0), (4, AV.int 0), (5,
  AV.ptr 0 0 [] 0), (6, AV.ptr 1 0 [] 0), (7, AV.ptr 2 0 [] 0), (8, AV.str x.l), (12, AV.str x.s), (13, AV.int (↑(ByteArray.size x.s) : Int)), (14, AV.bool
  false), (15, AV.str x.s), (16, AV.clo 49 [AV.ptr 4 0 [] 0, AV.ptr 3 0 [] 0, AV.ptr 5 0 [] 0]), (17, AV.str x.l), (18, AV.int x.ln), (19, AV.int (IntKind.wrap
  IntKind.i64 (x.ln + (1 : Int)))), (20, AV.str x.l), (21, AV.int (IntKind.wrap IntKind.i64 (x.ln + (1 : Int)))), (22, AV.clo 28 [AV.ptr 8 0 [] 0, AV.ptr 9 0 []
  0])])), Obj.row 31 x.toks, Obj.box 62 (AV.agg [AV.slc 13 0 1]), Obj.row 35 [AV.ifc 42 (AV.pim 44 (AV.agg [AV.int a.1, AV.int a.2]))]])) (brn ((↑(x.toks.length)
  : Int) == (300000 : Int)) (∃ (a : Int × Int), ([AV.lst 35 [AV.ifc 42 (AV.pim 44 (AV.agg [AV.int (IntKind.wrap IntKind.i64 (x.ln + (1 : Int))), AV.int 21]))]],
  nilO) = ([AV.lst 35 [AV.ifc 42 (AV.pim 44 (AV.agg [AV.int a.1, AV.int a.2]))]], nilO) ∧ True ∧ K Exit.ret (sp 45 [] [Obj.box 24 (AV.slc 11 0 x.toks.length),
  Obj.box 35 (AV.ifc 60 (AV.ptr 12 0 [] 0)), Obj.box 3 (AV.int (IntKind.wrap IntKind.i64 (x.ln + (1 : Int)))), Obj.dead, Obj.dead, Obj.dead, Dn.Obj.loop (lpA
  Tryz.prog 10 7 LoopState.busy none (spR (junks 58) [(0, AV.str x.s), (2, AV.nil), (3, AV.int 0), (4, AV.int 0), (5, AV.ptr 0 0 [] 0), (6, AV.ptr 1 0 [] 0), (7,
  AV.ptr 2 0 [] 0), (12, AV.str x.s), (13, AV.int (↑(ByteArray.size x.s) : Int)), (14, AV.bool false), (15, AV.str x.s), (16, AV.clo 49 [AV.ptr 4 0 [] 0, AV.ptr
  3 0 [] 0, AV.ptr 5 0 [] 0])])), Obj.dead, Obj.box 9 (AV.lit (Value.string
  { data := List.toArray (Lib.trimLeftS (bl x.t) (bl { data := #[OfNat.ofNat 32, OfNat.ofNat 9] })) })), Obj.box 3 (AV.int (IntKind.wrap IntKind.i64 (x.ln + (1 :
  Int)))), Dn.Obj.loop (lpA Tryz.prog 10 10 LoopState.done (some (Code.exit 0)) (spR (junks 58) [(0, AV.str x.s), (2, AV.nil), (3, AV.int 0), (4, AV.int 0), (5,
  AV.ptr 0 0 [] 0), (6, AV.ptr 1 0 [] 0), (7, AV.ptr 2 0 [] 0), (8, AV.str x.l), (12, AV.str x.s), (13, AV.int (↑(ByteArray.size x.s) : Int)), (14, AV.bool
  false), (15, AV.str x.s), (16, AV.clo 49 [AV.ptr 4 0 [] 0, AV.ptr 3 0 [] 0, AV.ptr 5 0 [] 0]), (17, AV.str x.l), (18, AV.int x.ln), (19, AV.int (IntKind.wrap
  IntKind.i64 (x.ln + (1 : Int)))), (20, AV.str x.l), (21, AV.int (IntKind.wrap IntKind.i64 (x.ln + (1 : Int)))), (22, AV.clo 28 [AV.ptr 8 0 [] 0, AV.ptr 9 0 []
  0])])), Obj.row 31 x.toks, Obj.box 62 (AV.agg [AV.slc 13 0 1]), Obj.row 35 [AV.ifc 42 (AV.pim 44 (AV.agg [AV.int a.1, AV.int a.2]))]])) (cnd (decide
  ((x.toks.length + 1 + 1) * 33 ≤ 70368744177664)) ((cnd (decide ((0 : Int) ≤ Prod.snd (Prod.snd (tk1 a))) && decide (Prod.snd (Prod.snd (tk1 a)) ≤
  (↑(ByteArray.size { data := List.toArray (Lib.trimLeftS (bl x.t) (bl { data := #[OfNat.ofNat 32, OfNat.ofNat 9] })) }) : Int)) && decide ((↑(ByteArray.size
  { data := List.toArray (Lib.trimLeftS (bl x.t) (bl { data := #[OfNat.ofNat 32, OfNat.ofNat 9] })) }) : Int) ≤ (↑(ByteArray.size
  { data := List.toArray (Lib.trimLeftS (bl x.t) (bl { data := #[OfNat.ofNat 32, OfNat.ofNat 9] })) }) : Int))) (∃ (m : Nat), m < n ∧ I m (sp 45 [(0, AV.yld 10),
  (1, AV.ptr 8 0 [] 0), (2, AV.ptr 9 0 [] 0), (4, AV.ptr 12 0 [] 0)] [Obj.box 24 (AV.slc 11 0 (x.toks.length + 1)), Obj.box 35 (AV.lit Value.nilIface), Obj.box 3
  (AV.int (IntKind.wrap IntKind.i64 (x.ln + (1 : Int)))), Obj.dead, Obj.dead, Obj.dead, Dn.Obj.loop (lpA Tryz.prog 10 7 LoopState.busy none (spR (junks 58) [(0,
  AV.str x.s), (2, AV.nil), (3, AV.int 0), (4, AV.int 0), (5, AV.ptr 0 0 [] 0), (6, AV.ptr 1 0 [] 0), (7, AV.ptr 2 0 [] 0), (12, AV.str x.s), (13, AV.int
  (↑(ByteArray.size x.s) : Int)), (14, AV.bool false), (15, AV.str x.s), (16, AV.clo 49 [AV.ptr 4 0 [] 0, AV.ptr 3 0 [] 0, AV.ptr 5 0 [] 0])])), Obj.dead,
  Obj.box 9 (AV.lit (Value.string (ByteArray.extract { data := List.toArray (Lib.trimLeftS (bl x.t) (bl { data := #[OfNat.ofNat 32, OfNat.ofNat 9] })) }
  (Int.toNat (Prod.snd (Prod.snd (tk1 a)))) (Int.toNat (↑(ByteArray.size
  { data := List.toArray (Lib.trimLeftS (bl x.t) (bl { data := #[OfNat.ofNat 32, OfNat.ofNat 9] })) }) : Int))))), Obj.box 3 (AV.int (IntKind.wrap IntKind.i64
  (x.ln + (1 : Int)))), Dn.Obj.loop (lpA Tryz.prog 10 10 LoopState.ready none (spR (junks 58) [(0, AV.str x.s), (2, AV.nil), (3, AV.int 0), (4, AV.int 0), (5,
  AV.ptr 0 0 [] 0), (6, AV.ptr 1 0 [] 0), (7, AV.ptr 2 0 [] 0), (8, AV.str x.l), (12, AV.str x.s), (13, AV.int (↑(ByteArray.size x.s) : Int)), (14, AV.bool
  false), (15, AV.str x.s), (16, AV.clo 49 [AV.ptr 4 0 [] 0, AV.ptr 3 0 [] 0, AV.ptr 5 0 [] 0]), (17, AV.str x.l), (18, AV.int x.ln), (19, AV.lit (Value.int
  IntKind.i64 (IntKind.wrap IntKind.i64 (x.ln + (1 : Int))))), (20, AV.str x.l), (21, AV.lit (Value.int IntKind.i64 (IntKind.wrap IntKind.i64 (x.ln + (1 :
  Int))))), (22, AV.clo 28 [AV.ptr 8 0 [] 0, AV.ptr 9 0 [] 0])])), Obj.row 31 (List.take x.toks.length x.toks ++ [AV.agg [AV.int (Prod.fst (tk1 a)), AV.str
  (Prod.fst (Prod.snd (tk1 a))), AV.lit (Value.int IntKind.i64 (IntKind.wrap IntKind.i64 (x.ln + (1 : Int))))]]), Obj.box 31 (AV.agg [AV.int (Prod.fst (tk1 a)),
  AV.str (Prod.fst (Prod.snd (tk1 a))), AV.lit (Value.int IntKind.i64 (IntKind.wrap IntKind.i64 (x.ln + (1 : Int))))])])) ∧ cnd (decide ((0 : Int) ≤ Prod.snd
  (Prod.snd (tk1 a))) && decide (Prod.snd (Prod.snd (tk1 a)) ≤ (↑(ByteArray.size
  { data := List.toArray (Lib.trimLeftS (bl x.t) (bl { data := #[OfNat.ofNat 32, OfNat.ofNat 9] })) }) : Int)) && decide ((↑(ByteArray.size
  { data := List.toArray (Lib.trimLeftS (bl x.t) (bl { data := #[OfNat.ofNat 32, OfNat.ofNat 9] })) }) : Int) ≤ (↑(ByteArray.size
  { data := List.toArray (Lib.trimLeftS (bl x.t) (bl { data := #[OfNat.ofNat 32, OfNat.ofNat 9] })) }) : Int))) (∃ (m : Nat), m < n ∧ I m (sp 45 [(0, AV.yld 10),
  (1, AV.ptr 8 0 [] 0), (2, AV.ptr 9 0 [] 0), (4, AV.ptr 12 0 [] 0)] [Obj.box 24 (AV.slc 11 0 (x.toks.length + 1)), Obj.box 35 (AV.lit Value.nilIface), Obj.box 3
  (AV.int (IntKind.wrap IntKind.i64 (x.ln + (1 : Int)))), Obj.dead, Obj.dead, Obj.dead, Dn.Obj.loop (lpA Tryz.prog 10 7 LoopState.busy none (spR (junks 58) [(0,
  AV.str x.s), (2, AV.nil), (3, AV.int 0), (4, AV.int 0), (5, AV.ptr 0 0 [] 0), (6, AV.ptr 1 0 [] 0), (7, AV.ptr 2 0 [] 0), (12, AV.str x.s), (13, AV.int
  (↑(ByteArray.size x.s) : Int)), (14, AV.bool false), (15, AV.str x.s), (16, AV.clo 49 [AV.ptr 4 0 [] 0, AV.ptr 3 0 [] 0, AV.ptr 5 0 [] 0])])), Obj.dead,
  Obj.box 9 (AV.lit (Value.string (ByteArray.extract { data := List.toArray (Lib.trimLeftS (bl x.t) (bl { data := #[OfNat.ofNat 32, OfNat.ofNat 9] })) }
  (Int.toNat (Prod.snd (Prod.snd (tk1 a)))) (Int.toNat (↑(ByteArray.size
  { data := List.toArray (Lib.trimLeftS (bl x.t) (bl { data := #[OfNat.ofNat 32, OfNat.ofNat 9] })) }) : Int))))), Obj.box 3 (AV.int (IntKind.wrap IntKind.i64
  (x.ln + (1 : Int)))), Dn.Obj.loop (lpA Tryz.prog 10 10 LoopState.ready none (spR (junks 58) [(0, AV.str x.s), (2, AV.nil), (3, AV.int 0), (4, AV.int 0), (5,
  AV.ptr 0 0 [] 0), (6, AV.ptr 1 0 [] 0), (7, AV.ptr 2 0 [] 0), (8, AV.str x.l), (12, AV.str x.s), (13, AV.int (↑(ByteArray.size x.s) : Int)), (14, AV.bool
  false), (15, AV.str x.s), (16, AV.clo 49 [AV.ptr 4 0 [] 0, AV.ptr 3 0 [] 0, AV.ptr 5 0 [] 0]), (17, AV.str x.l), (18, AV.int x.ln), (19, AV.lit (Value.int
  IntKind.i64 (IntKind.wrap IntKind.i64 (x.ln + (1 : Int))))), (20, AV.str x.l), (21, AV.lit (Value.int IntKind.i64 (IntKind.wrap IntKind.i64 (x.ln + (1 :
  Int))))), (22, AV.clo 28 [AV.ptr 8 0 [] 0, AV.ptr 9 0 [] 0])])), Obj.row 31 (List.take x.toks.length x.toks ++ [AV.agg [AV.int (Prod.fst (tk1 a)), AV.str
  (Prod.fst (Prod.snd (tk1 a))), AV.lit (Value.int IntKind.i64 (IntKind.wrap IntKind.i64 (x.ln + (1 : Int))))]]), Obj.box 31 (AV.agg [AV.int (Prod.fst (tk1 a)),
  AV.str (Prod.fst (Prod.snd (tk1 a))), AV.lit (Value.int IntKind.i64 (IntKind.wrap IntKind.i64 (x.ln + (1 : Int))))])]))) ∧ cnd (decide ((0 : Int) ≤ Prod.snd
  (Prod.snd (tk1 a))) && decide (Prod.snd (Prod.snd (tk1 a)) ≤ (↑(ByteArray.size
  { data := List.toArray (Lib.trimLeftS (bl x.t) (bl { data := #[OfNat.ofNat 32, OfNat.ofNat 9] })) }) : Int)) && decide ((↑(ByteArray.size
  { data := List.toArray (Lib.trimLeftS (bl x.t) (bl { data := #[OfNat.ofNat 32, OfNat.ofNat 9] })) }) : Int) ≤ (↑(ByteArray.size
  { data := List.toArray (Lib.trimLeftS (bl x.t) (bl { data := #[OfNat.ofNat 32, OfNat.ofNat 9] })) }) : Int))) (∃ (m : Nat), m < n ∧ I m (sp 45 [(0, AV.yld 10),
  (1, AV.ptr 8 0 [] 0), (2, AV.ptr 9 0 [] 0), (4, AV.ptr 12 0 [] 0)] [Obj.box 24 (AV.slc 11 0 (x.toks.length + 1)), Obj.box 35 (AV.lit Value.nilIface), Obj.box 3
  (AV.int (IntKind.wrap IntKind.i64 (x.ln + (1 : Int)))), Obj.dead, Obj.dead, Obj.dead, Dn.Obj.loop (lpA Tryz.prog 10 7 LoopState.busy none (spR (junks 58) [(0,
  AV.str x.s), (2, AV.nil), (3, AV.int 0), (4, AV.int 0), (5, AV.ptr 0 0 [] 0), (6, AV.ptr 1 0 [] 0), (7, AV.ptr 2 0 [] 0), (12, AV.str x.s), (13, AV.int
  (↑(ByteArray.size x.s) : Int)), (14, AV.bool false), (15, AV.str x.s), (16, AV.clo 49 [AV.ptr 4 0 [] 0, AV.ptr 3 0 [] 0, AV.ptr 5 0 [] 0])])), Obj.dead,
  Obj.box 9 (AV.lit (Value.string (ByteArray.extract { data := List.toArray (Lib.trimLeftS (bl x.t) (bl { data := #[OfNat.ofNat 32, OfNat.ofNat 9] })) }
  (Int.toNat (Prod.snd (Prod.snd (tk1 a)))) (Int.toNat (↑(ByteArray.size
  { data := List.toArray (Lib.trimLeftS (bl x.t) (bl { data := #[OfNat.ofNat 32, OfNat.ofNat 9] })) }) : Int))))), Obj.box 3 (AV.int (IntKind.wrap IntKind.i64
  (x.ln + (1 : Int)))), Dn.Obj.loop (lpA Tryz.prog 10 10 LoopState.ready none (spR (junks 58) [(0, AV.str x.s), (2, AV.nil), (3, AV.int 0), (4, AV.int 0), (5,
  AV.ptr 0 0 [] 0), (6, AV.ptr 1 0 [] 0), (7, AV.ptr 2 0 [] 0), (8, AV.str x.l), (12, AV.str x.s), (13, AV.int (↑(ByteArray.size x.s) : Int)), (14, AV.bool
  false), (15, AV.str x.s), (16, AV.clo 49 [AV.ptr 4 0 [] 0, AV.ptr 3 0 [] 0, AV.ptr 5 0 [] 0]), (17, AV.str x.l), (18, AV.int x.ln), (19, AV.lit (Value.int
  IntKind.i64 (IntKind.wrap IntKind.i64 (x.ln + (1 : Int))))), (20, AV.str x.l), (21, AV.lit (Value.int IntKind.i64 (IntKind.wrap IntKind.i64 (x.ln + (1 :
  Int))))), (22, AV.clo 28 [AV.ptr 8 0 [] 0, AV.ptr 9 0 [] 0])])), Obj.row 31 (List.take x.toks.length x.toks ++ [AV.agg [AV.int (Prod.fst (tk1 a)), AV.str
  (Prod.fst (Prod.snd (tk1 a))), AV.lit (Value.int IntKind.i64 (IntKind.wrap IntKind.i64 (x.ln + (1 : Int))))]]), Obj.box 31 (AV.agg [AV.int (Prod.fst (tk1 a)),
  AV.str (Prod.fst (Prod.snd (tk1 a))), AV.lit (Value.int IntKind.i64 (IntKind.wrap IntKind.i64 (x.ln + (1 : Int))))])])))))))) := by kernel_rfl
def wsB : ByteArray := ⟨#[32, 9]⟩
def slB : ByteArray := ⟨#[47, 47]⟩
def trB (t : ByteArray) : ByteArray := ⟨(Lib.trimLeftS (bl t) (bl wsB)).toArray⟩
abbrev TK : Type := Int × ByteArray × Int
abbrev avT (x : TK) : AV := tkA x.1 x.2.1 x.2.2
def lnF (l1 : Int) : Nat → ByteArray → List TK → TK → List TK × TK × Option Int
  | 0, _, acc, last => (acc, last, none)
  | k + 1, t, acc, last =>
    bif (trB t).toList == (ByteArray.mk #[]).toList then (acc, last, none)
    else bif hasP (trB t) slB then (acc, last, none)
    else bif (tk1 (trB t)).2.2 == 0 then (acc, last, some 160)
    else bif ((acc.length : Nat) : Int) == 300000 then (acc, last, some 21)
    else lnF l1 k ((trB t).extract (tk1 (trB t)).2.2.toNat (trB t).size) (acc ++ [((tk1 (trB t)).1, (tk1 (trB t)).2.1, l1)]) ((tk1 (trB t)).1, (tk1 (trB t)).2.1, l1)
theorem trim_le (l : List UInt8) (c : List UInt8) : (Lib.trimLeftS l c).length ≤ l.length := by
  unfold Lib.trimLeftS
  induction l with
  | nil => exact Nat.le_refl _
  | cons b l ih =>
    rw [List.dropWhile_cons]
    split
    · exact Nat.le_succ_of_le ih
    · exact Nat.le_refl _
theorem trB_le (t : ByteArray) : (trB t).size ≤ t.size := by
  have := trim_le (bl t) (bl wsB)
  rw [bl_len] at this
  exact this
theorem tk1_rng {s : ByteArray} (h0 : 0 < s.size) : 0 ≤ (tk1 s).2.2 ∧ (tk1 s).2.2 ≤ s.size := by
  have hw : wdN s ≤ s.size := by rw [← bl_len]; exact wrdL_le _
  have hq : qtN s ≤ s.size := by
    have := quoL_le _ (List.drop 1 (bl s)) 1 (Nat.le_refl _)
    rw [List.length_drop, bl_len] at this
    unfold qtN
    omega
  have hg := sgn_rng h0
  unfold tk1
  generalize isLe (byteAt s 0 : Nat) = b1
  generalize isDi (byteAt s 0 : Nat) = b2
  generalize (((byteAt s 0 : Nat) : Int) == 34) = b3
  generalize decide ((wdN s : Int) > 40) = b4
  generalize numB (s.extract 0 (wdN s)) = b5
  generalize hasP (s.extract (wdN s) s.size) dotB = b6
  generalize (uqE (s.extract 0 (qtN s)) != 0) = b7
  cases b1 with
  | true => cases b4 <;> simp only [cond_true, cond_false] <;> omega
  | false =>
  cases b2 with
  | true => cases b5 <;> cases b6 <;> simp only [cond_true, cond_false] <;> omega
  | false =>
  cases b3 with
  | true => cases b7 <;> simp only [cond_true, cond_false] <;> omega
  | false => simp only [cond_false]; omega
end Go.Proofs.YtbppdpbagmbmpaaGreatDoor
