import Derived.Test.YtdpmikfheebicaaGreatDoorDqMA
import Derived.Test.YtdpmikfheebicaaGreatDoorDqM2
import Derived.Test.YtdpmikfheebicaaGreatDoorDoG
import Derived.Test.YtdpmikfheebicaaGreatDoorRows
import Derived.ProofKit
import Derived.Deep.DeepHandedRow
import Derived.Stop.LaidTwo
import Derived.LaidHandle
namespace Go.Proofs.YtdpmikfheebicaaGreatDoor
open Go Go.Dn Go.Rl Go.Proofs
attribute [local irreducible] bh vc
set_option maxRecDepth 20000
theorem WI (κ : Kp) (ds rs : List AV) (a b c : Int) (K : AV → List Dn.Obj → Prop) : (bh (PQ κ) 12 7 [iK ds rs, .int a, .int b, .int c] [] K) = (
 letI z1 := K (AV.bool true) []
 letI z2 := K (AV.bool false) []
 letI z3 := (0 : Int)
 bg (decide (ds.length ≤ 9223372036854775807) && List.all ds fun (d : AV) => decide (List.length (ai (ad d 1)) ≤ 9223372036854775807)) (aD ((bif iL ds rs then (1
 : Int) else z3) == z3) z1 (∃ (a_1 : AQ), ([AV.agg [AV.ae 62 ds, AV.ae 41 rs], AV.int a, AV.int b], aF) = ([AV.agg [AV.ae 62 a_1.ds, AV.ae 41 a_1.rs], AV.int
 a_1.a, AV.int a_1.b], aF) ∧ (a_1.ds.length ≤ 9223372036854775807 ∧ a_1.rs.length ≤ 9223372036854775807 ∧ ∀ (x : AV), List.Mem x a_1.rs → aX (aa (aV 52 (bQ.hl
 (eF x)) (bQ.bl (eF x)))) ≤ 100000 ∧ List.length (bQ.bl (eF x)) ≤ 100000) ∧ ∃ (a_2 : AQ), ([AV.agg [AV.ae 62 ds, AV.ae 41 rs], AV.int b, AV.int a], aF) =
 ([AV.agg [AV.ae 62 a_2.ds, AV.ae 41 a_2.rs], AV.int a_2.a, AV.int a_2.b], aF) ∧ (a_2.ds.length ≤ 9223372036854775807 ∧ a_2.rs.length ≤ 9223372036854775807 ∧ ∀
 (x : AV), List.Mem x a_2.rs → aX (aa (aV 52 (bQ.hl (eF x)) (bQ.bl (eF x)))) ≤ 100000 ∧ List.length (bQ.bl (eF x)) ≤ 100000) ∧ ∃ (a_3 : AQ), ([AV.agg [AV.ae 62
 ds, AV.ae 41 rs], AV.int b, AV.int c], aF) = ([AV.agg [AV.ae 62 a_3.ds, AV.ae 41 a_3.rs], AV.int a_3.a, AV.int a_3.b], aF) ∧ (a_3.ds.length ≤
 9223372036854775807 ∧ a_3.rs.length ≤ 9223372036854775807 ∧ ∀ (x : AV), List.Mem x a_3.rs → aX (aa (aV 52 (bQ.hl (eF x)) (bQ.bl (eF x)))) ≤ 100000 ∧ List.length
 (bQ.bl (eF x)) ≤ 100000) ∧ ∃ (a_4 : AQ), ([AV.agg [AV.ae 62 ds, AV.ae 41 rs], AV.int a, AV.int c], aF) = ([AV.agg [AV.ae 62 a_4.ds, AV.ae 41 a_4.rs], AV.int
 a_4.a, AV.int a_4.b], aF) ∧ (a_4.ds.length ≤ 9223372036854775807 ∧ a_4.rs.length ≤ 9223372036854775807 ∧ ∀ (x : AV), List.Mem x a_4.rs → aX (aa (aV 52 (bQ.hl
 (eF x)) (bQ.bl (eF x)))) ≤ 100000 ∧ List.length (bQ.bl (eF x)) ≤ 100000) ∧ ∃ (a_5 : AQ), ([AV.agg [AV.ae 62 ds, AV.ae 41 rs], AV.int a, AV.int a], aF) =
 ([AV.agg [AV.ae 62 a_5.ds, AV.ae 41 a_5.rs], AV.int a_5.a, AV.int a_5.b], aF) ∧ (a_5.ds.length ≤ 9223372036854775807 ∧ a_5.rs.length ≤ 9223372036854775807 ∧ ∀
 (x : AV), List.Mem x a_5.rs → aX (aa (aV 52 (bQ.hl (eF x)) (bQ.bl (eF x)))) ≤ 100000 ∧ List.length (bQ.bl (eF x)) ≤ 100000) ∧ aD (lE a_1.ds a_1.rs a_1.a a_1.b
 != lE a_2.ds a_2.rs a_2.a a_2.b) z2 (aD (iR a_1.ds a_1.rs a_1.a a_1.b == iR a_2.ds a_2.rs a_2.a a_2.b) (aD (!iR a_1.ds a_1.rs a_1.a a_1.b) (aD (lE a_5.ds a_5.rs
 a_5.a a_5.b != z3) (aD (lE a_3.ds a_3.rs a_3.a a_3.b == z3) (aD (lE a_4.ds a_4.rs a_4.a a_4.b == z3) z1 (K (AV.lit (Value.bool !iR a_4.ds a_4.rs a_4.a a_4.b))
 [])) (aD (!iR a_3.ds a_3.rs a_3.a a_3.b) (aD (lE a_4.ds a_4.rs a_4.a a_4.b == z3) z1 (K (AV.lit (Value.bool !iR a_4.ds a_4.rs a_4.a a_4.b)) [])) z2)) (aD (iR
 a_5.ds a_5.rs a_5.a a_5.b) (aD (lE a_3.ds a_3.rs a_3.a a_3.b == z3) (aD (lE a_4.ds a_4.rs a_4.a a_4.b == z3) z1 (K (AV.lit (Value.bool !iR a_4.ds a_4.rs a_4.a
 a_4.b)) [])) (aD (!iR a_3.ds a_3.rs a_3.a a_3.b) (aD (lE a_4.ds a_4.rs a_4.a a_4.b == z3) z1 (K (AV.lit (Value.bool !iR a_4.ds a_4.rs a_4.a a_4.b)) [])) z2))
 z2)) (aD (!iR a_3.ds a_3.rs a_3.a a_3.b) (aD (lE a_5.ds a_5.rs a_5.a a_5.b != z3) (aD (lE a_3.ds a_3.rs a_3.a a_3.b == z3) (aD (lE a_4.ds a_4.rs a_4.a a_4.b ==
 z3) z1 (K (AV.lit (Value.bool !iR a_4.ds a_4.rs a_4.a a_4.b)) [])) (aD (!iR a_3.ds a_3.rs a_3.a a_3.b) (aD (lE a_4.ds a_4.rs a_4.a a_4.b == z3) z1 (K (AV.lit
 (Value.bool !iR a_4.ds a_4.rs a_4.a a_4.b)) [])) z2)) (aD (iR a_5.ds a_5.rs a_5.a a_5.b) (aD (lE a_3.ds a_3.rs a_3.a a_3.b == z3) (aD (lE a_4.ds a_4.rs a_4.a
 a_4.b == z3) z1 (K (AV.lit (Value.bool !iR a_4.ds a_4.rs a_4.a a_4.b)) [])) (aD (!iR a_3.ds a_3.rs a_3.a a_3.b) (aD (lE a_4.ds a_4.rs a_4.a a_4.b == z3) z1 (K
 (AV.lit (Value.bool !iR a_4.ds a_4.rs a_4.a a_4.b)) [])) z2)) z2)) (aD (iR a_4.ds a_4.rs a_4.a a_4.b) (aD (lE a_5.ds a_5.rs a_5.a a_5.b != z3) (aD (lE a_3.ds
 a_3.rs a_3.a a_3.b == z3) (aD (lE a_4.ds a_4.rs a_4.a a_4.b == z3) z1 (K (AV.lit (Value.bool !iR a_4.ds a_4.rs a_4.a a_4.b)) [])) (aD (!iR a_3.ds a_3.rs a_3.a
 a_3.b) (aD (lE a_4.ds a_4.rs a_4.a a_4.b == z3) z1 (K (AV.lit (Value.bool !iR a_4.ds a_4.rs a_4.a a_4.b)) [])) z2)) (aD (iR a_5.ds a_5.rs a_5.a a_5.b) (aD (lE
 a_3.ds a_3.rs a_3.a a_3.b == z3) (aD (lE a_4.ds a_4.rs a_4.a a_4.b == z3) z1 (K (AV.lit (Value.bool !iR a_4.ds a_4.rs a_4.a a_4.b)) [])) (aD (!iR a_3.ds a_3.rs
 a_3.a a_3.b) (aD (lE a_4.ds a_4.rs a_4.a a_4.b == z3) z1 (K (AV.lit (Value.bool !iR a_4.ds a_4.rs a_4.a a_4.b)) [])) z2)) z2)) z2))) z2)))) := by kernel_rfl
theorem OQ (κ : Kp) (ds rs : List AV) (a b c : Int) (h1 : ds.length ≤ aL) (h2 : ∀ d, d ∈ ds → (ai (ad d 1)).length ≤ aL) : dF (Pr κ) 7 [iK ds rs, .int a, .int b, .int c] [] (fun r _ => r = .bool true) := by
 refine jf (T6 κ) (Vc κ) (N := 12) ?_
 refine Eq.mpr (WI κ ds rs a b c _) (GX h1 h2 rfl fun hs => ?_)
 have hp := yu hs
 refine ⟨⟨ds, rs, a, b⟩, rfl, hp, ⟨ds, rs, b, a⟩, rfl, hp, ⟨ds, rs, b, c⟩, rfl, hp, ⟨ds, rs, a, c⟩, rfl, hp, ⟨ds, rs, a, a⟩, rfl, hp, ?_⟩
 simp only
 rw [GR ds rs b a, IC ds rs b a]
 have ht : iR ds rs a b = true → iR ds rs b c = true → iR ds rs a c = true := Fm
 have hr : lE ds rs a a = 0 → iR ds rs a a = true := Gc
 have hz : ∀ x y, lE ds rs x y ≠ 0 → iR ds rs x y = false := fun x y h => by
  unfold lE at h
  unfold iR
  rw [aa4 h]; rfl
 have z1 : (lE ds rs b c == 0) = false → iR ds rs b c = false := fun h => hz b c (by simpa using h)
 have z2 : (lE ds rs a c == 0) = false → iR ds rs a c = false := fun h => hz a c (by simpa using h)
 have z3 : (lE ds rs a a != 0) = false → iR ds rs a a = true := fun h => hr (by simpa using h)
 rw [bne_self_eq_false, beq_self_eq_true]
 clear hz hr hp hs
 generalize (lE ds rs b c == 0) = e3 at *
 generalize (lE ds rs a c == 0) = e4 at *
 generalize (lE ds rs a a != 0) = e5 at *
 generalize iR ds rs a b = m1 at *
 generalize iR ds rs b c = m3 at *
 generalize iR ds rs a c = m4 at *
 generalize iR ds rs a a = m5 at *
 cases m1 <;> cases m3 <;> cases m4 <;> cases e3 <;> cases e4 <;> cases e5 <;> cases m5 <;> first | exact rfl | trivial | (exact absurd (ht rfl rfl) (by decide)) | (exact absurd (z1 rfl) (by decide)) | (exact absurd (z2 rfl) (by decide)) | (exact absurd (z3 rfl) (by decide))
end Go.Proofs.YtdpmikfheebicaaGreatDoor
namespace Go.Proofs.YtdpmikfheebicaaGreatDoor
open Go Go.Dn Go.Rl Go.Proofs Go.ChangeShapes Go.WideShapes Go.ChangeAt Go.RowKit
theorem own : ownKnob Tryz.prog.godebug = none := by kernel_rfl
theorem Hw : laidOutB Tryz.prog = true := by kernel_rfl
abbrev FC : List (String × DataW Unit) := [("sorites/dtree.errTree", Rows.laid_sorites_dtree_errTree), ("sorites/dtype.errNoRel", Rows.laid_sorites_dtype_errNoRel), ("sorites/dtype.errArity", Rows.laid_sorites_dtype_errArity), ("sorites/dtype.errType", Rows.laid_sorites_dtype_errType), ("sorites/dsafe.errStuck", Rows.laid_sorites_dsafe_errStuck)]
theorem K4 : Tryz.prog.globalNamed "sorites/dtree.errTree" = some 1 := by kernel_rfl
theorem Ah : Tryz.prog.globalNamed "sorites/dtype.errNoRel" = some 3 := by kernel_rfl
theorem Av : Tryz.prog.globalNamed "sorites/dtype.errArity" = some 4 := by kernel_rfl
theorem GW : Tryz.prog.globalNamed "sorites/dtype.errType" = some 2 := by kernel_rfl
theorem Hp : Tryz.prog.globalNamed "sorites/dsafe.errStuck" = some 0 := by kernel_rfl
theorem L4 : (Tryz.prog.globals[1]?).map (·.type) = some 88 := by kernel_rfl
theorem CI : (Tryz.prog.globals[3]?).map (·.type) = some 88 := by kernel_rfl
theorem CR : (Tryz.prog.globals[4]?).map (·.type) = some 88 := by kernel_rfl
theorem HM : (Tryz.prog.globals[2]?).map (·.type) = some 88 := by kernel_rfl
theorem Kq : (Tryz.prog.globals[0]?).map (·.type) = some 88 := by kernel_rfl
theorem yd : Tryz.prog.cellsOf 215 = 1 := by kernel_rfl
theorem wT : Tryz.prog.cellsOf 9 = 1 := by kernel_rfl
theorem K0 : "*" ++ "errors.errorString" = "*errors.errorString" := by decide
theorem JT (u : TypeId) (h : Tryz.prog.typeName? 3 u = some "*errors.errorString") : u = 189 :=
 typeName_ptr_named (nm := "errors.errorString") (by rw [K0]; kernel_rfl) (by kernel_rfl) (by decide) u (by rw [K0]; exact h)
theorem kI {P : Program} {w : World} {n : String} {g : Nat} {cs : Array Value} (hg : P.globalNamed n = some g) (h : w.var? P n = some cs) : ∃ T z, w.heap[g]? = some (.cells cs T z) := by
 simp only [World.var?, hg, Option.bind_some] at h
 split at h
 ·rename_i cs' T z e
  cases h
  exact ⟨T, z, e⟩
 ·cases h
theorem mD {W : World} {a : Addr} {s : ByteArray} {g : Nat} {v : Value} {T : TypeId} {z : Nat × Nat} (h : W.cell? a = some (.string s)) (hv : ∀ t, v ≠ .string t) (hg : W.heap[g]? = some (.cells #[v] T z)) : a.block ≠ g := by
 intro e
 unfold World.cell? at h
 rw [e, hg] at h
 simp only at h
 split at h
 ·cases h
 ·obtain ⟨h1, h2⟩ := Array.getElem?_eq_some_iff.1 h
  have : a.off = 0 := by simp at h1; omega
  simp only [this] at h2
  exact hv s h2
theorem wk {W : World} (h : laidMetH Tryz.prog FC W) : ∃ κ : Kp, ∀ b o, vB κ b = some o → W.heap[b]? = some o := by
 have h' : laidMet Tryz.prog FC W := h
 obtain ⟨aT, aN, sT, sN, cT, cN, tT, tN, vT, vN, kT, xT, _, kN, xN, _, dTN, bT, bN⟩ := laid_sentinels2 h' K4 L4 Ah CI Tryz.underlying88 JT Tryz.underlying189 Tryz.underlying215 rfl rfl Tryz.underlying9 yd wT
 obtain ⟨aN', aA, sN', sA, cN', cA, tN', tA, vN', vA, kN', _, _, kA, xA, _, dNA, _, bA⟩ := laid_sentinels2 h'.tail Ah CI Av CR Tryz.underlying88 JT Tryz.underlying189 Tryz.underlying215 rfl rfl Tryz.underlying9 yd wT
 obtain ⟨aA', aY, sA', sY, cA', cY, tA', tY, vA', vY, kA', _, _, kY, xY, _, dAY, _, bY⟩ := laid_sentinels2 h'.tail.tail Av CR GW HM Tryz.underlying88 JT Tryz.underlying189 Tryz.underlying215 rfl rfl Tryz.underlying9 yd wT
 obtain ⟨aY', aS, sY', sS, cY', cS, tY', tS, vY', vS, kY', _, _, kS, xS, _, dYS, _, bS⟩ := laid_sentinels2 h'.tail.tail.tail GW HM Hp Kq Tryz.underlying88 JT Tryz.underlying189 Tryz.underlying215 rfl rfl Tryz.underlying9 yd wT
 have eN : aN' = aN := by
  rw [vN] at vN'
  simpa using vN'.symm
 have eA : aA' = aA := by
  rw [vA] at vA'
  simpa using vA'.symm
 subst eN
 subst eA
 have dNY : aN' ≠ aY := fun e => by
  subst e
  rw [kN] at kY
  cases kY
  rw [xN] at xY
  revert xY
  decide
 obtain ⟨T1, z1, e1⟩ := kI K4 vT
 obtain ⟨T2, z2, e2⟩ := kI Hp vS
 obtain ⟨T3, z3, e3⟩ := kI Ah vN
 obtain ⟨T4, z4, e4⟩ := kI Av vA
 obtain ⟨T5, z5, e5⟩ := kI GW vY
 have nn : ∀ {a : Addr} {s : ByteArray}, W.cell? a = some (.string s) → ∀ g, g ∈ [1, 0, 3, 4, 2] → a.block ≠ g := fun hk g hg => by
  simp only [ac1, List.not_mem_nil, or_false] at hg
  rcases hg with rfl | rfl | rfl | rfl | rfl
  ·exact mD hk (fun _ => by simp) e1
  ·exact mD hk (fun _ => by simp) e2
  ·exact mD hk (fun _ => by simp) e3
  ·exact mD hk (fun _ => by simp) e4
  ·exact mD hk (fun _ => by simp) e5
 refine ⟨{ tree := aT, stuck := aS, T1 := T1, T2 := T2, z1 := z1, z2 := z2, eC := aN', arity := aA', type := aY, T3 := T3, T4 := T4, T5 := T5, z3 := z3, z4 := z4, z5 := z5, c3 := cN, c4 := cA, c5 := cY, t3 := tN, t4 := tA, t5 := tY, d1 := dNA, d2 := dNY, d3 := dAY, n3 := nn kN, n4 := nn kA, n5 := nn kY }, fun b o hb => ?_⟩
 unfold vB at hb
 cases q0 : Nat.beq b 1 with
 | true =>
  rw [q0, aa7] at hb
  cases hb
  rw [Nat.eq_of_beq_eq_true q0]; exact e1
 | false =>
  rw [q0, aa5] at hb
  cases q1 : Nat.beq b 0 with
  | true =>
   rw [q1, aa7] at hb
   cases hb
   rw [Nat.eq_of_beq_eq_true q1]; exact e2
  | false =>
   rw [q1, aa5] at hb
   cases q2 : Nat.beq b 3 with
   | true =>
    rw [q2, aa7] at hb
    cases hb
    rw [Nat.eq_of_beq_eq_true q2]; exact e3
   | false =>
    rw [q2, aa5] at hb
    cases q3 : Nat.beq b 4 with
    | true =>
     rw [q3, aa7] at hb
     cases hb
     rw [Nat.eq_of_beq_eq_true q3]; exact e4
    | false =>
     rw [q3, aa5] at hb
     cases q4 : Nat.beq b 2 with
     | true =>
      rw [q4, aa7] at hb
      cases hb
      rw [Nat.eq_of_beq_eq_true q4]; exact e5
     | false =>
      rw [q4, aa5] at hb
      cases q5 : Nat.beq b aN'.block with
      | true =>
       rw [q5, aa7] at hb
       cases hb
       rw [Nat.eq_of_beq_eq_true q5]; exact bN
      | false =>
       rw [q5, aa5] at hb
       cases q6 : Nat.beq b aA'.block with
       | true =>
        rw [q6, aa7] at hb
        cases hb
        rw [Nat.eq_of_beq_eq_true q6]; exact bA
       | false =>
        rw [q6, aa5] at hb
        cases q7 : Nat.beq b aY.block with
        | true =>
         rw [q7, aa7] at hb
         cases hb
         rw [Nat.eq_of_beq_eq_true q7]; exact bY
        | false =>
         rw [q7, aa5] at hb
         cases hb
abbrev Pc : ByteArray := { data := #[110, 111, 32, 116, 114, 101, 101] }
abbrev ME : ByteArray := { data := #[110, 111, 32, 114, 101, 108, 97, 116, 105, 111, 110] }
abbrev Ms : ByteArray := { data := #[97, 110, 111, 116, 104, 101, 114, 32, 110, 117, 109, 98, 101, 114, 32, 111, 102, 32, 99, 111, 108, 117, 109, 110, 115] }
abbrev OV : ByteArray := { data := #[97, 110, 111, 116, 104, 101, 114, 32, 116, 121, 112, 101] }
abbrev L7 : ByteArray := { data := #[110, 111, 32, 112, 97, 114, 116, 32, 105, 115, 32, 114, 101, 97, 100, 121] }
noncomputable def low : Nat := (World.holding Tryz.prog default ⟨#[], #[], []⟩).heap.size
def HE (n : Nat) (h : Array Go.Obj) (g : Nat) : Array Go.Obj := h.modify g fun
 | .cells _ t frozen => .cells #[.iface 189 (.pointer (some ⟨n, 0, none⟩))] t frozen
 | o => o
noncomputable def vo (os : Os) : World :=
 let w0 := World.holding Tryz.prog os ⟨#[.cells #[.string Pc] 215, .cells #[.string ME] 215, .cells #[.string Ms] 215, .cells #[.string OV] 215, .cells #[.string L7] 215], #[], []⟩
 {w0 with heap := (HE (low + 4) (HE (low + 3) (HE (low + 2) (HE (low + 1) (HE (low + 0) w0.heap 1) 3) 4) 2) 0) }
theorem FR (os : Os) (args : Array Value) : laidMetH Tryz.prog FC ((vo os).forCall (fun _ _ => 0) ⟨#[], args, []⟩).memory :=
 laidMetH_of_parts (laidMet_of_run (ps := [.cell 1 0, .cell (low + 0) 0, .cell 3 0, .cell (low + 1) 0, .cell 4 0, .cell (low + 2) 0, .cell 2 0, .cell (low + 3) 0, .cell 0 0, .cell (low + 4) 0]) 8 (by kernel_rfl) (by kernel_rfl) (by kernel_rfl)) (by kernel_rfl)
end Go.Proofs.YtdpmikfheebicaaGreatDoor
