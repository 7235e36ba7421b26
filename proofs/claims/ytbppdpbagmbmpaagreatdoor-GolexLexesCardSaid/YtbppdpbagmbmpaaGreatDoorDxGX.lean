import Derived.Test.YtbppdpbagmbmpaaGreatDoorDxGA
import Derived.Test.YtbppdpbagmbmpaaGreatDoorDoG
import Derived.Test.YtbppdpbagmbmpaaGreatDoorRows
import Derived.ProofKit
import Derived.Deep.DeepHandedRow
import Derived.Stop.LaidTwo
import Derived.LaidHandle
import Derived.LaidSub
import Derived.Stop.LaidErr
import Derived.Lib.LaidU8
import Derived.OpenShut
import Derived.Lay
namespace Go.Proofs.YtbppdpbagmbmpaaGreatDoor
open Go Go.Dn Go.Proofs Go.ChangeShapes Go.WideShapes Go.ChangeAt Go.RowKit Go.Lib
theorem own : ownKnob Tryz.prog.godebug = none := by kernel_rfl
theorem laid_out : laidOutB Tryz.prog = true := by kernel_rfl
abbrev laidL : List (String × DataW Unit) := Rows.golexEndsRow.laid
abbrev laidD : List (String × DataW Unit) := laidL.filter fun x => x.2.handleName?.isNone
theorem var_block {P : Program} {w : World} {n : String} {g : Nat} {cs : Array Value} (hg : P.globalNamed n = some g) (h : w.var? P n = some cs) : ∃ T z, w.heap[g]? = some (.cells cs T z) := by
  simp only [World.var?, hg, Option.bind_some] at h
  split at h
  · rename_i cs' T z e
    cases h
    exact ⟨T, z, e⟩
  · cases h
theorem arr_cells {H : Type} {enc : TypeId × Value → H} {P : Program} {w : World} {base : Nat} {sp : Nat → Bool} {held : Bool} {fuel : Nat} {t e : TypeId} {n : Nat} {k : IntKind} {cs : List Value} {zs : List Int} {p : List MemPlace} (ht : P.underlying t = some (.array n e))
    (he : P.underlying e = some (.int k)) (hc : P.cellsOf e = 1) (hct : P.cellsOf t = n) (h : DataW.trod enc P w base sp held fuel t cs = some (.agg (zs.map fun z => .lit (.int k z)), p)) : cs = zs.map fun z => Value.int k z := by
  obtain ⟨xs, m, _, ex, hl, hxl, hel⟩ := DataW.trod_array ht h
  have hz : (xs.map (·.1)) = zs.map fun z => (DataW.lit (.int k z) : DataW H) := (DataW.agg.inj (Prod.mk.inj ex).1).symm
  have hzl : zs.length = n := by have := congrArg List.length hz; simpa [hxl] using this.symm
  apply List.ext_getElem?
  intro i
  by_cases hi : i < n
  · have h1 := hel i hi
    rw [hc, Nat.mul_one, List.getElem?_eq_getElem (by omega : i < xs.length)] at h1
    obtain ⟨z, e1, e2, _⟩ := DataW.trod_int he h1
    have e3 : (xs.map (·.1))[i]? = (zs.map fun z => (DataW.lit (.int k z) : DataW H))[i]? := by rw [hz]
    rw [List.getElem?_map, List.getElem?_map, List.getElem?_eq_getElem (by omega : i < xs.length), List.getElem?_eq_getElem (by omega : i < zs.length), e2] at e3
    have e4 : z = zs[i] := by simpa using e3
    have e5 : ((cs.drop i).take 1)[0]? = some (.int k z) := by rw [e1]; rfl
    rw [List.getElem?_map, List.getElem?_eq_getElem (by omega : i < zs.length), Option.map_some, ← e4]
    simpa using e5
  · rw [List.getElem?_eq_none (by omega), List.getElem?_eq_none (by simp; omega)]
theorem starE : "*" ++ "errors.errorString" = "*errors.errorString" := by decide
theorem rowE (u : TypeId) (h : Tryz.prog.typeName? 3 u = some "*errors.errorString") : u = 179 :=
  typeName_ptr_named (nm := "errors.errorString") (by rw [starE]; kernel_rfl) (by kernel_rfl) (by decide) u (by rw [starE]; exact h)
theorem cellsE : Tryz.prog.cellsOf 181 = 1 := by kernel_rfl
theorem cellsS : Tryz.prog.cellsOf 9 = 1 := by kernel_rfl
theorem gForm : Tryz.prog.globalNamed "sorites/text.errForm" = some 2 := by kernel_rfl
theorem gSyn : Tryz.prog.globalNamed "strconv.ErrSyntax" = some 7 := by kernel_rfl
theorem gRng : Tryz.prog.globalNamed "strconv.ErrRange" = some 8 := by kernel_rfl
theorem gSpc : Tryz.prog.globalNamed "strings.asciiSpace" = some 1 := by kernel_rfl
theorem gPow : Tryz.prog.globalNamed "internal/strconv.uint64pow10" = some 9 := by kernel_rfl
theorem gEty : Tryz.prog.globalNamed "errors.errorType" = some 0 := by kernel_rfl
abbrev spaceZ : List Int := (List.range 256).map fun c => if c == 32 || (9 ≤ c && c ≤ 13) then 1 else 0
theorem spc_data : ("strings.asciiSpace", (.agg (spaceZ.map fun z => .lit (.int .u8 z)) : DataW Unit)) ∈ laidD := by
  have h : laidD[7]? = some ("strings.asciiSpace", (.agg (spaceZ.map fun z => .lit (.int .u8 z)) : DataW Unit)) := by kernel_rfl
  exact List.mem_of_getElem? h
theorem pow_data : ("internal/strconv.uint64pow10", (.agg (Lib.pow10Tab.map fun z => .lit (.int .u64 z)) : DataW Unit)) ∈ laidD := by
  have h : laidD[2]? = some ("internal/strconv.uint64pow10", (.agg (Lib.pow10Tab.map fun z => .lit (.int .u64 z)) : DataW Unit)) := by kernel_rfl
  exact List.mem_of_getElem? h
theorem gFormT : (Tryz.prog.globals[2]?).map (·.type) = some 35 := by kernel_rfl
theorem gSynT : (Tryz.prog.globals[7]?).map (·.type) = some 35 := by kernel_rfl
theorem gRngT : (Tryz.prog.globals[8]?).map (·.type) = some 35 := by kernel_rfl
theorem gSpcT : (Tryz.prog.globals[1]?).map (·.type) = some 111 := by kernel_rfl
theorem gPowT : (Tryz.prog.globals[9]?).map (·.type) = some 183 := by kernel_rfl
theorem rt : (Tryz.prog.cutTypes.find? (·.1 == "internal/reflectlite.rtype")).map (·.2) = some 94 := by kernel_rfl
theorem oneRow : ((List.range Tryz.prog.types.size).filter fun t => Tryz.prog.rowNamed t [101, 114, 114, 111, 114]) = [35] := by kernel_rfl
theorem ety_in : ("errors.errorType", (Rows.laid_errors_errorType : DataW Unit)) ∈ laidL.filter fun x => x.2.handleName?.isSome := by
  have h : (laidL.filter fun x => x.2.handleName?.isSome)[0]? = some ("errors.errorType", (Rows.laid_errors_errorType : DataW Unit)) := by kernel_rfl
  exact List.mem_of_getElem? h
theorem fltForm : (laidD.filter fun x => x.1 == "sorites/text.errForm") = [("sorites/text.errForm", Rows.laid_sorites_text_errForm)] := by kernel_rfl
theorem fltSyn : (laidD.filter fun x => x.1 == "strconv.ErrSyntax") = [("strconv.ErrSyntax", Rows.laid_strconv_ErrSyntax)] := by kernel_rfl
theorem fltRng : (laidD.filter fun x => x.1 == "strconv.ErrRange") = [("strconv.ErrRange", Rows.laid_strconv_ErrRange)] := by kernel_rfl
theorem kept_of_laid {W : World} (h : laidMetH Tryz.prog laidL W) : ∃ κ : Kp, ∀ b o, keptO κ b = some o → W.heap[b]? = some o := by
  obtain ⟨hD, hH⟩ := laidMetH_iff.1 h
  have hD : laidMet Tryz.prog laidD W := hD
  obtain ⟨name, u, ty, e1, e2, e3, e4, e5⟩ := hH _ ety_in
  have en : name = [101, 114, 114, 111, 114] := (Option.some.inj e1).symm
  subst en
  obtain rfl := Option.some.inj (rt.symm.trans e2)
  have hm : ty ∈ (List.range Tryz.prog.types.size).filter fun t => Tryz.prog.rowNamed t [101, 114, 114, 111, 114] := List.mem_filter.2 ⟨List.mem_range.2 e3, e4⟩
  rw [oneRow] at hm
  obtain rfl := List.mem_singleton.1 hm
  obtain ⟨T6, z6, b6⟩ := var_block gEty e5
  have hF := hD.filter fun x => x.1 == "sorites/text.errForm"
  rw [fltForm] at hF
  obtain ⟨aF, sF, vF, _⟩ := laid_sentinel hF gForm gFormT Tryz.underlying35 rowE Tryz.underlying179 Tryz.underlying181 rfl rfl Tryz.underlying9 cellsE cellsS
  obtain ⟨T1, z1, b1⟩ := var_block gForm vF
  have hS := hD.filter fun x => x.1 == "strconv.ErrSyntax"
  rw [fltSyn] at hS
  obtain ⟨aS, sS, vS, _⟩ := laid_sentinel hS gSyn gSynT Tryz.underlying35 rowE Tryz.underlying179 Tryz.underlying181 rfl rfl Tryz.underlying9 cellsE cellsS
  obtain ⟨T4, z4, b4⟩ := var_block gSyn vS
  have hR := hD.filter fun x => x.1 == "strconv.ErrRange"
  rw [fltRng] at hR
  obtain ⟨aR, sR, vR, _⟩ := laid_sentinel hR gRng gRngT Tryz.underlying35 rowE Tryz.underlying179 Tryz.underlying181 rfl rfl Tryz.underlying9 cellsE cellsS
  obtain ⟨T5, z5, b5⟩ := var_block gRng vR
  obtain ⟨g2, t2, cs2, f2, p2, h21, h22, v2, d2⟩ := Go.Lib.laidMet.reads hD spc_data
  obtain rfl := Option.some.inj (gSpc.symm.trans h21)
  obtain rfl := Option.some.inj (gSpcT.symm.trans h22)
  have c2 := arr_cells Tryz.underlying111 Tryz.underlying5 (by kernel_rfl) (by kernel_rfl) d2
  obtain ⟨T2, z2, b2⟩ := var_block gSpc v2
  obtain ⟨g3, t3, cs3, f3, p3, h31, h32, v3, d3⟩ := Go.Lib.laidMet.reads hD pow_data
  obtain rfl := Option.some.inj (gPow.symm.trans h31)
  obtain rfl := Option.some.inj (gPowT.symm.trans h32)
  have c3 := arr_cells Tryz.underlying183 Tryz.underlying106 (by kernel_rfl) (by kernel_rfl) d3
  obtain ⟨T3, z3, b3⟩ := var_block gPow v3
  have q2 : cs2 = spaceV := by
    unfold spaceV
    rw [← Array.toArray_toList (xs := cs2), c2, List.map_map]; rfl
  have q3 : cs3 = powV := by
    unfold powV
    rw [← Array.toArray_toList (xs := cs3), c3]
  subst q2
  subst q3
  refine ⟨{ form := aF, syn := .iface 179 (.pointer (some aS)), rng := .iface 179 (.pointer (some aR)), T1 := T1, T2 := T2, T3 := T3, T4 := T4, T5 := T5, T6 := T6, z1 := z1, z2 := z2, z3 := z3, z4 := z4, z5 := z5, z6 := z6, hsyn := ⟨_, _, rfl⟩, hrng := ⟨_, _, rfl⟩ }, fun b o hb => ?_⟩
  unfold keptO at hb
  cases q0 : Nat.beq b 2 with
  | true =>
    rw [q0, cond_true] at hb
    cases hb
    rw [Nat.eq_of_beq_eq_true q0]; exact b1
  | false =>
  rw [q0, cond_false] at hb
  cases q1 : Nat.beq b 1 with
  | true =>
    rw [q1, cond_true] at hb
    cases hb
    rw [Nat.eq_of_beq_eq_true q1]; exact b2
  | false =>
  rw [q1, cond_false] at hb
  cases q2 : Nat.beq b 9 with
  | true =>
    rw [q2, cond_true] at hb
    cases hb
    rw [Nat.eq_of_beq_eq_true q2]; exact b3
  | false =>
  rw [q2, cond_false] at hb
  cases q3 : Nat.beq b 7 with
  | true =>
    rw [q3, cond_true] at hb
    cases hb
    rw [Nat.eq_of_beq_eq_true q3]; exact b4
  | false =>
  rw [q3, cond_false] at hb
  cases q4 : Nat.beq b 8 with
  | true =>
    rw [q4, cond_true] at hb
    cases hb
    rw [Nat.eq_of_beq_eq_true q4]; exact b5
  | false =>
  rw [q4, cond_false] at hb
  cases q5 : Nat.beq b 0 with
  | true =>
    rw [q5, cond_true] at hb
    cases hb
    rw [Nat.eq_of_beq_eq_true q5]; exact b6
  | false =>
    rw [q5, cond_false] at hb
    cases hb
noncomputable def world0 (os : Os) : World :=
  let w := World.holding Tryz.prog os ⟨#[], #[], []⟩
  { w with heap := w.heap.modify 0 fun
      | .cells _ t frozen => .cells #[.iface 94 (.agg #[typeHandle Tryz.prog 35])] t frozen
      | o => o }
noncomputable def laidWorld (os : Os) : World := (world0 os).layVars Tryz.prog laidD
theorem laid_os (os : Os) : (laidWorld os).os = os := World.layVars_os _ _ _
theorem laid_met (os : Os) (args : Array Value) : laidMetH Tryz.prog laidL ((laidWorld os).forCall (fun _ _ => 0) ⟨#[], args, []⟩).memory := by
  have e1 : (laidD.filter fun x => (laidD.map (·.1)).contains x.1) = laidD := List.filter_eq_self.2 fun x hx => List.contains_iff_mem.2 (List.mem_map.2 ⟨x, hx, rfl⟩)
  have e2 : (laidD.filter fun x => !(laidD.map (·.1)).contains x.1) = [] := List.filter_eq_nil_iff.2 fun x hx => by rw [List.contains_iff_mem.2 (List.mem_map.2 ⟨x, hx, rfl⟩)]; simp
  have h : laidMet Tryz.prog laidD (laidWorld os) := laidMet_layVars (w0 := world0 os) (laidD.map (·.1)) [] (by rw [e1]; rfl) (by rw [e1]; kernel_rfl) (by rw [e1]; kernel_rfl) (by rw [e2]; exact LaidIn.none)
  exact laidMetH_of_parts (h.of_heap (by simp [World.memory, World.forCall, Input.heap])) (by kernel_rfl)
end Go.Proofs.YtbppdpbagmbmpaaGreatDoor
