import Derived.Test.YtbppdpbagmbmpaaGreatDoorDxGC
import Derived.LaidEql
import Derived.Stop.Asserts
import Derived.RowKitTokens
namespace Go.Proofs.YtbppdpbagmbmpaaGreatDoor
open Go Go.Dn Go.Proofs Go.RowKit Go.Extern.Stop Go.Stop Go.Extern
theorem isTypeOf (v : Value) (w : World) : (Extern.ReflectliteType.typeOf #[.iface 179 v]).run Tryz.prog w = .ok (.iface 94 (.agg #[.pointer (some ⟨13, 179, none⟩)])) w := by kernel_rfl
theorem isComparable (w : World) : ((Extern.ReflectliteType.method fun t => do Go.Extern.Rtype.noPackHeld "Comparable" t; (fun a => Value.bool a.comparable) <$> typeInfo t) #[.agg #[.pointer (some ⟨13, 179, none⟩)]]).run Tryz.prog w = .ok (.bool true) w := by kernel_rfl
theorem isMethodComparable (v : Value) (w : World) : (Go.method 316 94 v "Comparable").run Tryz.prog w = .ok (153, v) w := by kernel_rfl
theorem isComp : (Tryz.prog.info? 179).map (·.comparable) = some true := by kernel_rfl
theorem isSize : (Tryz.prog.info? 181).map (·.size) = some 1 := by kernel_rfl
set_option maxRecDepth 4000 in
theorem is_same (a : Addr) (w : World) :
    Calls Tryz.prog 80 #[.iface 179 (.pointer (some a)), .iface 179 (.pointer (some a))] w fun e w' => e = .returned (.bool true) ∧ w' = w := by
  obtain ⟨i, hi, hcmp⟩ := Option.map_eq_some_iff.1 isComp
  obtain ⟨j, hj, hjs⟩ := Option.map_eq_some_iff.1 isSize
  have h8 := @run_callFunc_extern Tryz.prog 64 _ Extern.ReflectliteType.typeOf Tryz.func64 (by kernel_rfl) (by kernel_rfl) (by kernel_rfl) (by kernel_rfl)
  have h32 := @run_callFunc_extern Tryz.prog 153 _ (Extern.ReflectliteType.method fun t => do Go.Extern.Rtype.noPackHeld "Comparable" t; pure (.bool (← typeInfo t).comparable)) Tryz.func153 (by kernel_rfl) (by kernel_rfl) (by kernel_rfl) (by kernel_rfl)
  have tT := isTypeOf
  have cT := isComparable
  have mR := isMethodComparable
  have heq := run_eql_iface_ptr_same (P := Tryz.prog) w a Tryz.underlying35 Tryz.underlying179 hi hcmp hj
  go_enter Tryz.func80, Tryz.ntmps80
  go_wp2
  refine wp_loop_rounds 1 ?_
  rw [rounds_succ]
  go_wp2
  go_ret
  exact ⟨rfl, rfl⟩
theorem is_nil (b : Addr) (w : World) :
    Calls Tryz.prog 80 #[.nilIface, .iface 179 (.pointer (some b))] w fun e w' => e = .returned (.bool false) ∧ w' = w := by
  have hn := run_eql_iface_nil_left (P := Tryz.prog) w 179 (.pointer (some b)) Tryz.underlying35
  go_enter Tryz.func80, Tryz.ntmps80
  go_wp2
  go_ret
  exact ⟨rfl, rfl⟩
def gIs : List AV → Option (Bool × AV)
  | [.lit .nilIface, .lit (.iface 179 (.pointer (some _)))] => some (true, .bool false)
  | [.lit (.iface 179 (.pointer (some a))), .lit (.iface 179 (.pointer (some b)))] => some (decide (a = b), .bool true)
  | _ => none
theorem two_lits {C : Ctx} {u v : Value} {vs : Array Value} (h : MT C [.lit u, .lit v] vs.toList) : vs = #[u, v] := by
  obtain ⟨l⟩ := vs
  match l, h with
  | [a, b], h =>
    simp only [MT] at h
    have h1 : Rel C (.lit u) a := ⟨h.1, h.2.1, h.2.2.1⟩
    have h2 : Rel C (.lit v) b := ⟨h.2.2.2.1, h.2.2.2.2.1, h.2.2.2.2.2.1⟩
    rw [rel_lit_inv h1, rel_lit_inv h2]
  | [], h => simp [MT] at h
  | [_], h => simp [MT] at h
  | _ :: _ :: _ :: _, h => simp [MT] at h
theorem qIs (κ : Kp) : PureSim (Pr κ) 80 gIs := by
  intro args x hn hg
  unfold gIs at hg
  split at hg
  · simp only [Option.some.injEq, Prod.mk.injEq, true_and] at hg
    subst hg
    refine ⟨_, _, Tryz.func80, rfl, rfl, rfl, fun C vs hC hI hm => ?_⟩
    rw [two_lits hm]
    refine (callsIn_wide.2 (is_nil _ C.w)).mono ?_
    rintro e w' ⟨rfl, rfl⟩
    exact ⟨rfl, Grows.refl _⟩
  · simp only [Option.some.injEq, Prod.mk.injEq, decide_eq_true_eq] at hg
    obtain ⟨rfl, rfl⟩ := hg
    refine ⟨_, _, Tryz.func80, rfl, rfl, rfl, fun C vs hC hI hm => ?_⟩
    rw [two_lits hm]
    refine (callsIn_wide.2 (is_same _ C.w)).mono ?_
    rintro e w' ⟨rfl, rfl⟩
    exact ⟨rfl, Grows.refl _⟩
  · cases hg
attribute [local irreducible] funA vc
set_option maxRecDepth 20000
noncomputable def BIs (κ : Kp) : EB := (BWb κ).puresim (qIs κ)
def miD (s : ByteArray) : ByteArray := ByteArray.extract s 1 (Int.toNat (IntKind.wrap .i64 ((s.size : Int) - 1)))
abbrev fwI (s : ByteArray) : Int := IntKind.wrap .i64 ((s.size : Int) - 1)
abbrev frU (s : ByteArray) : List (Nat × AV) := [(0, .lit (.string s)), (2, .lit (.string ⟨#[]⟩)), (3, .int 0), (4, .ptr 0 0 [] 0), (5, .ptr 1 0 [] 0), (8, .lit (.string s)), (9, .int (s.size : Int)), (10, .bool (decide ((s.size : Int) < 2))), (11, .bool false), (12, .lit (.string s)),
  (13, .lit (.int .u8 (byteAt s 0 : Nat))), (14, .bool (((byteAt s 0 : Nat) : Int) != 34)), (15, .bool (((byteAt s 0 : Nat) : Int) != 34)), (16, .bool false), (17, .lit (.string s)), (18, .lit (.string s)), (19, .int (s.size : Int)), (20, .int (fwI s)),
  (21, .lit (.int .u8 (byteAt s (Int.toNat (fwI s)) : Nat))), (22, .bool (((byteAt s (Int.toNat (fwI s)) : Nat) : Int) != 34)), (23, .bool false), (24, .lit (.string s)), (25, .lit (.string s)), (26, .int (s.size : Int)), (27, .int (fwI s)), (28, .lit (.string (miD s))), (29, .clo 94 [.ptr 2 0 [] 0])]
noncomputable abbrev lpUs (κ : Kp) (s : ByteArray) (a : LoopState) (e : Option Code) : Dn.Obj := .loop (lpA (Pr κ).toProgram 62 6 a e (spR (junks 41) (frU s)))
noncomputable abbrev strU0 (κ : Kp) (s : ByteArray) : List Dn.Obj := [bdN, .box 35 (.lit .nilIface), .box 9 (.lit (.string (miD s))), lpUs κ s .ready none]
noncomputable abbrev strUf (κ : Kp) (s : ByteArray) : List Dn.Obj := [bdN, .box 35 (.lit .nilIface), .dead, lpUs κ s .ready none]
noncomputable abbrev strUu (κ : Kp) (s : ByteArray) (xs : List AV) : List Dn.Obj := [.box 118 (.agg [.ptr 0 0 [] 0, .slc 4 0 xs.length]), .box 35 (.lit .nilIface), .dead, lpUs κ s .ready none, .row 5 xs]
theorem sUq (κ : Kp) (s : ByteArray) (Q : List Dn.Obj → Prop) : (tidy (Pr κ).toProgram 4 (setDead (strU0 κ s) (capIds (strU0 κ s) [.ptr 2 0 [] 0])) Q) = (
  Q [Obj.box 118 (AV.agg [AV.lit (Value.pointer none), AV.nil]), Obj.box 35 (AV.lit Value.nilIface), Obj.dead, Dn.Obj.loop (lpA Tryz.prog 62 6 LoopState.ready none
  (spR (junks 41) [(0, AV.str s), (2, AV.str { data := #[] }), (3, AV.int 0), (4, AV.ptr 0 0 [] 0), (5, AV.ptr 1 0 [] 0), (8, AV.str s), (9, AV.int
  (↑(ByteArray.size s) : Int)), (10, AV.bool (decide ((↑(ByteArray.size s) : Int) < (2 : Int)))), (11, AV.bool false), (12, AV.str s), (13, AV.lit (Value.int
  IntKind.u8 (↑(byteAt s 0) : Int))), (14, AV.bool ((↑(byteAt s 0) : Int) != (34 : Int))), (15, AV.bool ((↑(byteAt s 0) : Int) != (34 : Int))), (16, AV.bool
  false), (17, AV.str s), (18, AV.str s), (19, AV.int (↑(ByteArray.size s) : Int)), (20, AV.int (fwI s)), (21, AV.lit (Value.int IntKind.u8 (↑(byteAt s
  (Int.toNat (fwI s))) : Int))), (22, AV.bool ((↑(byteAt s (Int.toNat (fwI s))) : Int) != (34 : Int))), (23, AV.bool false), (24, AV.str s), (25, AV.str s), (26,
  AV.int (↑(ByteArray.size s) : Int)), (27, AV.int (fwI s)), (28, AV.str (miD s)), (29, AV.clo 94 [AV.ptr 2 0 [] 0])]))]) := by kernel_rfl
theorem rUn (κ : Kp) (s : ByteArray) (c : Int) (Q : List Dn.Obj → Prop) (K2 : List Dn.Obj → Prop) : (roundA (vc (BIs κ).E 12) 3 [.lit (.int .u8 c), .lit .nilIface] (strUf κ s) (fun r st'' => match r with | .lit (.bool true) => tidy (Pr κ).toProgram 4 st'' Q | .lit (.bool false) => K2 st'' | _ => False)) = (
  ∃ (a : Int), ([AV.ptr 0 0 [] 0, AV.lit (Value.int IntKind.u8 c)], [Obj.box 118 (AV.agg [AV.lit (Value.pointer none), AV.nil])]) = ([AV.ptr 0 0 [] 0, AV.lit
  (Value.int IntKind.u8 a)], [Obj.box 118 (AV.agg [AV.lit (Value.pointer none), AV.nil])]) ∧ True ∧ Q [Obj.box 118 (AV.agg [AV.ptr 0 0 [] 0, AV.slc 4 0 1]),
  Obj.box 35 (AV.lit Value.nilIface), Obj.dead, Dn.Obj.loop (lpA Tryz.prog 62 6 LoopState.ready none (spR (junks 41) [(0, AV.str s), (2, AV.str { data := #[] }),
  (3, AV.int 0), (4, AV.ptr 0 0 [] 0), (5, AV.ptr 1 0 [] 0), (8, AV.str s), (9, AV.int (↑(ByteArray.size s) : Int)), (10, AV.bool (decide ((↑(ByteArray.size s) :
  Int) < (2 : Int)))), (11, AV.bool false), (12, AV.str s), (13, AV.lit (Value.int IntKind.u8 (↑(byteAt s 0) : Int))), (14, AV.bool ((↑(byteAt s 0) : Int) != (34
  : Int))), (15, AV.bool ((↑(byteAt s 0) : Int) != (34 : Int))), (16, AV.bool false), (17, AV.str s), (18, AV.str s), (19, AV.int (↑(ByteArray.size s) : Int)),
  (20, AV.int (fwI s)), (21, AV.lit (Value.int IntKind.u8 (↑(byteAt s (Int.toNat (fwI s))) : Int))), (22, AV.bool ((↑(byteAt s (Int.toNat (fwI s))) : Int) != (34
  : Int))), (23, AV.bool false), (24, AV.str s), (25, AV.str s), (26, AV.int (↑(ByteArray.size s) : Int)), (27, AV.int (fwI s)), (28, AV.str (miD s)), (29,
  AV.clo 94 [AV.ptr 2 0 [] 0])])), Obj.row 5 [AV.lit (Value.int IntKind.u8 a)]]) := by kernel_rfl
theorem rUu (κ : Kp) (s : ByteArray) (c : Int) (xs : List AV) (Q : List Dn.Obj → Prop) (K2 : List Dn.Obj → Prop) : (roundA (vc (BIs κ).E 12) 3 [.lit (.int .u8 c), .lit .nilIface] (strUu κ s xs) (fun r st'' => match r with | .lit (.bool true) => tidy (Pr κ).toProgram 4 st'' Q | .lit (.bool false) => K2 st'' | _ => False)) = (
  ∃ (a : Int × List AV), ([AV.ptr 0 0 [] 0, AV.lit (Value.int IntKind.u8 c)], [Obj.box 118 (AV.agg [AV.ptr 0 0 [] 0, AV.slc 1 0 xs.length]), Obj.row 5 xs]) =
  ([AV.ptr 0 0 [] 0, AV.lit (Value.int IntKind.u8 a.1)], [Obj.box 118 (AV.agg [AV.ptr 0 0 [] 0, AV.slc 1 0 a.2.length]), Obj.row 5 a.2]) ∧ a.2.length ≤
  1000000000 ∧ Q [Obj.box 118 (AV.agg [AV.ptr 0 0 [] 0, AV.slc 4 0 (a.2.length + 1)]), Obj.box 35 (AV.lit Value.nilIface), Obj.dead, Dn.Obj.loop (lpA Tryz.prog
  62 6 LoopState.ready none (spR (junks 41) [(0, AV.str s), (2, AV.str { data := #[] }), (3, AV.int 0), (4, AV.ptr 0 0 [] 0), (5, AV.ptr 1 0 [] 0), (8, AV.str
  s), (9, AV.int (↑(ByteArray.size s) : Int)), (10, AV.bool (decide ((↑(ByteArray.size s) : Int) < (2 : Int)))), (11, AV.bool false), (12, AV.str s), (13, AV.lit
  (Value.int IntKind.u8 (↑(byteAt s 0) : Int))), (14, AV.bool ((↑(byteAt s 0) : Int) != (34 : Int))), (15, AV.bool ((↑(byteAt s 0) : Int) != (34 : Int))), (16,
  AV.bool false), (17, AV.str s), (18, AV.str s), (19, AV.int (↑(ByteArray.size s) : Int)), (20, AV.int (fwI s)), (21, AV.lit (Value.int IntKind.u8 (↑(byteAt s
  (Int.toNat (fwI s))) : Int))), (22, AV.bool ((↑(byteAt s (Int.toNat (fwI s))) : Int) != (34 : Int))), (23, AV.bool false), (24, AV.str s), (25, AV.str s), (26,
  AV.int (↑(ByteArray.size s) : Int)), (27, AV.int (fwI s)), (28, AV.str (miD s)), (29, AV.clo 94 [AV.ptr 2 0 [] 0])])), Obj.row 5 (a.2 ++ [AV.lit (Value.int
  IntKind.u8 a.1)])]) := by kernel_rfl
theorem rUe (κ : Kp) (s : ByteArray) (c : Int) (Q : List Dn.Obj → Prop) (K2 : List Dn.Obj → Prop) : (roundA (vc (BIs κ).E 12) 3 [.lit (.int .u8 c), .lit (errForm κ)] (strUf κ s) (fun r st'' => match r with | .lit (.bool true) => tidy (Pr κ).toProgram 4 st'' Q | .lit (.bool false) => K2 st'' | _ => False)) = (
  K2 [Obj.box 118 (AV.agg [AV.lit (Value.pointer none), AV.nil]), Obj.box 35 (AV.lit (Value.iface 179 (Value.pointer (some (Kp.form κ))))), Obj.dead, Dn.Obj.loop
  (lpA Tryz.prog 62 6 LoopState.done (some (Code.exit 0)) (spR (junks 41) [(0, AV.str s), (2, AV.str { data := #[] }), (3, AV.int 0), (4, AV.ptr 0 0 [] 0), (5,
  AV.ptr 1 0 [] 0), (8, AV.str s), (9, AV.int (↑(ByteArray.size s) : Int)), (10, AV.bool (decide ((↑(ByteArray.size s) : Int) < (2 : Int)))), (11, AV.bool
  false), (12, AV.str s), (13, AV.lit (Value.int IntKind.u8 (↑(byteAt s 0) : Int))), (14, AV.bool ((↑(byteAt s 0) : Int) != (34 : Int))), (15, AV.bool ((↑(byteAt
  s 0) : Int) != (34 : Int))), (16, AV.bool false), (17, AV.str s), (18, AV.str s), (19, AV.int (↑(ByteArray.size s) : Int)), (20, AV.int (fwI s)), (21, AV.lit
  (Value.int IntKind.u8 (↑(byteAt s (Int.toNat (fwI s))) : Int))), (22, AV.bool ((↑(byteAt s (Int.toNat (fwI s))) : Int) != (34 : Int))), (23, AV.bool false),
  (24, AV.str s), (25, AV.str s), (26, AV.int (↑(ByteArray.size s) : Int)), (27, AV.int (fwI s)), (28, AV.str (miD s)), (29, AV.clo 94 [AV.ptr 2 0 [] 0])]))]) := by kernel_rfl
theorem rUf (κ : Kp) (s : ByteArray) (c : Int) (xs : List AV) (Q : List Dn.Obj → Prop) (K2 : List Dn.Obj → Prop) : (roundA (vc (BIs κ).E 12) 3 [.lit (.int .u8 c), .lit (errForm κ)] (strUu κ s xs) (fun r st'' => match r with | .lit (.bool true) => tidy (Pr κ).toProgram 4 st'' Q | .lit (.bool false) => K2 st'' | _ => False)) = (
  K2 [Obj.box 118 (AV.agg [AV.ptr 0 0 [] 0, AV.slc 4 0 xs.length]), Obj.box 35 (AV.lit (Value.iface 179 (Value.pointer (some (Kp.form κ))))), Obj.dead, Dn.Obj.loop
  (lpA Tryz.prog 62 6 LoopState.done (some (Code.exit 0)) (spR (junks 41) [(0, AV.str s), (2, AV.str { data := #[] }), (3, AV.int 0), (4, AV.ptr 0 0 [] 0), (5,
  AV.ptr 1 0 [] 0), (8, AV.str s), (9, AV.int (↑(ByteArray.size s) : Int)), (10, AV.bool (decide ((↑(ByteArray.size s) : Int) < (2 : Int)))), (11, AV.bool
  false), (12, AV.str s), (13, AV.lit (Value.int IntKind.u8 (↑(byteAt s 0) : Int))), (14, AV.bool ((↑(byteAt s 0) : Int) != (34 : Int))), (15, AV.bool ((↑(byteAt
  s 0) : Int) != (34 : Int))), (16, AV.bool false), (17, AV.str s), (18, AV.str s), (19, AV.int (↑(ByteArray.size s) : Int)), (20, AV.int (fwI s)), (21, AV.lit
  (Value.int IntKind.u8 (↑(byteAt s (Int.toNat (fwI s))) : Int))), (22, AV.bool ((↑(byteAt s (Int.toNat (fwI s))) : Int) != (34 : Int))), (23, AV.bool false),
  (24, AV.str s), (25, AV.str s), (26, AV.int (↑(ByteArray.size s) : Int)), (27, AV.int (fwI s)), (28, AV.str (miD s)), (29, AV.clo 94 [AV.ptr 2 0 [] 0])])),
  Obj.row 5 xs]) := by kernel_rfl
theorem kUq (κ : Kp) (s : ByteArray) (xs : List AV) : (AV.yld 0 :: renL (idxS (capIds (strU0 κ s) [.ptr 2 0 [] 0])) [.ptr 2 0 [] 0], Obj.ext (some xs) :: renSt (idxS (capIds (strU0 κ s) [.ptr 2 0 [] 0])) (getSt (strU0 κ s) (capIds (strU0 κ s) [.ptr 2 0 [] 0]))) = ([.yld 0, .ptr 1 0 [] 0], [.ext (some xs), .box 9 (.lit (.string (miD s)))]) := by kernel_rfl
theorem oUq (κ : Kp) (s : ByteArray) : genOk (strU0 κ s) [.ptr 2 0 [] 0] = true := by kernel_rfl
theorem callBy (κ : Kp) (args : List AV) (st : List Dn.Obj) (K : AV → List Dn.Obj → Prop) (h : callE (stBc κ) sideBc outBc args st K) : (BIs κ).E.call 94 args st K := h
def okU : List (Int × Bool) → List UInt8
  | [] => []
  | x :: l => bif x.2 then [] else x.1.toNat.toUInt8 :: okU l
def badU (l : List (Int × Bool)) : Bool := l.any (·.2)
abbrev byA (s : ByteArray) : List (Int × Bool) := byF s.size s
theorem wrap_u8 (n : Int) : 0 ≤ IntKind.wrap .u8 n ∧ IntKind.wrap .u8 n < 256 := by
  unfold IntKind.wrap
  simp only [IntKind.bits, IntKind.signed]
  simp
  omega
theorem esC_lt (s : ByteArray) : 0 ≤ esC s ∧ esC s < 256 := by
  have h1 := byte_lt s 0
  have h2 : 0 ≤ esX s ∧ esX s < 256 := wrap_u8 _
  unfold esC
  generalize (((byteAt s 0 : Nat) : Int) == 92) = b1
  generalize (((byteAt s 0 : Nat) : Int) == 34) = b2
  generalize (((byteAt s 0 : Nat) : Int) == 110) = b3
  cases b1 <;> cases b2 <;> cases b3 <;> simp only [cond_true, cond_false] <;> omega
theorem byF_lt : ∀ (k : Nat) (s : ByteArray) (x : Int × Bool), x ∈ byF k s → 0 ≤ x.1 ∧ x.1 < 256
  | 0, _, _, h => by cases h
  | k + 1, s, x, h => by
    rw [byF] at h
    have h1 := byte_lt s 0
    cases h2 : decide ((s.size : Int) > 0) with
    | false => rw [h2] at h; cases h
    | true =>
    rw [h2, cond_true] at h
    cases h3 : (((byteAt s 0 : Nat) : Int) == 92) with
    | true =>
      rw [h3, cond_true] at h
      cases h4 : esO (s.extract 1 s.size) with
      | true =>
        rw [h4, cond_true] at h
        rcases List.mem_cons.1 h with rfl | h
        · exact esC_lt _
        · exact byF_lt k _ x h
      | false =>
        rw [h4, cond_false] at h
        rw [List.mem_singleton] at h
        subst h
        exact ⟨by decide, by decide⟩
    | false =>
      rw [h3, cond_false] at h
      cases h4 : !isPl (byteAt s 0 : Nat) with
      | true =>
        rw [h4, cond_true, List.mem_singleton] at h
        subst h
        simp only; omega
      | false =>
        rw [h4, cond_false] at h
        rcases List.mem_cons.1 h with rfl | h
        · simp only; omega
        · exact byF_lt k _ x h
theorem byF_len : ∀ (k : Nat) (s : ByteArray), (byF k s).length ≤ k
  | 0, _ => Nat.le_refl _
  | k + 1, s => by
    rw [byF]
    have := byF_len k
    cases decide ((s.size : Int) > 0) with
    | false => exact Nat.zero_le _
    | true =>
    cases (((byteAt s 0 : Nat) : Int) == 92) with
    | true =>
      cases esO (s.extract 1 s.size) with
      | true => exact Nat.succ_le_succ (this _)
      | false => simp
    | false =>
      cases !isPl (byteAt s 0 : Nat) with
      | true => simp
      | false => exact Nat.succ_le_succ (this _)
theorem okU_len : ∀ l : List (Int × Bool), (okU l).length ≤ l.length
  | [] => Nat.le_refl _
  | x :: l => by
    rw [okU]
    cases x.2 with
    | true => exact Nat.zero_le _
    | false => exact Nat.succ_le_succ (okU_len l)
theorem u8_back {c : Int} (h : 0 ≤ c ∧ c < 256) : ((c.toNat.toUInt8.toNat : Nat) : Int) = c := by
  have : c.toNat.toUInt8.toNat = c.toNat := by
    show c.toNat % 256 = c.toNat
    exact Nat.mod_eq_of_lt (by omega)
  rw [this]; omega
noncomputable def stU (κ : Kp) (s : ByteArray) : List UInt8 → List Dn.Obj
  | [] => strUf κ s
  | l => strUu κ s (u8L l)
noncomputable abbrev strUg (κ : Kp) (s : ByteArray) : List Dn.Obj := [bdN, .box 35 (.lit (errForm κ)), .dead, lpUs κ s .done (some (.exit 0))]
noncomputable abbrev strUw (κ : Kp) (s : ByteArray) (xs : List AV) : List Dn.Obj := [.box 118 (.agg [.ptr 0 0 [] 0, .slc 4 0 xs.length]), .box 35 (.lit (errForm κ)), .dead, lpUs κ s .done (some (.exit 0)), .row 5 xs]
noncomputable def spUq (κ : Kp) : RangeSpec := fun caps st K => ∃ s, (caps, st) = ([AV.ptr 2 0 [] 0], strU0 κ s) ∧ (miD s).size ≤ 1000000000 ∧
  brn (badU (byA (miD s))) (brn (okU (byA (miD s))).isEmpty (K (strUg κ s)) (K (strUw κ s (u8L (okU (byA (miD s)))))))
    (brn (okU (byA (miD s))).isEmpty (K (strUf κ s)) (K (strUu κ s (u8L (okU (byA (miD s)))))))
theorem spUq_mono (κ : Kp) : (spUq κ).Mono := by
  rintro caps st K K' hK ⟨s, h1, h0, h2⟩
  refine ⟨s, h1, h0, ?_⟩
  simp only [brn_iff] at h2 ⊢
  exact ⟨fun e => ⟨fun e2 => hK _ ((h2.1 e).1 e2), fun e2 => hK _ ((h2.1 e).2 e2)⟩, fun e => ⟨fun e2 => hK _ ((h2.2 e).1 e2), fun e2 => hK _ ((h2.2 e).2 e2)⟩⟩
theorem u8L_snoc (l : List UInt8) {c : Int} (h : 0 ≤ c ∧ c < 256) : u8L l ++ [.lit (.int .u8 c)] = u8L (l ++ [c.toNat.toUInt8]) := by
  rw [u8L_app]
  simp only [u8L, List.map_cons, List.map_nil, u8_back h]
theorem gUq (κ : Kp) : RangeOk (BIs κ).E 12 94 (spUq κ) := by
  rintro caps st K ⟨s, h1, h0, h5⟩
  obtain ⟨rfl, rfl⟩ := Prod.mk.inj h1
  have hlt : ∀ x ∈ byA (miD s), 0 ≤ x.1 ∧ x.1 < 256 := byF_lt _ _
  have hlen : (okU (byA (miD s))).length ≤ 1000000000 := Nat.le_trans (okU_len _) (Nat.le_trans (byF_len _ _) h0)
  have hc : ∀ L, byA (miD s) = L → (BIs κ).E.call 94 [.yld 0, .ptr 1 0 [] 0] [.ext (some (itB κ L)), .box 9 (.lit (.string (miD s)))] fun _ st' => tdone st' := fun L hL => by
    subst hL
    exact callBy κ _ _ _ ⟨miD s, rfl, h0, fun st' h => h⟩
  generalize hL : byA (miD s) = L at h5 hlt hlen
  have hc := hc L hL
  refine ⟨itB κ L, fun items st' => ∃ E2 bs, items = itB κ E2 ∧ st' = stU κ s bs ∧ bs ++ okU E2 = okU L ∧ badU E2 = badU L ∧ ∀ x ∈ E2, 0 ≤ x.1 ∧ x.1 < 256, ⟨oUq κ s, ?_, ?_, ?_, ?_⟩⟩
  · rw [(Prod.mk.inj (kUq κ s (itB κ L))).1, (Prod.mk.inj (kUq κ s (itB κ L))).2]
    exact hc
  · rw [show (BIs κ).E.P = Pr κ from rfl, show (strU0 κ s).length = 4 from rfl, sUq]
    exact ⟨L, [], rfl, rfl, rfl, rfl, hlt⟩
  · rintro us rest st' ⟨E2, bs, e1, rfl, e3, e4, e5⟩
    cases E2 with
    | nil => cases e1
    | cons t E2 =>
      obtain ⟨hu, rfl⟩ := List.cons.inj e1
      obtain rfl := AV.tup.inj hu
      rw [show (BIs κ).E.P = Pr κ from rfl, show (strU0 κ s).length = 4 from rfl, show (4 : Nat) - 1 = 3 from rfl]
      obtain ⟨c, e⟩ := t
      have hcr := e5 _ (List.mem_cons_self ..)
      cases e with
      | true =>
        have hb : badU L = true := by rw [← e4]; rfl
        have ho : bs = okU L := by rw [← e3]; exact (List.append_nil _).symm
        subst ho
        rw [hb] at h5
        have h5 := (brn_iff.1 h5).1 rfl
        rw [brn_iff] at h5
        cases hbs : okU L with
        | nil => exact Eq.mpr (rUe κ s c _ K) (h5.1 (by rw [hbs]; rfl))
        | cons b bs' => rw [hbs] at h5; exact Eq.mpr (rUf κ s c (u8L (b :: bs')) _ K) (h5.2 rfl)
      | false =>
        have hn : ∃ E' bs', itB κ E2 = itB κ E' ∧ stU κ s (bs ++ [c.toNat.toUInt8]) = stU κ s bs' ∧ bs' ++ okU E' = okU L ∧ badU E' = badU L ∧ ∀ x ∈ E', 0 ≤ x.1 ∧ x.1 < 256 := ⟨E2, _, rfl, rfl, by rw [← e3, List.append_assoc]; rfl, by rw [← e4]; rfl, fun x hx => e5 x (List.mem_cons_of_mem _ hx)⟩
        have hl : bs.length ≤ 1000000000 := by
          have := congrArg List.length e3
          rw [List.length_append] at this
          omega
        clear hc h5 e3 e1 e4 e5
        cases bs with
        | nil =>
          refine Eq.mpr (rUn κ s c _ K) ⟨c, rfl, trivial, ?_⟩
          have e0 : stU κ s ([] ++ [c.toNat.toUInt8]) = strUu κ s [.lit (.int .u8 c)] := by
            show strUu κ s (u8L [c.toNat.toUInt8]) = _
            simp only [u8L, List.map_cons, List.map_nil, u8_back hcr]
          rw [e0] at hn
          exact hn
        | cons b bs =>
          refine Eq.mpr (rUu κ s c (u8L (b :: bs)) _ K) ⟨(c, u8L (b :: bs)), rfl, by rw [u8L_len]; exact hl, ?_⟩
          have e0 : stU κ s ((b :: bs) ++ [c.toNat.toUInt8]) = strUu κ s (u8L (b :: bs) ++ [.lit (.int .u8 c)]) := by
            rw [u8L_snoc _ hcr]; rfl
          rw [e0] at hn
          have e6 : (u8L (b :: bs) ++ [AV.lit (.int .u8 c)]).length = (u8L (b :: bs)).length + 1 := by rw [List.length_append]; rfl
          simp only [strUu, e6] at hn
          exact hn
  · rintro st' ⟨E2, bs, e1, rfl, e3, e4, e5⟩
    obtain rfl : E2 = [] := by cases E2 with | nil => rfl | cons _ _ => cases e1
    obtain rfl : bs = okU L := by rw [← e3]; exact (List.append_nil _).symm
    have hb : badU L = false := by rw [← e4]; rfl
    rw [hb] at h5
    have h5 := (brn_iff.1 h5).2 rfl
    rw [brn_iff] at h5
    cases hbs : okU L with
    | nil => exact h5.1 (by rw [hbs]; rfl)
    | cons b bs' => rw [hbs] at h5; exact h5.2 rfl
noncomputable def BUr (κ : Kp) : EB := (BIs κ).range 62 6 (spUq_mono κ) (gUq κ) (fun f => memN f [94])
theorem yUq (κ : Kp) (s : ByteArray) (K : AV → List Dn.Obj → Prop) : (funA (BUr κ).E 12 62 [.lit (.string s)] [] K) = (
  brn (decide ((↑(ByteArray.size s) : Int) < (2 : Int))) (K (AV.tup [AV.str { data := #[] }, AV.int 10]) []) (cnd (true && decide ((0 : Int) < (↑(ByteArray.size s)
  : Int))) (brn ((↑(byteAt s 0) : Int) != (34 : Int)) (K (AV.tup [AV.str { data := #[] }, AV.int 10]) []) (cnd (decide ((0 : Int) ≤ IntKind.wrap IntKind.i64
  ((↑(ByteArray.size s) : Int) - (1 : Int))) && decide (IntKind.wrap IntKind.i64 ((↑(ByteArray.size s) : Int) - (1 : Int)) < (↑(ByteArray.size s) : Int))) (brn
  ((↑(byteAt s (Int.toNat (IntKind.wrap IntKind.i64 ((↑(ByteArray.size s) : Int) - (1 : Int))))) : Int) != (34 : Int)) (K (AV.tup [AV.str { data := #[] }, AV.int
  10]) []) (cnd (true && decide ((1 : Int) ≤ IntKind.wrap IntKind.i64 ((↑(ByteArray.size s) : Int) - (1 : Int))) && decide (IntKind.wrap IntKind.i64
  ((↑(ByteArray.size s) : Int) - (1 : Int)) ≤ (↑(ByteArray.size s) : Int))) (∃ (s_1 : ByteArray), ([AV.ptr 2 0 [] 0], [Obj.box 118 (AV.agg [AV.lit (Value.pointer
  none), AV.nil]), Obj.box 35 (AV.lit Value.nilIface), Obj.box 9 (AV.lit (Value.string (ByteArray.extract s 1 (Int.toNat (IntKind.wrap IntKind.i64
  ((↑(ByteArray.size s) : Int) - (1 : Int))))))), Dn.Obj.loop (lpA Tryz.prog 62 6 LoopState.ready none (spR (junks 41) [(0, AV.str s), (2, AV.str
  { data := #[] }), (3, AV.int 0), (4, AV.ptr 0 0 [] 0), (5, AV.ptr 1 0 [] 0), (8, AV.str s), (9, AV.int (↑(ByteArray.size s) : Int)), (10, AV.bool (decide
  ((↑(ByteArray.size s) : Int) < (2 : Int)))), (11, AV.bool false), (12, AV.str s), (13, AV.lit (Value.int IntKind.u8 (↑(byteAt s 0) : Int))), (14, AV.bool
  ((↑(byteAt s 0) : Int) != (34 : Int))), (15, AV.bool ((↑(byteAt s 0) : Int) != (34 : Int))), (16, AV.bool false), (17, AV.str s), (18, AV.str s), (19, AV.int
  (↑(ByteArray.size s) : Int)), (20, AV.lit (Value.int IntKind.i64 (IntKind.wrap IntKind.i64 ((↑(ByteArray.size s) : Int) - (1 : Int))))), (21, AV.lit (Value.int
  IntKind.u8 (↑(byteAt s (Int.toNat (IntKind.wrap IntKind.i64 ((↑(ByteArray.size s) : Int) - (1 : Int))))) : Int))), (22, AV.lit (Value.bool ((↑(byteAt s
  (Int.toNat (IntKind.wrap IntKind.i64 ((↑(ByteArray.size s) : Int) - (1 : Int))))) : Int) != (34 : Int)))), (23, AV.bool false), (24, AV.str s), (25, AV.str s),
  (26, AV.int (↑(ByteArray.size s) : Int)), (27, AV.lit (Value.int IntKind.i64 (IntKind.wrap IntKind.i64 ((↑(ByteArray.size s) : Int) - (1 : Int))))), (28,
  AV.lit (Value.string (ByteArray.extract s 1 (Int.toNat (IntKind.wrap IntKind.i64 ((↑(ByteArray.size s) : Int) - (1 : Int))))))), (29, AV.clo 94 [AV.ptr 2 0 []
  0])]))]) = ([AV.ptr 2 0 [] 0], [Obj.box 118 (AV.agg [AV.lit (Value.pointer none), AV.nil]), Obj.box 35 (AV.lit Value.nilIface), Obj.box 9 (AV.str (miD s_1)),
  Dn.Obj.loop (lpA Tryz.prog 62 6 LoopState.ready none (spR (junks 41) [(0, AV.str s_1), (2, AV.str { data := #[] }), (3, AV.int 0), (4, AV.ptr 0 0 [] 0), (5,
  AV.ptr 1 0 [] 0), (8, AV.str s_1), (9, AV.int (↑(ByteArray.size s_1) : Int)), (10, AV.bool (decide ((↑(ByteArray.size s_1) : Int) < (2 : Int)))), (11, AV.bool
  false), (12, AV.str s_1), (13, AV.lit (Value.int IntKind.u8 (↑(byteAt s_1 0) : Int))), (14, AV.bool ((↑(byteAt s_1 0) : Int) != (34 : Int))), (15, AV.bool
  ((↑(byteAt s_1 0) : Int) != (34 : Int))), (16, AV.bool false), (17, AV.str s_1), (18, AV.str s_1), (19, AV.int (↑(ByteArray.size s_1) : Int)), (20, AV.int (fwI
  s_1)), (21, AV.lit (Value.int IntKind.u8 (↑(byteAt s_1 (Int.toNat (fwI s_1))) : Int))), (22, AV.bool ((↑(byteAt s_1 (Int.toNat (fwI s_1))) : Int) != (34 :
  Int))), (23, AV.bool false), (24, AV.str s_1), (25, AV.str s_1), (26, AV.int (↑(ByteArray.size s_1) : Int)), (27, AV.int (fwI s_1)), (28, AV.str (miD s_1)),
  (29, AV.clo 94 [AV.ptr 2 0 [] 0])]))]) ∧ ByteArray.size (miD s_1) ≤ 1000000000 ∧ brn (badU (byA (miD s_1))) (brn (List.isEmpty (okU (byA (miD s_1)))) (cnd
  (decide (Kp.form κ = Kp.form κ)) (K (AV.tup [AV.str { data := #[] }, AV.int 10]) [])) (cnd (decide (Kp.form κ = Kp.form κ)) (K (AV.tup [AV.str { data := #[] },
  AV.int 10]) []))) (brn (List.isEmpty (okU (byA (miD s_1)))) (∃ (a : Unit), ([AV.ptr 0 0 [] 0], [Obj.box 118 (AV.agg [AV.lit (Value.pointer none), AV.nil])]) =
  ([AV.ptr 0 0 [] 0], [Obj.box 118 (AV.agg [AV.lit (Value.pointer none), AV.nil])]) ∧ True ∧ K (AV.tup [AV.str { data := #[] }, AV.int 0]) []) (∃ (a : List
  UInt8), ([AV.ptr 0 0 [] 0], [Obj.box 118 (AV.agg [AV.ptr 0 0 [] 0, AV.slc 1 0 (List.length (u8L (okU (byA (miD s_1)))))]), Obj.row 5 (u8L (okU (byA (miD
  s_1))))]) = ([AV.ptr 0 0 [] 0], [Obj.box 118 (AV.agg [AV.ptr 0 0 [] 0, AV.slc 1 0 a.length]), Obj.row 5 (u8L a)]) ∧ (a = [] → False) ∧ K (AV.tup [AV.str
  { data := List.toArray a }, AV.int 0]) []))))))))) := by kernel_rfl
end Go.Proofs.YtbppdpbagmbmpaaGreatDoor
namespace Go.Proofs.YtbppdpbagmbmpaaGreatDoor
open Go Go.Dn Go.Proofs
attribute [local irreducible] funA vc
set_option maxRecDepth 20000
def uqO (s : ByteArray) : Bool := bif decide ((s.size : Int) < 2) then false else bif (((byteAt s 0 : Nat) : Int) != 34) then false else bif (((byteAt s (fwI s).toNat : Nat) : Int) != 34) then false else !badU (byA (miD s))
def uqS (s : ByteArray) : ByteArray := bif uqO s then ⟨(okU (byA (miD s))).toArray⟩ else ⟨#[]⟩
def uqE (s : ByteArray) : Int := bif uqO s then 0 else 10
theorem miD_size (s : ByteArray) : (miD s).size ≤ s.size := by
  unfold miD
  rw [ByteArray.size_extract]
  omega
def stUqc (s : ByteArray) : List AV × List Dn.Obj := ([.lit (.string s)], [])
def sideUqc (s : ByteArray) : Prop := s.size ≤ 1000000000
def outUqc (s : ByteArray) : Out (AV × List Dn.Obj) := .one (.tup [.lit (.string (uqS s)), .int (uqE s)], [])
theorem cUq (κ : Kp) : CallOk (BUr κ).E 12 62 (callE stUqc sideUqc outUqc) := by
  refine callE_ok ?_
  rintro s K h1 ho
  have h1 : s.size ≤ 1000000000 := h1
  have ho : K (.tup [.lit (.string (uqS s)), .int (uqE s)]) [] := ho
  refine Eq.mpr (yUq κ s K) ?_
  have q1 : ∀ b, uqO s = b → K (.tup [.lit (.string (bif b then ⟨(okU (byA (miD s))).toArray⟩ else ⟨#[]⟩)), .int (bif b then 0 else 10)]) [] := fun b hb => by
    have := ho
    unfold uqS uqE at this; rw [hb] at this; exact this
  rw [brn_iff]
  refine ⟨fun e1 => ?_, fun e1 => cnd_iff.2 ⟨?_, ?_⟩⟩
  · exact q1 false (by unfold uqO; rw [e1]; rfl)
  · rw [decide_eq_false_iff_not] at e1; simp; omega
  have hs : ¬ (s.size : Int) < 2 := of_decide_eq_false e1
  rw [brn_iff]
  refine ⟨fun e2 => ?_, fun e2 => cnd_iff.2 ⟨?_, ?_⟩⟩
  · exact q1 false (by unfold uqO; rw [e1, e2]; rfl)
  · rw [wrap_ok (by omega) (by omega)]; simp; omega
  rw [brn_iff]
  refine ⟨fun e3 => ?_, fun e3 => cnd_iff.2 ⟨?_, s, rfl, Nat.le_trans (miD_size s) h1, ?_⟩⟩
  · exact q1 false (by unfold uqO fwI; rw [e1, e2, e3]; rfl)
  · rw [wrap_ok (by omega) (by omega)]; simp; omega
  have hu : uqO s = !badU (byA (miD s)) := by unfold uqO fwI; rw [e1, e2, e3]; rfl
  generalize byA (miD s) = L at q1 hu ⊢
  rw [brn_iff]
  refine ⟨fun e4 => ?_, fun e4 => ?_⟩
  · have := q1 false (by rw [hu, e4]; rfl)
    rw [brn_iff]
    exact ⟨fun _ => cnd_iff.2 ⟨by simp, this⟩, fun _ => cnd_iff.2 ⟨by simp, this⟩⟩
  · have := q1 true (by rw [hu, e4]; rfl)
    rw [brn_iff]
    refine ⟨fun e5 => ⟨(), rfl, trivial, ?_⟩, fun e5 => ⟨okU L, by rw [u8L_len], fun e6 => (by rw [e6] at e5; cases e5), this⟩⟩
    rw [List.isEmpty_iff.1 e5] at this; exact this
noncomputable def BUq (κ : Kp) : EB := (BUr κ).call (cUq κ)
theorem yTk (κ : Kp) (s : ByteArray) (K : AV → List Dn.Obj → Prop) : (funA (BUq κ).E 12 31 [.lit (.string s)] [] K) = (
  cnd (decide (ByteArray.size s ≤ 1000000000)) (cnd (true && decide ((0 : Int) < (↑(ByteArray.size s) : Int))) (brn (isLe (↑(byteAt s 0) : Int)) (brn (decide
  ((↑(wrdL (bl s)) : Int) > (40 : Int))) (K (AV.tup [AV.agg [AV.int 0, AV.str { data := #[] }, AV.int 0], AV.int 0]) []) (cnd (true && decide ((↑(wrdL (bl s)) :
  Int) ≤ (↑(ByteArray.size s) : Int))) (K (AV.tup [AV.agg [AV.int 1, AV.str (ByteArray.extract s 0 (Int.toNat (↑(wrdL (bl s)) : Int))), AV.int 0], AV.int (↑(wrdL
  (bl s)) : Int)]) []))) (brn (isDi (↑(byteAt s 0) : Int)) (cnd (true && decide ((↑(wrdL (bl s)) : Int) ≤ (↑(ByteArray.size s) : Int))) (∃ (a : ByteArray),
  ([AV.str (ByteArray.extract s 0 (Int.toNat (↑(wrdL (bl s)) : Int)))], []) = stPn a ∧ sidePi a ∧ brn (numB a) (cnd (true && decide ((↑(wrdL (bl s)) : Int) ≤
  (↑(ByteArray.size s) : Int)) && decide ((↑(ByteArray.size s) : Int) ≤ (↑(ByteArray.size s) : Int))) (brn (hasP (ByteArray.extract s (Int.toNat (↑(wrdL (bl s))
  : Int)) (Int.toNat (↑(ByteArray.size s) : Int))) { data := #[OfNat.ofNat 46] }) (K (AV.tup [AV.agg [AV.int 0, AV.str { data := #[] }, AV.int 0], AV.int 0]) [])
  (cnd (true && decide ((↑(wrdL (bl s)) : Int) ≤ (↑(ByteArray.size s) : Int))) (K (AV.tup [AV.agg [AV.int 2, AV.lit (Value.string (ByteArray.extract s 0
  (Int.toNat (↑(wrdL (bl s)) : Int)))), AV.int 0], AV.int (↑(wrdL (bl s)) : Int)]) [])))) (K (AV.tup [AV.agg [AV.int 0, AV.str { data := #[] }, AV.int 0], AV.int
  0]) []))) (brn ((↑(byteAt s 0) : Int) == (34 : Int)) (cnd (decide (ByteArray.size s ≤ 1000000000)) (cnd (true && decide ((↑(quoL (List.drop 1 (bl s)) 1) : Int)
  ≤ (↑(ByteArray.size s) : Int))) (∃ (a : ByteArray), ([AV.lit (Value.string (ByteArray.extract s 0 (Int.toNat (↑(quoL (List.drop 1 (bl s)) 1) : Int))))], []) =
  stUqc a ∧ sideUqc a ∧ brn (uqE a != (0 : Int)) (K (AV.tup [AV.agg [AV.int 0, AV.str { data := #[] }, AV.int 0], AV.int 0]) []) (K (AV.tup [AV.agg [AV.int 3,
  AV.str (uqS a), AV.int 0], AV.int (↑(quoL (List.drop 1 (bl s)) 1) : Int)]) [])))) (cnd (decide (0 < ByteArray.size s)) (cnd (true && decide ((0 : Int) ≤ sgnN
  s) && decide (sgnN s ≤ (↑(ByteArray.size s) : Int))) (K (AV.tup [AV.agg [AV.int 4, AV.str (ByteArray.extract s 0 (Int.toNat (sgnN s))), AV.int 0], AV.int (sgnN
  s)]) [])))))))) := by kernel_rfl
theorem quoL_le : ∀ (m : Nat) (l : List UInt8) (n : Nat), l.length ≤ m → quoL l n ≤ n + l.length
  | _, [], n, _ => by simp [quoL]
  | 0, _ :: _, _, h => by simp at h
  | m + 1, b :: l, n, h => by
    rw [List.length_cons] at h
    rw [quoL_cons]
    cases b == 10 with
    | true => exact Nat.zero_le _
    | false =>
    cases b == 92 with
    | true =>
      match l with
      | [] => exact Nat.zero_le _
      | c :: l' =>
        rw [List.length_cons] at h
        have := quoL_le m l' (n + 2) (by omega)
        simp only [List.length_cons, cond_true, cond_false]
        omega
    | false =>
    cases b == 34 with
    | true => simp only [cond_true, cond_false, List.length_cons]; omega
    | false =>
      have := quoL_le m l (n + 1) (by omega)
      simp only [cond_false, List.length_cons]
      omega
theorem si2 : (fldA siB).all (fun t => t.size == 2) = true := by decide +kernel
theorem sgn_rng {s : ByteArray} (h : 0 < s.size) : 0 ≤ sgnN s ∧ sgnN s ≤ s.size := by
  unfold sgnN
  cases e : (fldA siB).any (hasP s) with
  | true =>
    obtain ⟨t, ht, hp⟩ := List.any_eq_true.1 e
    have h2 := List.all_eq_true.1 si2 t ht
    rw [beq_iff_eq] at h2
    unfold hasP at hp
    rw [Bool.and_eq_true, decide_eq_true_eq, h2] at hp
    simp only [cond_true]; omega
  | false =>
    cases decide (Lib.indexByte (bl onesB) (byteAt s 0).toUInt8 < 0) with
    | true => simp only [cond_true, cond_false]; omega
    | false => simp only [cond_false]; omega
abbrev wdN (s : ByteArray) : Nat := wrdL (bl s)
abbrev qtN (s : ByteArray) : Nat := quoL (List.drop 1 (bl s)) 1
def dotB : ByteArray := ⟨#[46]⟩
def tk1 (s : ByteArray) : Int × ByteArray × Int :=
  bif isLe (byteAt s 0 : Nat) then (bif decide ((wdN s : Int) > 40) then (0, ⟨#[]⟩, 0) else (1, s.extract 0 (wdN s), (wdN s : Int)))
  else bif isDi (byteAt s 0 : Nat) then (bif numB (s.extract 0 (wdN s)) then (bif hasP (s.extract (wdN s) s.size) dotB then (0, ⟨#[]⟩, 0) else (2, s.extract 0 (wdN s), (wdN s : Int))) else (0, ⟨#[]⟩, 0))
  else bif ((byteAt s 0 : Nat) : Int) == 34 then (bif uqE (s.extract 0 (qtN s)) != 0 then (0, ⟨#[]⟩, 0) else (3, uqS (s.extract 0 (qtN s)), (qtN s : Int)))
  else (4, s.extract 0 (sgnN s).toNat, sgnN s)
def stTk (s : ByteArray) : List AV × List Dn.Obj := ([.lit (.string s)], [])
def sideTk (s : ByteArray) : Prop := 0 < s.size ∧ s.size ≤ 1000000000
def outTk (s : ByteArray) : Out (AV × List Dn.Obj) := .one (.tup [tkA (tk1 s).1 (tk1 s).2.1 0, .int (tk1 s).2.2], [])
theorem cTk (κ : Kp) : CallOk (BUq κ).E 12 31 (callE stTk sideTk outTk) := by
  refine callE_ok ?_
  rintro s K ⟨h0, h1⟩ ho
  have ho : K (.tup [tkA (tk1 s).1 (tk1 s).2.1 0, .int (tk1 s).2.2]) [] := ho
  have q1 : ∀ r, tk1 s = r → K (.tup [tkA r.1 r.2.1 0, .int r.2.2]) [] := fun r hr => hr ▸ ho
  have hw : wdN s ≤ s.size := by rw [← bl_len]; exact wrdL_le _
  have hq : qtN s ≤ s.size := by
    have := quoL_le _ (List.drop 1 (bl s)) 1 (Nat.le_refl _)
    rw [List.length_drop, bl_len] at this
    unfold qtN
    omega
  have hg := sgn_rng h0
  have hx : ∀ n, (s.extract 0 n).size ≤ 1000000000 := fun n => by rw [ByteArray.size_extract]; omega
  refine Eq.mpr (yTk κ s K) (cnd_iff.2 ⟨decide_eq_true h1, cnd_iff.2 ⟨by simp; omega, ?_⟩⟩)
  unfold tk1 at q1
  rw [brn_iff]
  refine ⟨fun e1 => ?_, fun e1 => ?_⟩
  · rw [e1, cond_true] at q1
    rw [brn_iff]
    refine ⟨fun e2 => q1 (0, ⟨#[]⟩, 0) (by rw [e2]; rfl), fun e2 => cnd_iff.2 ⟨by simp; omega, q1 (1, s.extract 0 (wdN s), (wdN s : Int)) (by rw [e2]; rfl)⟩⟩
  rw [e1, cond_false] at q1
  rw [brn_iff]
  refine ⟨fun e1 => ?_, fun e1 => ?_⟩
  · rw [e1, cond_true] at q1
    refine cnd_iff.2 ⟨by simp; omega, s.extract 0 (wdN s), rfl, hx _, ?_⟩
    rw [brn_iff]
    refine ⟨fun e2 => cnd_iff.2 ⟨by simp; omega, ?_⟩, fun e2 => q1 (0, ⟨#[]⟩, 0) (by rw [e2]; rfl)⟩
    rw [brn_iff]
    refine ⟨fun e3 => q1 (0, ⟨#[]⟩, 0) ?_, fun e3 => cnd_iff.2 ⟨by simp; omega, q1 (2, s.extract 0 (wdN s), (wdN s : Int)) ?_⟩⟩
    · rw [e2, cond_true, show hasP (s.extract (wdN s) s.size) dotB = true from e3]; rfl
    · rw [e2, cond_true, show hasP (s.extract (wdN s) s.size) dotB = false from e3]; rfl
  rw [e1, cond_false] at q1
  rw [brn_iff]
  refine ⟨fun e1 => ?_, fun e1 => ?_⟩
  · rw [e1, cond_true] at q1
    refine cnd_iff.2 ⟨decide_eq_true h1, cnd_iff.2 ⟨by rw [decide_eq_true (show ((qtN s : Nat) : Int) ≤ (s.size : Int) by omega)]; rfl, s.extract 0 (qtN s), rfl, hx _, ?_⟩⟩
    rw [brn_iff]
    exact ⟨fun e2 => q1 (0, ⟨#[]⟩, 0) (by rw [show (uqE (s.extract 0 (qtN s)) != 0) = true from e2]; rfl), fun e2 => q1 (3, uqS (s.extract 0 (qtN s)), (qtN s : Int)) (by rw [show (uqE (s.extract 0 (qtN s)) != 0) = false from e2]; rfl)⟩
  · rw [e1, cond_false] at q1
    exact cnd_iff.2 ⟨decide_eq_true h0, cnd_iff.2 ⟨by simp; omega, q1 _ rfl⟩⟩
noncomputable def BTk (κ : Kp) : EB := (BUq κ).call (cTk κ)
end Go.Proofs.YtbppdpbagmbmpaaGreatDoor
namespace Go.Proofs.YtbppdpbagmbmpaaGreatDoor
open Go Go.Dn Go.Proofs
attribute [local irreducible] funA vc
set_option maxRecDepth 20000
def nlB : ByteArray := ⟨#[10]⟩
abbrev stSp0 (s : ByteArray) (xs : List AV) : S := sp 52 [(0, .yld 0), (1, .ptr 1 0 [] 0), (2, .ptr 2 0 [] 0), (3, .ptr 3 0 [] 0)] [.ext (some xs), .box 9 (.lit (.string nlB)), .box 9 (.lit (.string s)), .box 3 (.int 0)]
theorem xSp (κ : Kp) (s : ByteArray) (xs : List AV) (I : Nat → S → Prop) (n : Nat) (K : Exit → S → Prop) : (vc (BTk κ).E 12 49 none 4 (loopCode (Pr κ).toProgram 49 5) (stSp0 s xs) (loopK (BTk κ).E 49 5 4 I n K)) = (
  brn (decide (Lib.indexByte (bl s) (List.headD (bl nlB) (OfNat.ofNat 0)) < (0 : Int))) (K (Exit.exit 2) (sp 52 [(0, AV.yld 0), (2, AV.ptr 2 0 [] 0)] [Obj.ext
  (some xs), Obj.box 9 (AV.str nlB), Obj.box 9 (AV.str s), Obj.box 3 (AV.int 0)])) (cnd (true && decide ((0 : Int) ≤ IntKind.wrap IntKind.i64 (Lib.indexByte (bl
  s) (List.headD (bl nlB) (OfNat.ofNat 0)) + (0 : Int))) && decide (IntKind.wrap IntKind.i64 (Lib.indexByte (bl s) (List.headD (bl nlB) (OfNat.ofNat 0)) + (0 :
  Int)) ≤ (↑(ByteArray.size s) : Int))) (∃ (rest : List AV), xs = AV.tup [AV.str (ByteArray.extract s 0 (Int.toNat (IntKind.wrap IntKind.i64 (Lib.indexByte (bl
  s) (List.headD (bl nlB) (OfNat.ofNat 0)) + (0 : Int)))))] :: rest ∧ cnd (decide ((0 : Int) ≤ IntKind.wrap IntKind.i64 (Lib.indexByte (bl s) (List.headD (bl
  nlB) (OfNat.ofNat 0)) + (1 : Int))) && decide (IntKind.wrap IntKind.i64 (Lib.indexByte (bl s) (List.headD (bl nlB) (OfNat.ofNat 0)) + (1 : Int)) ≤
  (↑(ByteArray.size s) : Int)) && decide ((↑(ByteArray.size s) : Int) ≤ (↑(ByteArray.size s) : Int))) (∃ (m : Nat), m < n ∧ I m (sp 52 [(0, AV.yld 0), (1, AV.ptr
  1 0 [] 0), (2, AV.ptr 2 0 [] 0), (3, AV.ptr 3 0 [] 0)] [Obj.ext (some rest), Obj.box 9 (AV.str nlB), Obj.box 9 (AV.str (ByteArray.extract s (Int.toNat
  (IntKind.wrap IntKind.i64 (Lib.indexByte (bl s) (List.headD (bl nlB) (OfNat.ofNat 0)) + (1 : Int)))) (Int.toNat (↑(ByteArray.size s) : Int)))), Obj.box 3
  (AV.int 0)])) ∧ K Exit.ret (sp 52 [] [Obj.ext none, Obj.box 9 (AV.str nlB), Obj.box 9 (AV.str s), Obj.box 3 (AV.int 0)])))) := by kernel_rfl
def nlI (s : ByteArray) : Int := Lib.indexByte (bl s) 10
theorem nlI_rng (s : ByteArray) : -1 ≤ nlI s ∧ nlI s < max (s.size : Int) 1 := by
  have h := Lib.indexByte_ge (bl s) 10
  unfold nlI
  refine ⟨h, ?_⟩
  generalize hi : Lib.indexByte (bl s) 10 = i at h
  by_cases h0 : i < 0
  · omega
  · obtain ⟨o, rfl⟩ : ∃ o : Nat, i = o := ⟨i.toNat, by omega⟩
    obtain ⟨h1, _⟩ := Lib.indexByte_some hi
    obtain ⟨h2, _⟩ := List.getElem?_eq_some_iff.1 h1
    rw [bl_len] at h2
    omega
def linF : Nat → ByteArray → List ByteArray
  | 0, s => [s]
  | k + 1, s => bif decide (nlI s < 0) then [s] else s.extract 0 (nlI s).toNat :: linF k (s.extract (nlI s + 1).toNat s.size)
structure ASp where
  s : ByteArray
  k : Nat
  xs : List AV
def stSpl (x : ASp) : S := stSp0 x.s x.xs
def sideSpl (x : ASp) : Prop := x.s.size ≤ 1000000000 ∧ x.s.size ≤ x.k ∧ x.xs = itS (linF x.k x.s)
def outSpl (_ : ASp) : Out (Exit × S) := .all (fun _ : Bool × ByteArray => True) fun b => .brn b.1
  (.one (.exit 2, sp 52 [(0, .yld 0), (2, .ptr 2 0 [] 0)] [.ext (some (itS [b.2])), .box 9 (.lit (.string nlB)), .box 9 (.lit (.string b.2)), .box 3 (.int 0)])) (.one (.ret, sp 52 [] [.ext none, .box 9 (.lit (.string nlB)), .box 9 (.lit (.string b.2)), .box 3 (.int 0)]))
theorem linF_none : ∀ (k : Nat) (s : ByteArray), s.size ≤ k → nlI s < 0 → linF k s = [s]
  | 0, _, _, _ => rfl
  | k + 1, s, _, h => by rw [linF, decide_eq_true h]; rfl
theorem lSp (κ : Kp) : LoopOk (BTk κ).E 12 49 5 (loopE 4 stSpl sideSpl outSpl) := by
  refine loopE_ok (fun x => x.k) ?_
  rintro ⟨s, k, xs⟩ K ⟨h1, h2, h3⟩ ho
  simp only at h1 h2 h3
  rw [show (BTk κ).E.P = Pr κ from rfl]
  refine Eq.mpr (xSp κ s xs _ _ K) ?_
  have hex := fun t => (brn_iff.1 (ho (true, t) trivial)).1 rfl
  have hrt := fun t => (brn_iff.1 (ho (false, t) trivial)).2 rfl
  obtain ⟨r1, r2⟩ := nlI_rng s
  show brn (decide (nlI s < 0)) _ _
  rw [brn_iff]
  refine ⟨fun e => ?_, fun e => ?_⟩
  · rw [linF_none k s h2 (of_decide_eq_true e)] at h3
    subst h3
    exact hex s
  · have e' : ¬ nlI s < 0 := of_decide_eq_false e
    have hs0 : nlI s < s.size := by
      rcases Nat.eq_zero_or_pos s.size with h0 | h0
      · exfalso
        have : bl s = [] := List.eq_nil_of_length_eq_zero (by rw [bl_len]; exact h0)
        unfold nlI at e'
        rw [this] at e'
        exact e' (by decide)
      · omega
    obtain ⟨k', rfl⟩ : ∃ k', k = k' + 1 := ⟨k - 1, by omega⟩
    rw [linF, e, cond_false] at h3
    have w0 : IntKind.wrap .i64 (Lib.indexByte (bl s) (List.headD (bl nlB) 0) + 0) = nlI s :=
      (wrap_ok (show -9223372036854775808 ≤ nlI s + 0 by omega) (show nlI s + 0 ≤ 9223372036854775807 by omega)).trans (Int.add_zero _)
    have w1 : IntKind.wrap .i64 (Lib.indexByte (bl s) (List.headD (bl nlB) 0) + 1) = nlI s + 1 := wrap_ok (show -9223372036854775808 ≤ nlI s + 1 by omega) (show nlI s + 1 ≤ 9223372036854775807 by omega)
    simp only [w0, w1]
    refine cnd_iff.2 ⟨by simp; omega, _, h3, cnd_iff.2 ⟨by simp; omega, ?_⟩, hrt s⟩
    exact ⟨k', Nat.lt_succ_self _, ⟨s.extract (nlI s + 1).toNat s.size, k', _⟩, rfl, ⟨by simp only [ByteArray.size_extract]; omega, by simp only [ByteArray.size_extract]; omega, rfl⟩, rfl, ho⟩
noncomputable def BSl (κ : Kp) : EB := (BTk κ).loop (lSp κ)
theorem ySp (κ : Kp) (s : ByteArray) (xs : List AV) (K : AV → List Dn.Obj → Prop) : (funA (BSl κ).E 12 49 [.yld 0, .ptr 1 0 [] 0, .ptr 2 0 [] 0, .ptr 3 0 [] 0] [.ext (some xs), .box 9 (.lit (.string nlB)), .box 9 (.lit (.string s)), .box 3 (.int 0)] K) = (
  loopCode (Pg.toProgram (Env.P (EB.E (BTk κ)))) 49 5 = loopCode (Pg.toProgram (Env.P (EB.E (BTk κ)))) 49 5 ∧ ∃ (a : ASp), sp 52 [(0, AV.yld 0), (1, AV.ptr 1 0 []
  0), (2, AV.ptr 2 0 [] 0), (3, AV.ptr 3 0 [] 0)] [Obj.ext (some xs), Obj.box 9 (AV.str nlB), Obj.box 9 (AV.str s), Obj.box 3 (AV.int 0)] = stSpl a ∧ sideSpl a ∧
  ∀ (y : Bool × ByteArray), True → brn y.1 (∃ (rest : List AV), [AV.tup [AV.str y.2]] = AV.tup [AV.str y.2] :: rest ∧ K (AV.tup []) [Obj.ext (some rest), Obj.box
  9 (AV.str nlB), Obj.box 9 (AV.str y.2), Obj.box 3 (AV.int 0)] ∧ K (AV.tup []) [Obj.ext none, Obj.box 9 (AV.str nlB), Obj.box 9 (AV.str y.2), Obj.box 3 (AV.int
  0)]) (K (AV.tup []) [Obj.ext none, Obj.box 9 (AV.str nlB), Obj.box 9 (AV.str y.2), Obj.box 3 (AV.int 0)])) := by kernel_rfl
def stSpc (s : ByteArray) : List AV × List Dn.Obj := ([.yld 0, .ptr 1 0 [] 0, .ptr 2 0 [] 0, .ptr 3 0 [] 0], [.ext (some (itS (linF s.size s))), .box 9 (.lit (.string nlB)), .box 9 (.lit (.string s)), .box 3 (.int 0)])
def sideSpc (s : ByteArray) : Prop := s.size ≤ 1000000000
def outSpc (_ : ByteArray) : Out (AV × List Dn.Obj) := .all (fun st' => tdone st') fun st' => .one (.tup [], st')
theorem cSp (κ : Kp) : CallOk (BSl κ).E 12 49 (callE stSpc sideSpc outSpc) := by
  refine callE_ok ?_
  rintro s K h1 ho
  refine Eq.mpr (ySp κ s (itS (linF s.size s)) K) ?_
  exact ⟨rfl, ⟨s, s.size, itS (linF s.size s)⟩, rfl, ⟨h1, Nat.le_refl _, rfl⟩, fun y _ => brn_iff.2 ⟨fun _ => ⟨[], rfl, ho _ trivial, ho _ trivial⟩, fun _ => ho _ trivial⟩⟩
noncomputable def BSp (κ : Kp) : EB := (BSl κ).call (cSp κ)
end Go.Proofs.YtbppdpbagmbmpaaGreatDoor
