import Derived.Test.YtbppdpbagmbmpaaGreatDoorDoL
import Derived.Lib.ItoaNum
import Derived.Test.YtbppdpbagmbmpaaGreatDoorProg
namespace Go.Proofs.YtbppdpbagmbmpaaGreatDoor
open Go Go.Dn Go.Proofs
attribute [local irreducible] funA vc
set_option maxRecDepth 20000
def liveT : List (Nat × List (Nat × List (Nat × Option Nat))) := [
  (5, [(17, [(3, none), (4, none), (5, none), (7, none), (8, none), (10, none), (11, none)]), (18004, [(3, none), (5, none), (7, none), (8, none), (10, none)]), (18001, [(2, none)]), (7, [(0, none), (3, none), (4, none), (5, none), (6, none), (7, none), (8, none), (9, none)]), (8002, [(3, none), (4, none), (5, none), (6, none), (7, none), (8, none)])]),
  (7, [(4, [(0, none), (3, none), (4, none)]), (5002, [(0, none), (3, none)]), (5001, [(2, none)])]),
  (11, [(14, [(0, none), (5, none), (6, none), (7, none)]), (15004, [(0, none), (5, none), (6, none), (7, none)]), (6, [(0, none), (5, some 31), (6, none), (7, none)]), (7002, [(5, none), (6, none)]), (7001, [(2, none), (3, none), (4, none)])]),
  (12, [(4, [(0, none), (1, none), (5, none)]), (5002, []), (5001, [(4, none)])]),
  (15, [(4, [(0, none), (1, none), (5, none)]), (5002, []), (5001, [(4, none)])]),
  (16, [(7, [(0, none), (5, some 31), (6, none), (7, none)]), (8002, [(5, none)]), (8001, [(2, none), (3, none), (4, none)])]),
  (19, [(12, [(6, none), (26, none), (27, none), (28, none)]), (13004, [(6, none)]), (3, [(0, none), (3, none), (9, none), (10, none), (11, none)]), (4002, [(0, none), (3, none)])]),
  (25, [(8, [(0, none), (1, none), (6, none)]), (9004, [(0, none), (1, none), (6, none)]), (2, [(0, none), (1, none), (6, none)]), (3002, [(1, none), (6, none)])]),
  (28, [(1, [(0, none), (1, none), (2, none), (4, none)]), (2002, [(0, none), (2, none), (4, none)]), (2001, [])]),
  (35, [(18, [(1, none), (3, none), (6, none), (48, none), (49, none), (50, none)]), (19005, []), (19001, [(8, none)]), (1, [(0, none), (1, none), (3, none), (6, none)]), (2001, [(8, none)])]),
  (38, [(1, [(0, none), (1, none)]), (2002, [(1, none)])]),
  (39, [(9, [(0, none), (4, none), (6, none), (7, none)]), (10002, [(0, none), (4, none), (6, none)]), (10001, [(2, none), (3, none)])]),
  (40, [(2, [(0, none), (5, none)]), (3002, [(0, none), (5, none)]), (3001, [(4, none)])]),
  (41, [(6, [(4, none), (5, some 5), (6, none)]), (7002, [(5, none)]), (7001, [(2, none), (3, none)])]),
  (46, [(2, [(0, none), (5, none)]), (3002, [(0, none), (5, none)]), (3001, [(4, none)])]),
  (47, [(1, [(0, none), (1, none)]), (2002, [(1, none)])]),
  (49, [(5, [(0, none), (1, none), (2, none), (3, none)]), (6004, [(0, none), (2, none)]), (6001, []), (1, [(0, none), (2, none)]), (2002, []), (2001, [])]),
  (52, [(1, [(0, none), (1, none)]), (2002, [(0, none)])]),
  (53, [(2, [(0, none), (2, none), (4, none)]), (3002, [(2, none)]), (3001, [(2, none), (3, none)])]),
  (54, [(1, [(0, none), (1, none)]), (2002, [(0, none)])]),
  (55, [(1, [(0, none), (1, none)]), (2002, [(0, none)])]),
  (57, [(2, [(0, none), (3, none)]), (3002, [(3, none)])]),
  (61, [(2, [(0, none), (3, none)]), (3002, []), (3001, [(2, none)])]),
  (68, [(5, [(0, none), (1, none), (6, none), (7, none)]), (6004, [(0, none), (1, none), (6, none)]), (6001, [(4, none), (5, none)]), (2, [(0, none), (1, none), (6, none)]), (3002, []), (3001, [(4, none), (5, none)])]),
  (69, [(2, [(0, none), (1, none), (3, none), (4, none)]), (3002, [(0, none), (1, none), (3, none)]), (3001, [])]),
  (71, [(1, [(0, none), (1, none)]), (2002, [(1, none)])]),
  (73, [(15, [(0, none), (1, none), (5, none), (6, none), (7, none), (8, none), (9, none), (10, none)]), (16003, []), (16001, [(4, none)])]),
  (83, [(2, [(0, none), (3, none)]), (3002, [(3, none)])]),
  (89, [(11, [(0, none), (1, none), (5, none), (6, none), (7, none), (8, none), (10, none)]), (12004, []), (12001, [(4, none)]), (5, [(0, none), (1, none), (5, none), (6, none), (7, none), (8, none), (9, none)]), (6002, [(0, none), (1, none), (5, none), (6, none), (7, none), (8, none)])]),
  (90, [(38, [(175, none)]), (39011, []), (39001, [(4, none)]), (29, [(0, none), (7, none), (8, none), (9, none), (14, none), (15, none), (16, none)]), (30009, [(8, none), (9, none)]), (30008, [(0, none), (7, none), (8, none), (9, none), (14, none), (15, none)]), (25, [(0, none), (7, none), (8, none), (9, none), (14, none), (15, none)]), (26007, []), (26001, [(4, none)]), (12, [(0, none), (7, none), (8, none), (9, none), (12, none)]), (13005, [(8, none), (9, none)]), (5, [(0, none), (7, none), (8, none), (9, none)]), (6003, []), (6001, [(4, none)])]),
  (94, [(0, [(0, none), (1, none)]), (1002, []), (1001, [])]),
  (98, [(17, [(1, none), (2, none), (43, none), (44, none), (45, none)]), (18005, []), (18001, [(6, none)]), (1, [(0, none), (1, none), (2, none)]), (2001, [(6, none)])]),
  (99, [(14, [(0, none), (1, none), (7, none), (8, none)]), (15004, []), (15001, [(4, none)]), (3, [(0, none), (1, none), (19, none), (20, none)]), (4002, []), (4001, [(4, none)])]),
  (100, [(14, [(0, none), (1, none), (7, none), (8, none)]), (15004, []), (15001, [(4, none)]), (3, [(0, none), (1, none), (15, none), (16, none)]), (4002, []), (4001, [(4, none)])]),
  (102, [(8, [(4, none), (6, none), (7, none), (8, none)]), (9004, [(4, none), (6, none)]), (3, [(0, none), (4, none), (5, none)]), (4002, [(0, none), (4, none)])]),
  (104, [(36, [(1, none), (8, none), (9, none), (10, none), (11, none), (12, none), (13, none), (99, none), (100, none), (101, none)]), (37005, [(9, none), (12, none), (13, none)]), (37001, [(6, none), (7, none)])]),
  (112, [(10, [(0, none), (3, none), (4, none), (5, none)]), (11002, [(3, none)]), (11001, [(2, none)])]),
  (118, [(1, [(0, none), (1, none), (4, none)]), (2002, [(0, none), (1, none), (4, none)])]),
  (119, [(11, [(0, none), (1, none), (3, none), (4, none), (10, none), (11, none), (12, none), (13, none), (14, none), (15, none), (16, none)]), (12002, [(0, none), (1, none), (3, none), (4, none), (10, none), (11, none), (12, none), (13, none)]), (18, [(0, none), (1, none), (3, none), (4, none), (10, none), (11, none), (12, none), (13, none), (17, none)]), (19004, [(0, none), (1, none), (3, none), (4, none), (10, none), (11, none), (12, none), (13, none)])])
  ]
def lk2 (k : Nat) : List (Nat × List (Nat × Option Nat)) → List (Nat × Option Nat)
  | [] => []
  | (j, l) :: r => bif Nat.beq j k then l else lk2 k r
def lk1 (f k : Nat) : List (Nat × List (Nat × List (Nat × Option Nat))) → List (Nat × Option Nat)
  | [] => []
  | (g, l) :: r => bif Nat.beq g f then lk2 k l else lk1 f k r
def live (f k : Nat) : List (Nat × Option TypeId) := lk1 f k liveT
noncomputable def spaceV : Array Value := ((List.range 256).map fun c => Value.int .u8 (if c == 32 || (9 ≤ c && c ≤ 13) then 1 else 0)).toArray
noncomputable def powV : Array Value := (Lib.pow10Tab.map fun z => Value.int .u64 z).toArray
structure Kp where
  form : Addr
  syn : Value
  rng : Value
  T1 : TypeId
  T2 : TypeId
  T3 : TypeId
  T4 : TypeId
  T5 : TypeId
  T6 : TypeId
  z1 : Nat × Nat
  z2 : Nat × Nat
  z3 : Nat × Nat
  z4 : Nat × Nat
  z5 : Nat × Nat
  z6 : Nat × Nat
  hsyn : ∃ te pe, syn = .iface te pe
  hrng : ∃ te pe, rng = .iface te pe
def errForm (κ : Kp) : Value := .iface 179 (.pointer (some κ.form))
noncomputable def keptO (κ : Kp) (b : Nat) : Option Go.Obj :=
  bif Nat.beq b 2 then some (.cells #[.iface 179 (.pointer (some κ.form))] κ.T1 κ.z1)
  else bif Nat.beq b 1 then some (.cells spaceV κ.T2 κ.z2)
  else bif Nat.beq b 9 then some (.cells powV κ.T3 κ.z3)
  else bif Nat.beq b 7 then some (.cells #[κ.syn] κ.T4 κ.z4)
  else bif Nat.beq b 8 then some (.cells #[κ.rng] κ.T5 κ.z5)
  else bif Nat.beq b 0 then some (.cells #[.iface 94 (.agg #[typeHandle Tryz.prog 35])] κ.T6 κ.z6)
  else none
noncomputable abbrev Pr (κ : Kp) : Pg := { toProgram := Tryz.prog, kept := keptO κ, imm := fun T => Nat.beq T 44 }
theorem prog_fine : ProgOK Tryz.prog := prog_ok (by kernel_rfl)
def inlT : List Nat := [17, 27, 18, 43, 78, 30, 77]
def ownT : List Nat := []
def quietT : List Nat := [58, 59, 57, 23, 96, 56, 82, 13, 63, 61, 77, 93]
def freshT : List Nat := []
noncomputable def E0 (κ : Kp) : Env := ((Env.none (Pr κ) live (fun f => memN f inlT) (fun f => memN f ownT) (fun f => memN f quietT)).withFresh (fun f => memN f freshT)).withCalm (fun _ => false)
noncomputable def B0 (κ : Kp) : EB := ⟨E0 κ, ((EnvOK.none prog_fine).withFresh _).withCalm _, (EnvMono.none.withFresh _).withCalm _⟩
end Go.Proofs.YtbppdpbagmbmpaaGreatDoor
namespace Go.Proofs.YtbppdpbagmbmpaaGreatDoor
open Go Go.Dn Go.Proofs
attribute [local irreducible] funA vc
set_option maxRecDepth 20000
theorem wrap_ok {n : Int} (h0 : -9223372036854775808 ≤ n) (h1 : n ≤ 9223372036854775807) : IntKind.wrap .i64 n = n := by
  unfold IntKind.wrap
  simp only [IntKind.bits, IntKind.signed]
  by_cases h : 0 ≤ n
  · have e : n % 18446744073709551616 = n := Int.emod_eq_of_lt h (by omega)
    simp [e]; omega
  · have e : n % 18446744073709551616 = n + 18446744073709551616 := by
      have := Int.emod_emod_of_dvd
      omega
    simp [e]; omega
theorem yLe (κ : Kp) (c : Int) (K : AV → List Dn.Obj → Prop) : (funA (B0 κ).E 12 58 [.lit (.int .u8 c)] [] K) = (
  brn (decide (c ≥ (97 : Int))) (brn (decide (c ≤ (122 : Int))) (K (AV.bool true) []) (brn (decide (c ≥ (65 : Int))) (brn (decide (c ≤ (90 : Int))) (K (AV.bool
  true) []) (K (AV.bool (c == (95 : Int))) [])) (K (AV.bool (c == (95 : Int))) []))) (brn (decide (c ≥ (65 : Int))) (brn (decide (c ≤ (90 : Int))) (K (AV.bool
  true) []) (K (AV.bool (c == (95 : Int))) [])) (K (AV.bool (c == (95 : Int))) []))) := by kernel_rfl
theorem yDi (κ : Kp) (c : Int) (K : AV → List Dn.Obj → Prop) : (funA (B0 κ).E 12 59 [.lit (.int .u8 c)] [] K) = (
  brn (decide (c ≥ (48 : Int))) (K (AV.bool (decide (c ≤ (57 : Int)))) []) (K (AV.bool false) [])) := by kernel_rfl
theorem yPl (κ : Kp) (c : Int) (K : AV → List Dn.Obj → Prop) : (funA (B0 κ).E 12 96 [.lit (.int .u8 c)] [] K) = (
  brn (decide (c ≥ (32 : Int))) (brn (decide (c ≤ (126 : Int))) (brn (c != (34 : Int)) (K (AV.bool (c != (92 : Int))) []) (K (AV.bool false) [])) (K (AV.bool
  false) [])) (K (AV.bool false) [])) := by kernel_rfl
theorem yHp (κ : Kp) (s t : ByteArray) (K : AV → List Dn.Obj → Prop) : (funA (B0 κ).E 12 56 [.lit (.string s), .lit (.string t)] [] K) = (
  brn (decide ((↑(ByteArray.size s) : Int) ≥ (↑(ByteArray.size t) : Int))) (cnd (true && decide ((↑(ByteArray.size t) : Int) ≤ (↑(ByteArray.size s) : Int))) (K
  (AV.bool (ByteArray.toList (ByteArray.extract s 0 (Int.toNat (↑(ByteArray.size t) : Int))) == ByteArray.toList t)) [])) (K (AV.bool false) [])) := by kernel_rfl
def isLe (c : Int) : Bool := (decide (c ≥ 97) && decide (c ≤ 122)) || ((decide (c ≥ 65) && decide (c ≤ 90)) || (c == 95))
def isDi (c : Int) : Bool := decide (c ≥ 48) && decide (c ≤ 57)
def isPl (c : Int) : Bool := (decide (c ≥ 32) && decide (c ≤ 126)) && ((c != 34) && (c != 92))
def hasP (s t : ByteArray) : Bool := decide (t.size ≤ s.size) && ((s.extract 0 t.size).toList == t.toList)
def gLe : List AV → Option (Bool × AV)
  | [.lit (.int .u8 c)] => some (true, .bool (isLe c))
  | _ => none
theorem pLe (κ : Kp) : PureOk (B0 κ).E 12 58 gLe := by
  intro args x hh
  unfold gLe at hh
  split at hh
  · rename_i c
    simp only [Option.some.injEq, Prod.mk.injEq, true_and] at hh
    subst hh
    refine ⟨_, rfl, rfl, Eq.mpr (yLe κ c _) ?_⟩
    unfold isLe
    cases decide (c ≥ 97) <;> cases decide (c ≤ 122) <;> cases decide (c ≥ 65) <;> cases decide (c ≤ 90) <;> exact rfl
  · cases hh
def gDi : List AV → Option (Bool × AV)
  | [.lit (.int .u8 c)] => some (true, .bool (isDi c))
  | _ => none
theorem pDi (κ : Kp) : PureOk (B0 κ).E 12 59 gDi := by
  intro args x hh
  unfold gDi at hh
  split at hh
  · rename_i c
    simp only [Option.some.injEq, Prod.mk.injEq, true_and] at hh
    subst hh
    refine ⟨_, rfl, rfl, Eq.mpr (yDi κ c _) ?_⟩
    unfold isDi
    cases decide (c ≥ 48) <;> exact rfl
  · cases hh
def gPl : List AV → Option (Bool × AV)
  | [.lit (.int .u8 c)] => some (true, .bool (isPl c))
  | _ => none
theorem pPl (κ : Kp) : PureOk (B0 κ).E 12 96 gPl := by
  intro args x hh
  unfold gPl at hh
  split at hh
  · rename_i c
    simp only [Option.some.injEq, Prod.mk.injEq, true_and] at hh
    subst hh
    refine ⟨_, rfl, rfl, Eq.mpr (yPl κ c _) ?_⟩
    unfold isPl
    cases decide (c ≥ 32) <;> cases decide (c ≤ 126) <;> cases (c != 34) <;> exact rfl
  · cases hh
def gHp : List AV → Option (Bool × AV)
  | [.lit (.string s), .lit (.string t)] => some (true, .bool (hasP s t))
  | _ => none
theorem pHp (κ : Kp) : PureOk (B0 κ).E 12 56 gHp := by
  intro args x hh
  unfold gHp at hh
  split at hh
  · rename_i s t
    simp only [Option.some.injEq, Prod.mk.injEq, true_and] at hh
    subst hh
    refine ⟨_, rfl, rfl, Eq.mpr (yHp κ s t _) ?_⟩
    rw [brn_iff, decide_eq_true_eq, decide_eq_false_iff_not]
    refine ⟨fun h => cnd_iff.2 ⟨by simpa using h, ?_⟩, fun h => ?_⟩
    · unfold hasP
      rw [decide_eq_true (show t.size ≤ s.size by omega)]; rfl
    · unfold hasP
      rw [decide_eq_false (show ¬ t.size ≤ s.size by omega)]; rfl
  · cases hh
noncomputable def B1 (κ : Kp) : EB := ⟨(((B0 κ).E.addPure 58 gLe).addPure 59 gDi), (((B0 κ).ok.addPure (B0 κ).mono (pLe κ)).addPureSim (pure_sim (B0 κ).ok (B0 κ).mono (pDi κ))), ((B0 κ).mono.addPure).addPure⟩
noncomputable def B2 (κ : Kp) : EB := ⟨(((B1 κ).E.addPure 96 gPl).addPure 56 gHp), (((B1 κ).ok.addPureSim (pure_sim (B0 κ).ok (B0 κ).mono (pPl κ))).addPureSim (pure_sim (B0 κ).ok (B0 κ).mono (pHp κ))), ((B1 κ).mono.addPure).addPure⟩
end Go.Proofs.YtbppdpbagmbmpaaGreatDoor
namespace Go.Proofs.YtbppdpbagmbmpaaGreatDoor
open Go Go.Dn Go.Proofs
attribute [local irreducible] funA vc
set_option maxRecDepth 20000
abbrev stWo (s : ByteArray) (n : Nat) : S := sp 23 [(0, .lit (.string s)), (3, .int n)] []
theorem xWo (κ : Kp) (s : ByteArray) (n : Nat) (I : Nat → S → Prop) (m : Nat) (K : Exit → S → Prop) : (vc (B2 κ).E 12 57 none 0 (loopCode (Pr κ).toProgram 57 2) (stWo s n) (loopK (B2 κ).E 57 2 0 I m K)) = (
  brn (decide ((↑n : Int) < (↑(ByteArray.size s) : Int))) (cnd (true && decide ((↑n : Int) < (↑(ByteArray.size s) : Int))) (brn (isLe (↑(byteAt s (Int.toNat (↑n :
  Int))) : Int)) (∃ (m_1 : Nat), m_1 < m ∧ I m_1 (sp 23 [(0, AV.str s), (3, AV.int (IntKind.wrap IntKind.i64 ((↑n : Int) + (1 : Int))))] [])) (cnd (true &&
  decide ((↑n : Int) < (↑(ByteArray.size s) : Int))) (brn (isDi (↑(byteAt s (Int.toNat (↑n : Int))) : Int)) (∃ (m_1 : Nat), m_1 < m ∧ I m_1 (sp 23 [(0, AV.str
  s), (3, AV.int (IntKind.wrap IntKind.i64 ((↑n : Int) + (1 : Int))))] [])) (K (Exit.exit 0) (sp 23 [(3, AV.int (↑n : Int))] [])))))) (K (Exit.exit 0) (sp 23
  [(3, AV.int (↑n : Int))] []))) := by kernel_rfl
abbrev bl (s : ByteArray) : List UInt8 := s.data.toList
theorem bl_len (s : ByteArray) : (bl s).length = s.size := Array.length_toList ..
theorem bl_at {s : ByteArray} {n : Nat} (h : n < s.size) : ∃ b : UInt8, (bl s).drop n = b :: (bl s).drop (n + 1) ∧ byteAt s n = b.toNat := by
  have h' : n < (bl s).length := by rw [bl_len]; exact h
  refine ⟨(bl s)[n], List.drop_eq_getElem_cons h', ?_⟩
  unfold byteAt
  rw [getElem?_pos s n h, show (bl s)[n] = s.data[n]'h from Array.getElem_toList ..]
  rfl
def isWb (b : UInt8) : Bool := isLe (b.toNat : Nat) || isDi (b.toNat : Nat)
def wrdL : List UInt8 → Nat
  | [] => 0
  | b :: l => bif isWb b then wrdL l + 1 else 0
theorem wrdL_le : ∀ l : List UInt8, wrdL l ≤ l.length
  | [] => Nat.le_refl _
  | b :: l => by
    have := wrdL_le l
    rw [wrdL]
    cases isWb b with
    | true => simp only [cond_true, List.length_cons]; omega
    | false => exact Nat.zero_le _
def quoL : List UInt8 → Nat → Nat
  | [], _ => 0
  | b :: l, n => bif b == 10 then 0 else bif b == 92 then (match l with | [] => 0 | _ :: l => quoL l (n + 2)) else bif b == 34 then n + 1 else quoL l (n + 1)
theorem quoL_cons (b : UInt8) (l : List UInt8) (n : Nat) : quoL (b :: l) n = bif b == 10 then 0 else bif b == 92 then (match l with | [] => 0 | _ :: l => quoL l (n + 2)) else bif b == 34 then n + 1 else quoL l (n + 1) := by
  rw [quoL.eq_def]
theorem u8_eq (b c : UInt8) : (((b.toNat : Nat) : Int) == ((c.toNat : Nat) : Int)) = (b == c) := by
  rw [Bool.eq_iff_iff, beq_iff_eq, beq_iff_eq]
  exact ⟨fun h => UInt8.toNat_inj.1 (Int.ofNat_inj.1 h), fun h => by rw [h]⟩
structure AWo where
  s : ByteArray
  n : Nat
abbrev stWo' (x : AWo) : S := stWo x.s x.n
def sideWo (x : AWo) : Prop := x.s.size ≤ 1000000000 ∧ x.n ≤ x.s.size
def outWo (x : AWo) : Out (Exit × S) := .one (.exit 0, sp 23 [(3, .int (x.n + wrdL ((bl x.s).drop x.n) : Nat))] [])
theorem lWo (κ : Kp) : LoopOk (B2 κ).E 12 57 2 (loopE 0 stWo' sideWo outWo) := by
  refine loopE_ok (fun x => x.s.size - x.n) ?_
  rintro ⟨s, n⟩ K ⟨h1, h2⟩ ho
  simp only at h1 h2
  rw [show (B2 κ).E.P = Pr κ from rfl]
  refine Eq.mpr (xWo κ s n _ _ K) ?_
  simp only [outWo, Out.run] at ho
  simp only [Int.toNat_natCast]
  rw [brn_iff, decide_eq_true_eq, decide_eq_false_iff_not]
  refine ⟨fun h => ?_, fun h => ?_⟩
  · have hn : n < s.size := by omega
    obtain ⟨b, hd, hb⟩ := bl_at hn
    have hc : (true && decide ((n : Int) < (s.size : Int))) = true := by simp; omega
    rw [hd, wrdL, isWb] at ho
    rw [hb, wrap_ok (n := (n : Int) + 1) (by omega) (by omega)]
    refine cnd_iff.2 ⟨hc, ?_⟩
    have next : (isLe (b.toNat : Nat) || isDi (b.toNat : Nat)) = true → ∃ m, m < s.size - n ∧ invOf stWo' sideWo outWo (fun x => x.s.size - x.n) K m (stWo s (n + 1)) := fun e => by
      rw [e, cond_true] at ho
      refine ⟨_, by simp only; omega, ⟨s, n + 1⟩, rfl, ⟨h1, hn⟩, rfl, ?_⟩
      simp only [outWo, Out.run]
      rw [show n + 1 + wrdL ((bl s).drop (n + 1)) = n + (wrdL ((bl s).drop (n + 1)) + 1) by omega]
      exact ho
    rw [brn_iff]
    refine ⟨fun e => next (by rw [e]; rfl), fun e => cnd_iff.2 ⟨hc, ?_⟩⟩
    rw [brn_iff]
    refine ⟨fun e2 => next (by rw [e2, Bool.or_true]), fun e2 => ?_⟩
    rw [e, e2] at ho
    exact ho
  · have hn : n = s.size := by omega
    subst hn
    rw [List.drop_eq_nil_of_le (by rw [bl_len]; exact Nat.le_refl _)] at ho
    exact ho
noncomputable def BWl (κ : Kp) : EB := (B2 κ).loop (lWo κ)
theorem yWo (κ : Kp) (s : ByteArray) (K : AV → List Dn.Obj → Prop) : (funA (BWl κ).E 12 57 [.lit (.string s)] [] K) = (
  loopCode (Pg.toProgram (Env.P (EB.E (B2 κ)))) 57 2 = loopCode (Pg.toProgram (Env.P (EB.E (B2 κ)))) 57 2 ∧ ∃ (a : AWo), sp 23 [(0, AV.str s), (3, AV.int 0)] [] =
  stWo' a ∧ sideWo a ∧ K (AV.int (↑(a.n + wrdL (List.drop a.n (bl a.s))) : Int)) []) := by kernel_rfl
def gWo : List AV → Option (Bool × AV)
  | [.lit (.string s)] => some (decide (s.size ≤ 1000000000), .int (wrdL (bl s) : Nat))
  | _ => none
theorem pWo (κ : Kp) : PureOk (BWl κ).E 12 57 gWo := by
  intro args x hh
  unfold gWo at hh
  split at hh
  · rename_i s
    simp only [Option.some.injEq, Prod.mk.injEq, decide_eq_true_eq] at hh
    obtain ⟨h1, rfl⟩ := hh
    refine ⟨_, rfl, rfl, Eq.mpr (yWo κ s _) ?_⟩
    refine ⟨rfl, ⟨s, 0⟩, rfl, ⟨h1, Nat.zero_le _⟩, ?_⟩
    simp only [List.drop_zero, Nat.zero_add]
  · cases hh
noncomputable def BWo (κ : Kp) : EB := (BWl κ).pure (pWo κ)
theorem xQu (κ : Kp) (s : ByteArray) (n : Nat) (I : Nat → S → Prop) (m : Nat) (K : Exit → S → Prop) : (vc (BWo κ).E 12 61 none 0 (loopCode (Pr κ).toProgram 61 2) (sp 27 [(0, .lit (.string s)), (3, .int n)] []) (loopK (BWo κ).E 61 2 0 I m K)) = (
  brn (decide ((↑n : Int) < (↑(ByteArray.size s) : Int))) (cnd (true && decide ((↑n : Int) < (↑(ByteArray.size s) : Int))) (brn ((↑(byteAt s (Int.toNat (↑n :
  Int))) : Int) != (10 : Int)) (cnd (true && decide ((↑n : Int) < (↑(ByteArray.size s) : Int))) (brn ((↑(byteAt s (Int.toNat (↑n : Int))) : Int) == (92 : Int))
  (∃ (m_1 : Nat), m_1 < m ∧ I m_1 (sp 27 [(0, AV.str s), (3, AV.int (IntKind.wrap IntKind.i64 (IntKind.wrap IntKind.i64 ((↑n : Int) + (1 : Int)) + (1 : Int))))]
  [])) (brn ((↑(byteAt s (Int.toNat (↑n : Int))) : Int) == (34 : Int)) (K Exit.ret (sp 27 [(2, AV.int (IntKind.wrap IntKind.i64 ((↑n : Int) + (1 : Int))))] []))
  (∃ (m_1 : Nat), m_1 < m ∧ I m_1 (sp 27 [(0, AV.str s), (3, AV.int (IntKind.wrap IntKind.i64 ((↑n : Int) + (1 : Int))))] []))))) (K (Exit.exit 0) (sp 27 []
  [])))) (K (Exit.exit 0) (sp 27 [] []))) := by kernel_rfl
structure AQu where
  s : ByteArray
  n : Nat
abbrev stQu (x : AQu) : S := sp 27 [(0, .lit (.string x.s)), (3, .int x.n)] []
def sideQu (x : AQu) : Prop := x.s.size ≤ 1000000000 ∧ x.n ≤ x.s.size + 2
def outQu (x : AQu) : Out (Exit × S) := .brn (decide (quoL ((bl x.s).drop x.n) x.n = 0)) (.one (.exit 0, sp 27 [] [])) (.one (.ret, sp 27 [(2, .int (quoL ((bl x.s).drop x.n) x.n : Nat))] []))
theorem lQu (κ : Kp) : LoopOk (BWo κ).E 12 61 2 (loopE 0 stQu sideQu outQu) := by
  refine loopE_ok (fun x => x.s.size + 2 - x.n) ?_
  rintro ⟨s, n⟩ K ⟨h1, h2⟩ ho
  simp only at h1 h2
  rw [show (BWo κ).E.P = Pr κ from rfl]
  refine Eq.mpr (xQu κ s n _ _ K) ?_
  simp only [outQu, Out.run, brn_iff, decide_eq_true_eq, decide_eq_false_iff_not] at ho
  simp only [Int.toNat_natCast]
  rw [brn_iff, decide_eq_true_eq, decide_eq_false_iff_not]
  refine ⟨fun h => ?_, fun h => ?_⟩
  · have hn : n < s.size := by omega
    obtain ⟨b, hd, hb⟩ := bl_at hn
    have hc : (true && decide ((n : Int) < (s.size : Int))) = true := by simp; omega
    rw [hd] at ho
    rw [hb, show ((10 : Int)) = ((10 : UInt8).toNat : Nat) from rfl, show ((92 : Int)) = ((92 : UInt8).toNat : Nat) from rfl, show ((34 : Int)) = ((34 : UInt8).toNat : Nat) from rfl, bne, u8_eq, u8_eq, u8_eq, wrap_ok (n := (n : Int) + 1) (by omega) (by omega), wrap_ok (n := (n : Int) + 1 + 1) (by omega) (by omega)]
    refine cnd_iff.2 ⟨hc, ?_⟩
    rw [quoL_cons] at ho
    cases e1 : b == 10 with
    | true =>
      rw [e1, cond_true] at ho
      exact ho.1 rfl
    | false =>
    rw [e1, cond_false] at ho
    refine cnd_iff.2 ⟨hc, ?_⟩
    cases e2 : b == 92 with
    | true =>
      rw [e2, cond_true] at ho
      refine ⟨_, ?_, ⟨s, n + 2⟩, rfl, ⟨h1, by simp only; omega⟩, rfl, ?_⟩
      · simp only; omega
      · simp only [outQu, Out.run, brn_iff, decide_eq_true_eq, decide_eq_false_iff_not]
        rcases Nat.lt_or_ge (n + 1) s.size with h3 | h3
        · obtain ⟨b2, hd2, _⟩ := bl_at h3
          rw [hd2] at ho
          exact ho
        · rw [List.drop_eq_nil_of_le (by rw [bl_len]; omega)] at ho ⊢
          exact ho
    | false =>
    rw [e2, cond_false] at ho
    cases e3 : b == 34 with
    | true =>
      rw [e3, cond_true] at ho
      exact ho.2 (by omega)
    | false =>
      rw [e3, cond_false] at ho
      refine ⟨_, ?_, ⟨s, n + 1⟩, rfl, ⟨h1, by simp only; omega⟩, rfl, ?_⟩
      · simp only; omega
      · simp only [outQu, Out.run, brn_iff, decide_eq_true_eq, decide_eq_false_iff_not]
        exact ho
  · rw [List.drop_eq_nil_of_le (by rw [bl_len]; omega)] at ho
    exact ho.1 rfl
noncomputable def BQl (κ : Kp) : EB := (BWo κ).loop (lQu κ)
theorem yQu (κ : Kp) (s : ByteArray) (K : AV → List Dn.Obj → Prop) : (funA (BQl κ).E 12 61 [.lit (.string s)] [] K) = (
  loopCode (Pg.toProgram (Env.P (EB.E (BWo κ)))) 61 2 = loopCode (Pg.toProgram (Env.P (EB.E (BWo κ)))) 61 2 ∧ ∃ (a : AQu), sp 27 [(0, AV.str s), (3, AV.int 1)] []
  = stQu a ∧ sideQu a ∧ brn (decide (quoL (List.drop a.n (bl a.s)) a.n = 0)) (K (AV.int 0) []) (K (AV.int (↑(quoL (List.drop a.n (bl a.s)) a.n) : Int)) [])) := by kernel_rfl
def gQu : List AV → Option (Bool × AV)
  | [.lit (.string s)] => some (decide (s.size ≤ 1000000000), .int (quoL ((bl s).drop 1) 1 : Nat))
  | _ => none
theorem pQu (κ : Kp) : PureOk (BQl κ).E 12 61 gQu := by
  intro args x hh
  unfold gQu at hh
  split at hh
  · rename_i s
    simp only [Option.some.injEq, Prod.mk.injEq, decide_eq_true_eq] at hh
    obtain ⟨h1, rfl⟩ := hh
    refine ⟨_, rfl, rfl, Eq.mpr (yQu κ s _) ?_⟩
    refine ⟨rfl, ⟨s, 1⟩, rfl, ⟨h1, by simp only; omega⟩, ?_⟩
    rw [brn_iff, decide_eq_true_eq, decide_eq_false_iff_not]
    refine ⟨fun e => ?_, fun e => rfl⟩
    simp only at e
    rw [e]; rfl
  · cases hh
noncomputable def BQu (κ : Kp) : EB := (BQl κ).pure (pQu κ)
end Go.Proofs.YtbppdpbagmbmpaaGreatDoor
namespace Go.Proofs.YtbppdpbagmbmpaaGreatDoor
open Go Go.Dn Go.Proofs
attribute [local irreducible] funA vc
set_option maxRecDepth 20000
structure AFs where
  s : ByteArray
  xs : List AV
  i : Nat
  b : Int
abbrev stFs (x : AFs) : S := sp 56 [(0, .yld 0), (1, .ptr 1 0 [] 0), (3, .int x.b), (4, .int x.i)] [.ext (some x.xs), .box 9 (.lit (.string x.s))]
theorem xFs (κ : Kp) (x : AFs) (I : Nat → S → Prop) (n : Nat) (K : Exit → S → Prop) : (vc (BQu κ).E 12 69 none 2 (loopCode (Pr κ).toProgram 69 2) (stFs x) (loopK (BQu κ).E 69 2 2 I n K)) = (
  brn (decide ((↑(x.i) : Int) < (↑(ByteArray.size x.s) : Int))) (cnd (true && decide ((↑(x.i) : Int) < (↑(ByteArray.size x.s) : Int))) (cnd (true && decide
  ((↑(x.i) : Int) < (↑(ByteArray.size x.s) : Int))) (cnd (true && decide ((↑(byteAt x.s (Int.toNat (↑(x.i) : Int))) : Int) < (256 : Int))) (cnd (decide (0 +
  Int.toNat (↑(byteAt x.s (Int.toNat (↑(x.i) : Int))) : Int) < 256)) (brn (decide (IntKind.wrap IntKind.i32 (↑(byteAt x.s (Int.toNat (↑(x.i) : Int))) : Int) ≥
  (128 : Int))) (cnd (true && decide ((↑(x.i) : Int) ≤ (↑(ByteArray.size x.s) : Int)) && decide ((↑(ByteArray.size x.s) : Int) ≤ (↑(ByteArray.size x.s) : Int)))
  False) (brn (tabI (Env.P (EB.E (BQu κ))) 1 (0 + Int.toNat (↑(byteAt x.s (Int.toNat (↑(x.i) : Int))) : Int)) != (0 : Int)) (brn (decide (x.b ≥ (0 : Int))) (cnd
  (decide ((0 : Int) ≤ x.b) && decide (x.b ≤ (↑(x.i) : Int)) && decide ((↑(x.i) : Int) ≤ (↑(ByteArray.size x.s) : Int))) (∃ (rest : List AV), x.xs = AV.tup
  [AV.str (ByteArray.extract x.s x.b.toNat (Int.toNat (↑(x.i) : Int)))] :: rest ∧ (∃ (m : Nat), m < n ∧ I m (sp 56 [(0, AV.yld 0), (1, AV.ptr 1 0 [] 0), (3,
  AV.int (-1)), (4, AV.int (IntKind.wrap IntKind.i64 ((↑(x.i) : Int) + (1 : Int))))] [Obj.ext (some rest), Obj.box 9 (AV.str x.s)])) ∧ K Exit.ret (sp 56 []
  [Obj.ext none, Obj.box 9 (AV.str x.s)]))) (∃ (m : Nat), m < n ∧ I m (sp 56 [(0, AV.yld 0), (1, AV.ptr 1 0 [] 0), (3, AV.int x.b), (4, AV.int (IntKind.wrap
  IntKind.i64 ((↑(x.i) : Int) + (1 : Int))))] [Obj.ext (some x.xs), Obj.box 9 (AV.str x.s)]))) (brn (decide (x.b < (0 : Int))) (∃ (m : Nat), m < n ∧ I m (sp 56
  [(0, AV.yld 0), (1, AV.ptr 1 0 [] 0), (3, AV.int (↑(x.i) : Int)), (4, AV.int (IntKind.wrap IntKind.i64 ((↑(x.i) : Int) + (1 : Int))))] [Obj.ext (some x.xs),
  Obj.box 9 (AV.str x.s)])) (∃ (m : Nat), m < n ∧ I m (sp 56 [(0, AV.yld 0), (1, AV.ptr 1 0 [] 0), (3, AV.int x.b), (4, AV.int (IntKind.wrap IntKind.i64 ((↑(x.i)
  : Int) + (1 : Int))))] [Obj.ext (some x.xs), Obj.box 9 (AV.str x.s)]))))))))) (K (Exit.exit 0) (sp 56 [(0, AV.yld 0), (1, AV.ptr 1 0 [] 0), (3, AV.int x.b)]
  [Obj.ext (some x.xs), Obj.box 9 (AV.str x.s)]))) := by kernel_rfl
def isSp (c : Nat) : Bool := c == 32 || (decide (9 ≤ c) && decide (c ≤ 13))
theorem tab_sp (κ : Kp) {c : Nat} (h : c < 256) : tabI (Pr κ) 1 c = bif isSp c then 1 else 0 := by
  unfold tabI
  rw [show (Pr κ).kept 1 = some (.cells spaceV κ.T2 κ.z2) from rfl]
  have : spaceV[c]? = some (Value.int .u8 (if (c == 32 || (9 ≤ c && c ≤ 13)) = true then 1 else 0)) := by
    simp [spaceV, h]
  simp only [this, isSp]
  cases (c == 32 || (decide (9 ≤ c) && decide (c ≤ 13))) <;> rfl
theorem wrap32 {n : Nat} (h : n < 256) : IntKind.wrap .i32 (n : Int) = n := by
  unfold IntKind.wrap
  simp only [IntKind.bits, IntKind.signed]
  have e : (n : Int) % 4294967296 = n := Int.emod_eq_of_lt (by omega) (by omega)
  simp [e]; omega
theorem byte_lt (s : ByteArray) (i : Nat) : byteAt s i < 256 := by
  unfold byteAt
  split
  · exact UInt8.toNat_lt _
  · omega
def fldF (s : ByteArray) : Nat → Nat → Int → List ByteArray
  | 0, i, b => bif decide (b ≥ 0) then [s.extract b.toNat i] else []
  | k + 1, i, b => bif isSp (byteAt s i) then (bif decide (b ≥ 0) then s.extract b.toNat i :: fldF s k (i + 1) (-1) else fldF s k (i + 1) b) else fldF s k (i + 1) (bif decide (b < 0) then (i : Int) else b)
def itS (l : List ByteArray) : List AV := l.map fun s => .tup [.lit (.string s)]
def sideFs (x : AFs) : Prop := (x.s.size ≤ 100000 ∧ ∀ i, i < x.s.size → byteAt x.s i < 128) ∧ x.i ≤ x.s.size ∧ x.b ≤ x.i ∧ x.xs = itS (fldF x.s (x.s.size - x.i) x.i x.b)
def outFs (x : AFs) : Out (Exit × S) := .all (fun b : Bool × Int => b.2 ≤ x.s.size) fun b => .brn b.1
  (.one (.exit 0, sp 56 [(0, .yld 0), (1, .ptr 1 0 [] 0), (3, .int b.2)] [.ext (some (itS (fldF x.s 0 x.s.size b.2))), .box 9 (.lit (.string x.s))]))
  (.one (.ret, sp 56 [] [.ext none, .box 9 (.lit (.string x.s))]))
theorem lFs (κ : Kp) : LoopOk (BQu κ).E 12 69 2 (loopE 2 stFs sideFs outFs) := by
  refine loopE_ok (fun x => x.s.size - x.i) ?_
  rintro ⟨s, xs, i, b⟩ K ⟨⟨h1, h2⟩, h3, h4, h5⟩ ho
  simp only at h1 h2 h3 h4 h5
  rw [show (BQu κ).E.P = Pr κ from rfl]
  refine Eq.mpr (xFs κ ⟨s, xs, i, b⟩ _ _ K) ?_
  rw [show (BQu κ).E.P = Pr κ from rfl]
  simp only [Int.toNat_natCast, Nat.zero_add]
  rw [brn_iff, decide_eq_true_eq, decide_eq_false_iff_not]
  refine ⟨fun h => ?_, fun h => ?_⟩
  · have hi : i < s.size := by omega
    have hc : (true && decide ((i : Int) < (s.size : Int))) = true := by simp; omega
    have h8 := h2 i hi
    rw [show s.size - i = (s.size - (i + 1)) + 1 by omega, fldF] at h5
    simp only [wrap32 (byte_lt s i), tab_sp κ (byte_lt s i)]
    rw [wrap_ok (n := (i : Int) + 1) (by omega) (by omega)]
    have next : ∀ (ys : List AV) (b' : Int), b' ≤ i + 1 → ys = itS (fldF s (s.size - (i + 1)) (i + 1) b') → ∃ m, m < s.size - i ∧ invOf stFs sideFs outFs (fun x => x.s.size - x.i) K m (stFs ⟨s, ys, i + 1, b'⟩) := fun ys b' hb hy =>
      ⟨_, by simp only; omega, ⟨s, ys, i + 1, b'⟩, rfl, ⟨⟨h1, h2⟩, hi, by simpa using hb, hy⟩, rfl, ho⟩
    refine cnd_iff.2 ⟨hc, cnd_iff.2 ⟨hc, cnd_iff.2 ⟨by simp; omega, cnd_iff.2 ⟨by simp; omega, brn_iff.2 ⟨fun e => ?_, fun _ => ?_⟩⟩⟩⟩⟩
    · rw [decide_eq_true_eq] at e; omega
    · cases hs : isSp (byteAt s i) with
      | true =>
        rw [hs, cond_true] at h5
        refine brn_iff.2 ⟨fun _ => ?_, fun e => by cases e⟩
        rw [brn_iff]
        refine ⟨fun e => cnd_iff.2 ⟨?_, ?_⟩, fun e => ?_⟩
        · rw [decide_eq_true_eq] at e
          simp; omega
        · rw [e, cond_true] at h5
          exact ⟨_, h5, next _ _ (by omega) rfl, ho (false, 0) (by simp only; omega)⟩
        · rw [e, cond_false] at h5
          exact next _ _ (by omega) h5
      | false =>
        rw [hs, cond_false] at h5
        refine brn_iff.2 ⟨fun e => (by cases e), fun _ => ?_⟩
        rw [brn_iff]
        refine ⟨fun e => ?_, fun e => ?_⟩
        · rw [e, cond_true] at h5
          exact next _ (i : Int) (by show (i : Int) ≤ (i : Int) + 1; omega) h5
        · rw [e, cond_false] at h5
          exact next _ b (by omega) h5
  · have hi : i = s.size := by omega
    subst hi
    rw [Nat.sub_self] at h5
    subst h5
    exact ho (true, b) h4
noncomputable def BFl (κ : Kp) : EB := (BQu κ).loop (lFs κ)
theorem yFs (κ : Kp) (s : ByteArray) (xs : List AV) (K : AV → List Dn.Obj → Prop) : (funA (BFl κ).E 12 69 [.yld 0, .ptr 1 0 [] 0] [.ext (some xs), .box 9 (.lit (.string s))] K) = (
  loopCode (Pg.toProgram (Env.P (EB.E (BQu κ)))) 69 2 = loopCode (Pg.toProgram (Env.P (EB.E (BQu κ)))) 69 2 ∧ ∃ (a : AFs), sp 56 [(0, AV.yld 0), (1, AV.ptr 1 0 []
  0), (3, AV.int (-1)), (4, AV.int 0)] [Obj.ext (some xs), Obj.box 9 (AV.str s)] = stFs a ∧ sideFs a ∧ ∀ (y : Bool × Int), y.2 ≤ (↑(ByteArray.size a.s) : Int) →
  brn y.1 (brn (decide (y.2 ≥ (0 : Int))) (cnd (decide ((0 : Int) ≤ y.2) && decide (y.2 ≤ (↑(ByteArray.size a.s) : Int)) && decide ((↑(ByteArray.size a.s) : Int)
  ≤ (↑(ByteArray.size a.s) : Int))) (∃ (rest : List AV), itS (fldF a.s 0 (ByteArray.size a.s) y.2) = AV.tup [AV.str (ByteArray.extract a.s y.2.toNat (Int.toNat
  (↑(ByteArray.size a.s) : Int)))] :: rest ∧ K (AV.tup []) [Obj.ext (some rest), Obj.box 9 (AV.str a.s)] ∧ K (AV.tup []) [Obj.ext none, Obj.box 9 (AV.str a.s)]))
  (K (AV.tup []) [Obj.ext (some (itS (fldF a.s 0 (ByteArray.size a.s) y.2))), Obj.box 9 (AV.str a.s)])) (K (AV.tup []) [Obj.ext none, Obj.box 9 (AV.str a.s)])) := by kernel_rfl
def stFc (s : ByteArray) : List AV × List Dn.Obj := ([.yld 0, .ptr 1 0 [] 0], [.ext (some (itS (fldF s s.size 0 (-1)))), .box 9 (.lit (.string s))])
def sideFc (s : ByteArray) : Prop := s.size ≤ 100000 ∧ ∀ i, i < s.size → byteAt s i < 128
def outFc (_ : ByteArray) : Out (AV × List Dn.Obj) := .all (fun st' => tdone st') fun st' => .one (.tup [], st')
theorem cFs (κ : Kp) : CallOk (BFl κ).E 12 69 (callE stFc sideFc outFc) := by
  refine callE_ok ?_
  rintro s K h1 ho
  refine Eq.mpr (yFs κ s (itS (fldF s s.size 0 (-1))) K) ?_
  have ho1 := ho [.ext (some []), .box 9 (.lit (.string s))] trivial
  have ho2 := ho [.ext none, .box 9 (.lit (.string s))] trivial
  simp only [Out.run] at ho1 ho2
  refine ⟨rfl, ⟨s, itS (fldF s s.size 0 (-1)), 0, -1⟩, rfl, ⟨h1, Nat.zero_le _, by simp only; omega, rfl⟩, fun y hy => ?_⟩
  rw [brn_iff]
  refine ⟨fun _ => brn_iff.2 ⟨fun e => ?_, fun e => ?_⟩, fun _ => ho2⟩
  · rw [decide_eq_true_eq] at e
    refine cnd_iff.2 ⟨by simp only at hy; simp; omega, [], ?_, ho1, ho2⟩
    rw [fldF, decide_eq_true e, Int.toNat_natCast]; rfl
  · simp only
    rw [fldF, e]; exact ho1
noncomputable def BFc (κ : Kp) : EB := (BFl κ).call (cFs κ)
end Go.Proofs.YtbppdpbagmbmpaaGreatDoor
namespace Go.Proofs.YtbppdpbagmbmpaaGreatDoor
open Go Go.Dn Go.Proofs
attribute [local irreducible] funA vc
set_option maxRecDepth 20000
def wiB : ByteArray := ⟨#[112, 97, 99, 107, 97, 103, 101, 32, 116, 121, 112, 101, 32, 115, 116, 114, 117, 99, 116, 32, 102, 117, 110, 99, 32, 118, 97, 114, 32, 105, 102, 32, 101, 108, 115, 101, 32, 102, 111, 114, 32, 99, 97, 115, 101, 32, 99, 104, 97, 110, 32, 99, 111, 110, 115, 116, 32, 100, 101, 102, 97, 117, 108, 116, 32, 100, 101, 102, 101, 114, 32, 103, 111, 32, 103, 111, 116, 111, 32, 105, 109, 112, 111, 114, 116, 32, 105, 110, 116, 101, 114, 102, 97, 99, 101, 32, 109, 97, 112, 32, 114, 97, 110, 103, 101, 32, 115, 101, 108, 101, 99, 116, 32, 115, 119, 105, 116, 99, 104]⟩
def siB : ByteArray := ⟨#[58, 61, 32, 61, 61, 32, 33, 61, 32, 60, 61, 32, 62, 61, 32, 38, 38, 32, 124, 124]⟩
noncomputable abbrev lpWi (κ : Kp) : Dn.Obj := .loop (lpA (Pr κ).toProgram 23 3 .ready none (spR (junks 9) [(0, .lit (.map none)), (1, .ptr 1 0 [] 0), (3, .mp 0), (4, .clo 69 [.ptr 2 0 [] 0])]))
noncomputable abbrev strW0 (κ : Kp) (B : ByteArray) : List Dn.Obj := [.map 9 4 [], .box 51 (.mp 0), .box 9 (.lit (.string B)), lpWi κ]
noncomputable abbrev strW1 (κ : Kp) (es : List (Value × AV)) : List Dn.Obj := [.map 9 4 es, .box 51 (.mp 0), .dead, lpWi κ]
noncomputable abbrev lpSi (κ : Kp) (s : ByteArray) : Dn.Obj := .loop (lpA (Pr κ).toProgram 63 2 .ready none (spR (junks 13) [(0, .lit (.string s)), (1, .ptr 0 0 [] 0), (2, .ptr 1 0 [] 0), (4, .clo 69 [.ptr 2 0 [] 0])]))
noncomputable abbrev strS0 (κ : Kp) (B s : ByteArray) : List Dn.Obj := [.box 9 (.lit (.string s)), .box 3 (.int 0), .box 9 (.lit (.string B)), lpSi κ s]
noncomputable abbrev strS1 (κ : Kp) (s : ByteArray) : List Dn.Obj := [.box 9 (.lit (.string s)), .box 3 (.int 0), .dead, lpSi κ s]
theorem sWi (κ : Kp) (B : ByteArray) (Q : List Dn.Obj → Prop) : (tidy (Pr κ).toProgram 4 (setDead (strW0 κ B) (capIds (strW0 κ B) [.ptr 2 0 [] 0])) Q) = (
  Q [Dn.Obj.map 9 4 [], Obj.box 51 (AV.mp 0), Obj.dead, Dn.Obj.loop (lpA Tryz.prog 23 3 LoopState.ready none (spR (junks 9) [(0, AV.lit (Value.map none)), (1,
  AV.ptr 1 0 [] 0), (3, AV.mp 0), (4, AV.clo 69 [AV.ptr 2 0 [] 0])]))]) := by kernel_rfl
theorem rWi (κ : Kp) (es : List (Value × AV)) (t : ByteArray) (Q : List Dn.Obj → Prop) (K2 : List Dn.Obj → Prop) : (roundA (vc (BFc κ).E 12) 3 [.lit (.string t)] (strW1 κ es) (fun r st'' => match r with | .lit (.bool true) => tidy (Pr κ).toProgram 4 st'' Q | .lit (.bool false) => K2 st'' | _ => False)) = (
  Q [Dn.Obj.map 9 4 (updK es (Value.string t) (AV.bool true)), Obj.box 51 (AV.mp 0), Obj.dead, Dn.Obj.loop (lpA Tryz.prog 23 3 LoopState.ready none (spR (junks 9)
  [(0, AV.lit (Value.map none)), (1, AV.ptr 1 0 [] 0), (3, AV.mp 0), (4, AV.clo 69 [AV.ptr 2 0 [] 0])]))]) := by kernel_rfl
theorem sSi (κ : Kp) (B s : ByteArray) (Q : List Dn.Obj → Prop) : (tidy (Pr κ).toProgram 4 (setDead (strS0 κ B s) (capIds (strS0 κ B s) [.ptr 2 0 [] 0])) Q) = (
  Q [Obj.box 9 (AV.str s), Obj.box 3 (AV.int 0), Obj.dead, Dn.Obj.loop (lpA Tryz.prog 63 2 LoopState.ready none (spR (junks 13) [(0, AV.str s), (1, AV.ptr 0 0 []
  0), (2, AV.ptr 1 0 [] 0), (4, AV.clo 69 [AV.ptr 2 0 [] 0])]))]) := by kernel_rfl
theorem rSi (κ : Kp) (s : ByteArray) (t : ByteArray) (Q : List Dn.Obj → Prop) (K2 : List Dn.Obj → Prop) : (roundA (vc (BFc κ).E 12) 3 [.lit (.string t)] (strS1 κ s) (fun r st'' => match r with | .lit (.bool true) => tidy (Pr κ).toProgram 4 st'' Q | .lit (.bool false) => K2 st'' | _ => False)) = (
  brn (hasP s t) (K2 [Obj.box 9 (AV.str s), Obj.box 3 (AV.int 2), Obj.dead, Dn.Obj.loop (lpA Tryz.prog 63 2 LoopState.done (some Code.ret) (spR (junks 13) [(0,
  AV.str s), (1, AV.ptr 0 0 [] 0), (2, AV.ptr 1 0 [] 0), (4, AV.clo 69 [AV.ptr 2 0 [] 0])]))]) (Q [Obj.box 9 (AV.str s), Obj.box 3 (AV.int 0), Obj.dead,
  Dn.Obj.loop (lpA Tryz.prog 63 2 LoopState.ready none (spR (junks 13) [(0, AV.str s), (1, AV.ptr 0 0 [] 0), (2, AV.ptr 1 0 [] 0), (4, AV.clo 69 [AV.ptr 2 0 []
  0])]))])) := by kernel_rfl
theorem kWi (κ : Kp) (B : ByteArray) (xs : List AV) : (AV.yld 0 :: renL (idxS (capIds (strW0 κ B) [.ptr 2 0 [] 0])) [.ptr 2 0 [] 0], Obj.ext (some xs) :: renSt (idxS (capIds (strW0 κ B) [.ptr 2 0 [] 0])) (getSt (strW0 κ B) (capIds (strW0 κ B) [.ptr 2 0 [] 0]))) = ([.yld 0, .ptr 1 0 [] 0], [.ext (some xs), .box 9 (.lit (.string B))]) := by kernel_rfl
theorem oWi (κ : Kp) (B : ByteArray) : genOk (strW0 κ B) [.ptr 2 0 [] 0] = true := by kernel_rfl
theorem kSi (κ : Kp) (B s : ByteArray) (xs : List AV) : (AV.yld 0 :: renL (idxS (capIds (strS0 κ B s) [.ptr 2 0 [] 0])) [.ptr 2 0 [] 0], Obj.ext (some xs) :: renSt (idxS (capIds (strS0 κ B s) [.ptr 2 0 [] 0])) (getSt (strS0 κ B s) (capIds (strS0 κ B s) [.ptr 2 0 [] 0]))) = ([.yld 0, .ptr 1 0 [] 0], [.ext (some xs), .box 9 (.lit (.string B))]) := by kernel_rfl
theorem oSi (κ : Kp) (B s : ByteArray) : genOk (strS0 κ B s) [.ptr 2 0 [] 0] = true := by kernel_rfl
theorem callFs (κ : Kp) (args : List AV) (st : List Dn.Obj) (K : AV → List Dn.Obj → Prop) (h : callE stFc sideFc outFc args st K) : (BFc κ).E.call 69 args st K := h
abbrev fldA (B : ByteArray) : List ByteArray := fldF B B.size 0 (-1)
def putW (es : List (Value × AV)) (t : ByteArray) : List (Value × AV) := updK es (.string t) (.lit (.bool true))
theorem asc_of (s : ByteArray) (h : ((List.range s.size).all fun i => decide (byteAt s i < 128)) = true) : ∀ i, i < s.size → byteAt s i < 128 := fun i hi => by
  rw [List.all_eq_true] at h
  exact of_decide_eq_true (h i (List.mem_range.2 hi))
theorem side_wi : sideFc wiB := ⟨by decide +kernel, asc_of _ (by decide +kernel)⟩
theorem side_si : sideFc siB := ⟨by decide +kernel, asc_of _ (by decide +kernel)⟩
noncomputable def spWi (κ : Kp) : RangeSpec := fun caps st K => ∃ B, (caps, st) = ([AV.ptr 2 0 [] 0], strW0 κ B) ∧ sideFc B ∧ K (strW1 κ ((fldA B).foldl putW []))
theorem spWi_mono (κ : Kp) : (spWi κ).Mono := by
  rintro caps st K K' hK ⟨B, h1, h2, h3⟩
  exact ⟨B, h1, h2, hK _ h3⟩
theorem gWi (κ : Kp) : RangeOk (BFc κ).E 12 69 (spWi κ) := by
  rintro caps st K ⟨B, h1, h0, h5⟩
  obtain ⟨rfl, rfl⟩ := Prod.mk.inj h1
  have hc : ∀ L, fldA B = L → (BFc κ).E.call 69 [.yld 0, .ptr 1 0 [] 0] [.ext (some (itS L)), .box 9 (.lit (.string B))] fun _ st' => tdone st' := fun L hL => by
    subst hL
    exact callFs κ _ _ _ ⟨B, rfl, h0, fun st' h => h⟩
  generalize hL : fldA B = L at h5
  have hc := hc L hL
  refine ⟨itS L, fun items st' => ∃ E1 E2, items = itS E2 ∧ st' = strW1 κ (E1.foldl putW []) ∧ E1 ++ E2 = L, ⟨oWi κ B, ?_, ?_, ?_, ?_⟩⟩
  · rw [(Prod.mk.inj (kWi κ B (itS L))).1, (Prod.mk.inj (kWi κ B (itS L))).2]
    exact hc
  · rw [show (BFc κ).E.P = Pr κ from rfl, show (strW0 κ B).length = 4 from rfl, sWi]
    exact ⟨[], L, rfl, rfl, rfl⟩
  · rintro us rest st' ⟨E1, E2, e1, rfl, e3⟩
    cases E2 with
    | nil => cases e1
    | cons t E2 =>
      obtain ⟨hu, rfl⟩ := List.cons.inj e1
      obtain rfl := AV.tup.inj hu
      rw [show (BFc κ).E.P = Pr κ from rfl, show (strW0 κ B).length = 4 from rfl, show (4 : Nat) - 1 = 3 from rfl]
      have hn : ∃ F1 F2, itS E2 = itS F2 ∧ strW1 κ (putW (E1.foldl putW []) t) = strW1 κ (F1.foldl putW []) ∧ F1 ++ F2 = L := ⟨E1 ++ [t], E2, rfl, by rw [List.foldl_append]; rfl, by rw [← e3]; simp⟩
      clear hc h5 e3 e1
      generalize E1.foldl putW [] = es at hn ⊢
      exact Eq.mpr (rWi κ es t _ K) hn
  · rintro st' ⟨E1, E2, e1, rfl, e3⟩
    obtain rfl : E2 = [] := by cases E2 with | nil => rfl | cons _ _ => cases e1
    rw [List.append_nil] at e3
    rw [e3]; exact h5
noncomputable abbrev strSr (κ : Kp) (s : ByteArray) : List Dn.Obj := [.box 9 (.lit (.string s)), .box 3 (.int 2), .dead, .loop (lpA (Pr κ).toProgram 63 2 .done (some .ret) (spR (junks 13) [(0, .lit (.string s)), (1, .ptr 0 0 [] 0), (2, .ptr 1 0 [] 0), (4, .clo 69 [.ptr 2 0 [] 0])]))]
noncomputable def spSi (κ : Kp) : RangeSpec := fun caps st K => ∃ B s, (caps, st) = ([AV.ptr 2 0 [] 0], strS0 κ B s) ∧ sideFc B ∧ brn ((fldA B).any (hasP s)) (K (strSr κ s)) (K (strS1 κ s))
theorem spSi_mono (κ : Kp) : (spSi κ).Mono := by
  rintro caps st K K' hK ⟨B, s, h1, h0, h2⟩
  refine ⟨B, s, h1, h0, ?_⟩
  rw [brn_iff] at h2 ⊢
  exact ⟨fun e => hK _ (h2.1 e), fun e => hK _ (h2.2 e)⟩
theorem gSi (κ : Kp) : RangeOk (BFc κ).E 12 69 (spSi κ) := by
  rintro caps st K ⟨B, s, h1, h0, h5⟩
  obtain ⟨rfl, rfl⟩ := Prod.mk.inj h1
  have hc : ∀ L, fldA B = L → (BFc κ).E.call 69 [.yld 0, .ptr 1 0 [] 0] [.ext (some (itS L)), .box 9 (.lit (.string B))] fun _ st' => tdone st' := fun L hL => by
    subst hL
    exact callFs κ _ _ _ ⟨B, rfl, h0, fun st' h => h⟩
  generalize hL : fldA B = L at h5
  have hc := hc L hL
  refine ⟨itS L, fun items st' => ∃ E2, items = itS E2 ∧ st' = strS1 κ s ∧ E2.any (hasP s) = L.any (hasP s), ⟨oSi κ B s, ?_, ?_, ?_, ?_⟩⟩
  · rw [(Prod.mk.inj (kSi κ B s (itS L))).1, (Prod.mk.inj (kSi κ B s (itS L))).2]
    exact hc
  · rw [show (BFc κ).E.P = Pr κ from rfl, show (strS0 κ B s).length = 4 from rfl, sSi]
    exact ⟨L, rfl, rfl, rfl⟩
  · rintro us rest st' ⟨E2, e1, rfl, e3⟩
    cases E2 with
    | nil => cases e1
    | cons t E2 =>
      obtain ⟨hu, rfl⟩ := List.cons.inj e1
      obtain rfl := AV.tup.inj hu
      rw [show (BFc κ).E.P = Pr κ from rfl, show (strS0 κ B s).length = 4 from rfl, show (4 : Nat) - 1 = 3 from rfl]
      refine Eq.mpr (rSi κ s t (fun st' => ∃ E', itS E2 = itS E' ∧ st' = strS1 κ s ∧ E'.any (hasP s) = L.any (hasP s)) K) ?_
      rw [List.any_cons] at e3
      rw [brn_iff]
      refine ⟨fun e => ?_, fun e => ?_⟩
      · rw [e, Bool.true_or] at e3
        rw [← e3] at h5
        exact h5
      · rw [e, Bool.false_or] at e3
        exact ⟨E2, rfl, rfl, e3⟩
  · rintro st' ⟨E2, e1, rfl, e3⟩
    obtain rfl : E2 = [] := by cases E2 with | nil => rfl | cons _ _ => cases e1
    rw [List.any_nil] at e3
    rw [← e3] at h5
    exact h5
noncomputable def BWr (κ : Kp) : EB := ((BFc κ).range 23 3 (spWi_mono κ) (gWi κ) (fun f => memN f [69]))
theorem yWi (κ : Kp) (K : AV → List Dn.Obj → Prop) : (funA (BWr κ).E 12 23 [] [] K) = (
  ∃ (B : ByteArray), ([AV.ptr 2 0 [] 0], [Dn.Obj.map 9 4 [], Obj.box 51 (AV.mp 0), Obj.box 9 (AV.lit (Value.string
  { data := List.toArray (List.append [OfNat.ofNat 112, OfNat.ofNat 97, OfNat.ofNat 99, OfNat.ofNat 107, OfNat.ofNat 97, OfNat.ofNat 103, OfNat.ofNat 101, OfNat.ofNat 32, OfNat.ofNat 116, OfNat.ofNat 121, OfNat.ofNat 112, OfNat.ofNat 101, OfNat.ofNat 32, OfNat.ofNat 115, OfNat.ofNat 116, OfNat.ofNat 114, OfNat.ofNat 117, OfNat.ofNat 99, OfNat.ofNat 116, OfNat.ofNat 32, OfNat.ofNat 102, OfNat.ofNat 117, OfNat.ofNat 110, OfNat.ofNat 99, OfNat.ofNat 32, OfNat.ofNat 118, OfNat.ofNat 97, OfNat.ofNat 114, OfNat.ofNat 32, OfNat.ofNat 105, OfNat.ofNat 102, OfNat.ofNat 32, OfNat.ofNat 101, OfNat.ofNat 108, OfNat.ofNat 115, OfNat.ofNat 101, OfNat.ofNat 32, OfNat.ofNat 102, OfNat.ofNat 111, OfNat.ofNat 114, OfNat.ofNat 32, OfNat.ofNat 99, OfNat.ofNat 97, OfNat.ofNat 115, OfNat.ofNat 101, OfNat.ofNat 32, OfNat.ofNat 99, OfNat.ofNat 104, OfNat.ofNat 97, OfNat.ofNat 110, OfNat.ofNat 32, OfNat.ofNat 99, OfNat.ofNat 111, OfNat.ofNat 110, OfNat.ofNat 115, OfNat.ofNat 116, OfNat.ofNat 32, OfNat.ofNat 100, OfNat.ofNat 101] [OfNat.ofNat 102, OfNat.ofNat 97, OfNat.ofNat 117, OfNat.ofNat 108, OfNat.ofNat 116, OfNat.ofNat 32, OfNat.ofNat 100, OfNat.ofNat 101, OfNat.ofNat 102, OfNat.ofNat 101, OfNat.ofNat 114, OfNat.ofNat 32, OfNat.ofNat 103, OfNat.ofNat 111, OfNat.ofNat 32, OfNat.ofNat 103, OfNat.ofNat 111, OfNat.ofNat 116, OfNat.ofNat 111, OfNat.ofNat 32, OfNat.ofNat 105, OfNat.ofNat 109, OfNat.ofNat 112, OfNat.ofNat 111, OfNat.ofNat 114, OfNat.ofNat 116, OfNat.ofNat 32, OfNat.ofNat 105, OfNat.ofNat 110, OfNat.ofNat 116, OfNat.ofNat 101, OfNat.ofNat 114, OfNat.ofNat 102, OfNat.ofNat 97, OfNat.ofNat 99, OfNat.ofNat 101, OfNat.ofNat 32, OfNat.ofNat 109, OfNat.ofNat 97, OfNat.ofNat 112, OfNat.ofNat 32, OfNat.ofNat 114, OfNat.ofNat 97, OfNat.ofNat 110, OfNat.ofNat 103, OfNat.ofNat 101, OfNat.ofNat 32, OfNat.ofNat 115, OfNat.ofNat 101, OfNat.ofNat 108, OfNat.ofNat 101, OfNat.ofNat 99, OfNat.ofNat 116, OfNat.ofNat 32, OfNat.ofNat 115, OfNat.ofNat 119, OfNat.ofNat 105, OfNat.ofNat 116, OfNat.ofNat 99, OfNat.ofNat 104]) })),
  Dn.Obj.loop (lpA Tryz.prog 23 3 LoopState.ready none (spR (junks 9) [(0, AV.lit (Value.map none)), (1, AV.ptr 1 0 [] 0), (3, AV.mp 0), (4, AV.clo 69 [AV.ptr 2
  0 [] 0])]))]) = ([AV.ptr 2 0 [] 0], [Dn.Obj.map 9 4 [], Obj.box 51 (AV.mp 0), Obj.box 9 (AV.str B), Dn.Obj.loop (lpA Tryz.prog 23 3 LoopState.ready none (spR
  (junks 9) [(0, AV.lit (Value.map none)), (1, AV.ptr 1 0 [] 0), (3, AV.mp 0), (4, AV.clo 69 [AV.ptr 2 0 [] 0])]))]) ∧ sideFc B ∧ K (AV.fmp 9 4 (List.map (fun (x
  : Value × AV) => x.1) (List.foldl putW [] (fldA B))) (List.map (fun (x : Value × AV) => x.2) (List.foldl putW [] (fldA B)))) []) := by kernel_rfl
def wiE : List (Value × AV) := (fldA wiB).foldl putW []
def gWt : List AV → Option (Bool × AV)
  | [] => some (true, .fmp 9 4 (wiE.map (·.1)) (wiE.map (·.2)))
  | _ => none
theorem cWi (κ : Kp) : FreshOk (BWr κ).E 12 23 gWt := by
  intro args x hh
  unfold gWt at hh
  split at hh
  · simp only [Option.some.injEq, Prod.mk.injEq, true_and] at hh
    subst hh
    refine ⟨rfl, Eq.mpr (yWi κ _) ⟨wiB, rfl, side_wi, ?_⟩⟩
    unfold wiE
    exact rfl
  · cases hh
noncomputable def BWi (κ : Kp) : EB := (BWr κ).fresh (cWi κ)
noncomputable def BSg (κ : Kp) : EB := EB.mixR (BWi κ) ((BFc κ).range 63 2 (spSi_mono κ) (gSi κ) (fun f => memN f [69])) 63 rfl
end Go.Proofs.YtbppdpbagmbmpaaGreatDoor
