import Derived.Test.YtdpmikfheebicaaGreatDoorDqM1
import Derived.Test.YtdpmikfheebicaaGreatDoorProg
import Derived.Test.YtdpmikfheebicaaGreatDoorChecked
import Derived.WalkKit
import Derived.LaidEql
import Derived.Stop.Asserts
import Derived.RowKitTokens
namespace Go.Proofs.YtdpmikfheebicaaGreatDoor
open Go Go.Dn Go.Rl Go.Proofs
attribute [local irreducible] bh vc
set_option maxRecDepth 20000
def NK : List (Nat × List (Nat × List (Nat × Option Nat))) := [
 (8, [(13, [(1, none), (2, none), (3, none), (7, none), (8, none), (11, none), (12, none), (13, none), (14, none)]), (14004, [(1, none), (2, none), (3, none), (7, none), (8, none), (11, none), (12, none), (13, none)]), (14001, [(6, none)]), (10, [(1, none), (2, none), (3, none), (7, none), (8, none), (11, none), (12, none), (13, none)]), (11002, [(1, none), (2, none), (3, none), (7, none), (8, none), (11, none), (12, none)]), (11001, [(6, none)])]),
 (11, [(8, [(1, none), (3, none), (5, none)]), (9004, [(1, none), (3, none)]), (3, [(1, none), (3, none), (4, none)]), (4002, [(1, none), (3, none)]), (4001, [(2, none)])]),
 (12, [(5, [(20, none), (21, none), (22, none)]), (6002, []), (6001, [(2, none), (3, none)])]),
 (13, [(5, [(1, none), (6, none)]), (6002, []), (6001, [(2, none), (3, none)])]),
 (15, [(15, [(7, none), (10, none), (11, none), (13, none), (49, none), (50, none), (51, none)]), (16004, [(7, none), (10, none), (11, none), (13, none)]), (11, [(7, none), (10, some 48), (11, none), (12, none)]), (12002, [(10, none)])]),
 (16, [(25, [(7, none), (14, none), (15, none), (18, none), (19, none)]), (26006, [(7, none), (14, none), (15, none), (18, none)]), (19, [(7, none), (14, some 48), (15, none), (16, none)]), (20004, [(14, none)]), (6, [(1, none), (7, none), (8, none)]), (7002, [(7, none)]), (7001, [(2, none), (3, none), (4, none)])]),
 (17, [(4, [(0, none), (1, none), (5, none)]), (5002, []), (5001, [(4, none)])]),
 (20, [(5, [(0, none), (1, none), (5, none), (6, none)]), (6004, [(0, none), (1, none), (5, none)]), (6001, [(4, none)]), (2, [(0, none), (1, none), (5, none)]), (3002, []), (3001, [(4, none)])]),
 (28, [(4, [(0, none), (1, none), (5, none)]), (5002, []), (5001, [(4, none)])]),
 (29, [(2, [(0, none), (3, none)]), (3002, []), (3001, [(2, none)])]),
 (30, [(3, [(1, none), (2, none), (5, none)]), (4002, [(1, none)])]),
 (31, [(11, [(1, none), (38, none), (39, none), (40, none)]), (12004, []), (12001, [(2, none), (3, none)]), (4, [(1, none), (16, none), (17, none), (18, none)]), (5002, [(1, none)]), (5001, [(2, none), (3, none)])]),
 (32, [(11, [(1, none), (8, none)]), (12004, []), (12001, [(2, none), (3, none)]), (5, [(1, none), (5, none)]), (6002, [(1, none)]), (6001, [(2, none), (3, none)])]),
 (36, [(8, [(3, none), (45, none), (46, none)]), (9004, [(3, none)])]),
 (37, [(2, [(0, none), (3, none), (11, none), (12, none), (13, none)]), (3002, []), (3001, [(4, none), (5, none)])]),
 (38, [(6, [(0, none), (1, none), (5, none), (11, none), (12, none), (25, none)]), (7004, [(5, none)]), (7003, [(0, none), (1, none), (11, none), (12, none)]), (2, [(0, none), (1, none), (11, none), (12, none)]), (3002, []), (3001, [(4, none)])]),
 (39, [(3, [(0, none), (1, none), (5, some 3), (11, none), (12, none)]), (4002, [(5, none)])]),
 (40, [(19, [(3, none), (4, none), (8, none), (9, none), (10, none)]), (20010, [(3, none), (4, none), (8, none), (9, none)]), (16, [(3, none), (4, none), (8, none), (9, none)]), (17008, [(3, none), (4, none), (8, none)]), (13, [(3, none), (4, none), (8, none)]), (14006, [(4, none)]), (8, [(1, none), (3, none), (4, none), (5, none), (6, none), (7, none)]), (9004, [(1, none), (3, none), (4, none), (5, none), (6, none)]), (4, [(1, none), (3, none), (4, some 47), (5, none)]), (5002, [(3, none), (4, none)])]),
 (41, [(3, [(1, none), (3, none), (5, none), (7, none), (9, none)]), (4002, []), (4001, [(6, none)])]),
 (42, [(3, [(1, none), (3, none), (5, none), (7, none), (9, none)]), (4002, []), (4001, [(6, none)])]),
 (43, [(5, [(1, none), (4, none), (6, none)]), (6002, []), (6001, [(2, none), (3, none)])]),
 (44, [(2, [(0, none), (1, none), (2, none), (7, none)]), (3002, []), (3001, [(6, none)])]),
 (45, [(3, [(0, none), (1, none), (5, some 3), (6, none)]), (4002, [(5, none)])]),
 (50, [(2, [(1, none), (2, none), (3, none), (7, none)]), (3002, []), (3001, [(6, none)])]),
 (57, [(4, [(1, none), (2, none), (5, none)]), (5002, [(1, none)])]),
 (58, [(5, [(1, none), (2, none), (5, none)]), (6002, [(1, none)])]),
 (61, [(11, [(6, none), (8, some 3), (36, none), (37, none), (38, none)]), (12004, [(8, none)]), (12001, [(4, none), (5, none)]), (4, [(3, none), (6, none)]), (5002, [(3, none), (6, none)]), (5001, [(4, none), (5, none)])]),
 (62, [(10, [(1, none), (5, none)]), (11004, []), (11001, [(2, none)]), (4, [(1, none), (3, none)]), (5002, [(1, none)]), (5001, [(2, none)])]),
 (63, [(2, [(0, none), (1, none), (6, none)]), (3002, []), (3001, [(4, none), (5, none)])]),
 (64, [(23, [(0, none), (3, none), (9, none), (10, none), (14, none)]), (24008, [(0, none), (3, none), (9, none), (10, none)]), (24001, [(4, none), (5, none)]), (18, [(0, none), (3, none), (9, none), (10, none), (11, none), (12, none)]), (19006, [(0, none), (3, none), (9, none), (10, none), (11, none)]), (15, [(0, none), (3, none), (9, none), (10, none), (11, none)]), (16004, [(0, none), (3, none), (9, none), (10, none)]), (6, [(0, none), (3, none), (7, none), (8, none)]), (7002, [(0, none), (3, none), (7, none)])]),
 (65, [(11, [(1, none), (6, none)]), (12004, []), (12001, [(2, none)]), (5, [(1, none), (4, none)]), (6002, [(1, none)]), (6001, [(2, none)])]),
 (66, [(4, [(1, none), (2, none), (7, none), (8, some 3), (9, some 1000000009)]), (5002, [(8, none), (9, none)]), (5001, [(4, none), (5, none), (6, none)])]),
 (67, [(2, [(0, none), (1, none), (5, none)]), (3002, []), (3001, [(4, none)])]),
 (68, [(3, [(1, none), (3, some 1000000009), (4, none)]), (4002, [(3, none)])]),
 (71, [(3, [(0, none), (5, none), (6, some 3)]), (4002, [(5, none)])]),
 (75, [(2, [(0, none), (1, none), (7, none), (8, none)]), (3002, []), (3001, [(4, none)])]),
 (76, [(2, [(1, none), (2, none), (5, none)]), (3002, []), (3001, [(4, none)])]),
 (81, [(1, [(0, none), (6, none), (7, none), (8, none)]), (2002, [])]),
 (84, [(3, [(3, some 9), (6, none), (7, none), (8, none)]), (4002, [(3, none)])]),
 (85, [(12, [(6, none), (26, none), (27, none), (28, none)]), (13004, [(6, none)]), (3, [(0, none), (3, none), (9, none), (10, none), (11, none)]), (4002, [(0, none), (3, none)])]),
 (87, [(17, [(1, none), (2, none), (43, none), (44, none), (45, none)]), (18005, []), (18001, [(6, none)]), (1, [(0, none), (1, none), (2, none)]), (2001, [(6, none)])]),
 (90, [(4, [(1, none), (31, none), (32, none), (33, none)]), (5002, []), (5001, [(2, none)])]),
 (93, [(2, [(0, none), (1, none), (7, none), (8, none)]), (3002, []), (3001, [(4, none)])]),
 (95, [(3, [(0, none), (5, none), (14, none), (15, none), (16, none)]), (4002, [(5, none)]), (4001, [(4, none)])]),
 (98, [(5, [(1, none), (4, none)]), (6002, []), (6001, [(2, none)])]),
 (100, [(6, [(1, none), (4, some 1000000009), (5, none)]), (7002, [(4, none)])]),
 (101, [(4, [(0, none), (2, none), (3, none), (5, none), (9, none), (11, none), (12, none)]), (5002, [(11, none)])]),
 (103, [(3, [(0, none), (2, none), (3, none), (5, none), (9, none), (10, none)]), (4002, [(9, none)])]),
 (104, [(5, [(1, none), (4, none)]), (6002, []), (6001, [(2, none)])]),
 (107, [(5, [(1, none), (2, none), (3, none), (7, none), (8, none)]), (6004, [(1, none), (2, none), (3, none), (7, none)]), (6001, [(6, none)]), (2, [(1, none), (2, none), (3, none), (7, none)]), (3002, []), (3001, [(6, none)])]),
 (108, [(3, [(1, none), (5, some 9), (6, none)]), (4002, [(5, none)])]),
 (111, [(3, [(1, none), (5, some 9), (6, none)]), (4002, [(5, none)])]),
 (112, [(5, [(1, none), (3, some 1000000009), (4, none)]), (6002, [(3, none)])]),
 (113, [(5, [(0, none), (1, none), (5, none), (12, none), (13, none), (14, none), (28, none), (29, none), (30, none)]), (6004, [(0, none), (1, none), (12, none), (13, none), (14, none)]), (6001, []), (1, [(0, none), (1, none), (12, none), (13, none), (14, none)]), (2002, []), (2001, [])]),
 (119, [(2, [(0, none), (1, none), (7, none), (8, none)]), (3002, []), (3001, [(4, none)])]),
 (120, [(7, [(0, none), (57, none), (58, none), (59, none)]), (8004, []), (8001, []), (2, [(0, none), (1, none), (25, none), (26, none), (27, none)]), (3002, [(0, none), (1, none)]), (3001, [])]),
 (121, [(4, [(24, none), (25, none), (26, none)]), (5002, []), (5001, [(2, none)])]),
 (125, [(3, [(0, none), (1, none), (3, none), (4, none), (13, none), (14, none)]), (4002, []), (4001, [])]),
 (126, [(3, [(1, none), (2, none), (3, none), (7, none), (11, none), (12, none), (13, none)]), (4002, [(7, none)]), (4001, [(6, none)])]),
 (127, [(4, [(1, none), (2, none), (5, none), (17, none), (18, none), (19, none)]), (5002, [(1, none), (2, none), (5, none)])]),
 (131, [(4, [(18, none)]), (5002, []), (5001, [(2, none)])]),
 (132, [(2, [(0, none), (1, none), (7, none), (8, none)]), (3002, []), (3001, [(4, none)])]),
 (133, [(7, [(0, none), (5, none), (40, none), (41, none), (42, none)]), (8003, []), (8001, [(4, none)])]),
 (136, [(4, [(0, none), (3, none)]), (5002, []), (5001, [(2, none)])]),
 (138, [(9, [(2, none), (3, none), (4, none), (10, none), (11, none)]), (10002, [(10, none)])]),
 (140, [(3, [(0, none), (2, none), (3, none), (5, none), (9, none), (11, none)]), (4002, []), (4001, [(8, none)])]),
 (142, [(8, [(1, none), (2, none), (5, none)]), (9002, []), (9001, [(4, none)])]),
 (146, [(6, [(5, some 9), (6, none), (7, none), (8, none), (9, none)]), (7002, [(5, none)])]),
 (147, [(2, [(0, none), (1, none), (5, none)]), (3002, []), (3001, [(4, none)])]),
 (148, [(10, [(1, none), (49, none), (50, none), (51, none)]), (11003, []), (11001, [(4, none)])]),
 (149, [(2, [(5, none), (6, none), (7, none)]), (3002, []), (3001, [(2, none)])]),
 (153, [(5, [(0, none), (1, none), (5, none), (6, none)]), (6002, [(0, none), (5, none)])]),
 (155, [(2, [(0, none), (1, none), (7, none), (8, none)]), (3002, []), (3001, [(4, none)])]),
 (156, [(2, [(0, none), (2, none), (4, none), (12, none), (13, none), (14, none)]), (3002, [(0, none), (2, none), (4, none)]), (3001, [(6, none)])]),
 (158, [(8, [(2, none), (32, none), (33, none), (34, none)]), (9004, []), (9001, []), (3, [(2, none), (3, some 52), (14, none), (15, none), (16, none)]), (4002, [(2, none), (3, none)])]),
 (165, [(3, [(1, none), (3, some 1000000009), (4, none)]), (4002, [(3, none)])]),
 (166, [(3, [(1, none), (2, none), (5, some 1000000009), (6, none)]), (4002, [(5, none)])]),
 (168, [(3, [(3, some 9), (7, none), (8, none), (9, none)]), (4002, [(3, none)])]),
 (170, [(3, [(2, none), (11, none), (12, none), (13, none)]), (4002, []), (4001, [])]),
 (171, [(2, [(0, none), (1, none), (7, none), (8, none)]), (3002, []), (3001, [(4, none)])])
 ]
def RT (k : Nat) : List (Nat × List (Nat × Option Nat)) → List (Nat × Option Nat)
 | [] => []
 | (j, l) :: r => bif Nat.beq j k then l else RT k r
def RB (f k : Nat) : List (Nat × List (Nat × List (Nat × Option Nat))) → List (Nat × Option Nat)
 | [] => []
 | (g, l) :: r => bif Nat.beq g f then RT k l else RB f k r
def live (f k : Nat) : List (Nat × Option TypeId) := RB f k NK
structure Kp where
 tree : Addr
 stuck : Addr
 T1 : TypeId
 T2 : TypeId
 z1 : Nat × Nat
 z2 : Nat × Nat
 eC : Addr
 arity : Addr
 type : Addr
 T3 : TypeId
 T4 : TypeId
 T5 : TypeId
 z3 : Nat × Nat
 z4 : Nat × Nat
 z5 : Nat × Nat
 c3 : Array Value
 c4 : Array Value
 c5 : Array Value
 t3 : TypeId
 t4 : TypeId
 t5 : TypeId
 d1 : eC ≠ arity
 d2 : eC ≠ type
 d3 : arity ≠ type
 n3 : ∀ g, g ∈ [1, 0, 3, 4, 2] → eC.block ≠ g
 n4 : ∀ g, g ∈ [1, 0, 3, 4, 2] → arity.block ≠ g
 n5 : ∀ g, g ∈ [1, 0, 3, 4, 2] → type.block ≠ g
def Pz (κ : Kp) : Value := .iface 189 (.pointer (some κ.tree))
def ke (κ : Kp) : Value := .iface 189 (.pointer (some κ.stuck))
def vB (κ : Kp) (b : Nat) : Option Go.Obj :=
 bif Nat.beq b 1 then some (.cells #[.iface 189 (.pointer (some κ.tree))] κ.T1 κ.z1)
 else bif Nat.beq b 0 then some (.cells #[.iface 189 (.pointer (some κ.stuck))] κ.T2 κ.z2)
 else bif Nat.beq b 3 then some (.cells #[.iface 189 (.pointer (some κ.eC))] κ.T3 κ.z3)
 else bif Nat.beq b 4 then some (.cells #[.iface 189 (.pointer (some κ.arity))] κ.T4 κ.z4)
 else bif Nat.beq b 2 then some (.cells #[.iface 189 (.pointer (some κ.type))] κ.T5 κ.z5)
 else bif Nat.beq b κ.eC.block then some (.cells κ.c3 κ.t3 (0, 0))
 else bif Nat.beq b κ.arity.block then some (.cells κ.c4 κ.t4 (0, 0))
 else bif Nat.beq b κ.type.block then some (.cells κ.c5 κ.t5 (0, 0))
 else none
def aw (κ : Kp) (ok : Bool) : Value := bif ok then .nilIface else .iface 189 (.pointer (some κ.tree))
theorem la (κ : Kp) (b : Bool) : az (aw κ b) = true := by cases b <;> rfl
theorem nZ (κ : Kp) (b : Bool) : bz (aw κ b) = b := by cases b <;> rfl
theorem mH (κ : Kp) (b : Bool) : aZ (aw κ b) = true := by cases b <;> rfl
noncomputable abbrev Pr (κ : Kp) : Pg := { toProgram := Tryz.prog, kept := vB κ }
theorem vF : n8 Tryz.prog := JA (by kernel_rfl)
def P8 : List Nat := [79, 129, 155, 130, 160, 135, 159, 80, 154, 999999, 88, 93, 89, 91, 132, 92, 94, 77, 119, 78, 70, 115]
def Rq : List Nat := [153, 126, 107, 138, 101, 102, 139]
def GC : List Nat := [123, 131, 167, 150, 151, 122, 148, 121, 124, 149, 54, 169, 171, 117, 110, 147, 28, 11, 58, 57, 30, 29, 999999, 25, 26, 161, 162, 136, 105, 164, 142, 104, 143, 144, 106, 65, 999999, 67, 74, 145, 90, 59, 98, 62, 99, 163, 140, 141, 103, 96, 114, 53, 72, 48, 75, 69, 34, 14, 10]
def MK : List Nat := [84, 168, 128, 97, 61, 64]
def OP : List Nat := [71]
noncomputable def E0 (κ : Kp) : Env := ((Env.none (Pr κ) live (fun f => j6 f P8) (fun f => j6 f Rq) (fun f => j6 f GC)).gZ (fun f => j6 f MK)).jC (fun f => j6 f OP)
theorem e0 (κ : Kp) : ay (E0 κ) := ((ay.none vF).gZ _).jC _
theorem m0 (κ : Kp) : ah (E0 κ) := (ah.none.gZ _).jC _
theorem XD (κ : Kp) (op : Int) (K : AV → List Dn.Obj → Prop) : (bh (E0 κ) 12 123 [.int op] [] K) = (
 aD (op == (5 : Int)) (K (AV.bool true) []) (aD (op == (6 : Int)) (K (AV.bool true) []) (K (AV.bool (op == (7 : Int))) []))) := by kernel_rfl
def QW : List AV → Option (Bool × AV)
 | [.lit (.int .i64 op)] => some (true, .bool (jz op))
 | _ => none
theorem Y0 (κ : Kp) : cx (E0 κ) 12 123 QW := by
 intro args x h
 unfold QW at h
 split at h
 ·rename_i op
  simp only [aa3, aa9, true_and] at h
  subst h
  refine ⟨_, rfl, rfl, ?_⟩
  rw [XD]
  unfold jz
  by_cases h1 : op = 5 <;> by_cases h2 : op = 6 <;> by_cases h3 : op = 7 <;> simp [af, h1, h2, h3] <;> omega
 ·cases h
noncomputable def Kb (κ : Kp) : Env := (E0 κ).aE 123 QW
theorem T8 (κ : Kp) : ay (Kb κ) := (e0 κ).aE (m0 κ) (Y0 κ)
theorem SO (κ : Kp) : ah (Kb κ) := (m0 κ).aE
theorem Xr (κ : Kp) (s : ByteArray) (p : Nat) (I : Nat → S → Prop) (n : Nat) (K : Exit → S → Prop) : (vc (Kb κ) 12 131 none 0 (ag (Pr κ).toProgram 131 4) (sp 55 [(18, .ptr 0 0 [] 0)] [.cL s p]) (bK (Kb κ) 131 4 0 I n K)) = (
 letI z1 := sp 55 [(18, AV.ptr 0 0 [] 0)] [Obj.cL s (p + Prod.snd (Utf8.decode s p))]
 letI z2 := K Exit.ret (sp 55 [(2, AV.bool false)] [])
 letI z3 := Prod.fst (Utf8.decode s p)
 letI z4 := decide ((↑z3 : Int) < (48 : Int))
 letI z5 := decide ((↑z3 : Int) > (57 : Int))
 letI z6 := decide ((↑z3 : Int) ≥ (65 : Int))
 letI z7 := decide ((↑z3 : Int) ≤ (90 : Int))
 aD (Nat.blt p (ByteArray.size s)) (aD (decide ((↑z3 : Int) ≥ (97 : Int))) (aD (decide ((↑z3 : Int) ≤ (122 : Int))) (∃ (m : Nat), m < n ∧ I m z1) (aD z6 (aD z7
 (∃ (m : Nat), m < n ∧ I m z1) (aD (!(↑z3 : Int) == (95 : Int)) (aD ((↑p : Int) == (0 : Int)) z2 (aD z4 z2 (aD z5 z2 (∃ (m : Nat), m < n ∧ I m z1)))) (∃ (m :
 Nat), m < n ∧ I m z1))) (aD (!(↑z3 : Int) == (95 : Int)) (aD ((↑p : Int) == (0 : Int)) z2 (aD z4 z2 (aD z5 z2 (∃ (m : Nat), m < n ∧ I m z1)))) (∃ (m : Nat), m <
 n ∧ I m z1)))) (aD z6 (aD z7 (∃ (m : Nat), m < n ∧ I m z1) (aD (!(↑z3 : Int) == (95 : Int)) (aD ((↑p : Int) == (0 : Int)) z2 (aD z4 z2 (aD z5 z2 (∃ (m : Nat), m
 < n ∧ I m z1)))) (∃ (m : Nat), m < n ∧ I m z1))) (aD (!(↑z3 : Int) == (95 : Int)) (aD ((↑p : Int) == (0 : Int)) z2 (aD z4 z2 (aD z5 z2 (∃ (m : Nat), m < n ∧ I m
 z1)))) (∃ (m : Nat), m < n ∧ I m z1)))) (K (Exit.exit 0) (sp 55 [] []))) := by kernel_rfl
abbrev Mu (a : ByteArray × Nat) : S := sp 55 [(18, .ptr 0 0 [] 0)] [.cL a.1 a.2]
noncomputable def yY (a : ByteArray × Nat) : Out (Exit × S) :=
 .aD (nameAt a.1 a.2) (.one (.exit 0, sp 55 [] [])) (.one (.ret, sp 55 [(2, .bool false)] []))
theorem Ug (κ : Kp) : bq (Kb κ) 12 131 4 (aO 0 Mu (fun _ => True) yY) := by
 refine aR (fun a => a.1.size - a.2) ?_
 rintro ⟨s, p⟩ K - ho
 rw [show (Kb κ).P = Pr κ from rfl, Xr]
 simp only [yY, Out.run, af] at ho
 have hgo : ∀ c : Int, c = (Utf8.decode s p).1 → p < s.size → (letter c || (!(decide ((p : Int) = 0) || decide (c < 48) || decide ((57 : Int) < c)))) = true →
   ∃ m, m < s.size - p ∧ fF Mu (fun _ => True) yY (fun a => a.1.size - a.2) K m (sp 55 [(18, .ptr 0 0 [] 0)] [.cL s (p + (Utf8.decode s p).2)]) := by
  rintro c rfl hp hc
  have := vC s p
  refine ⟨s.size - (p + (Utf8.decode s p).2), by omega, (s, p + (Utf8.decode s p).2), rfl, trivial, rfl, ?_⟩
  rw [nameAt, dif_pos hp, hc, ab9] at ho
  simpa only [yY, Out.run, af] using ho
 have hno : ∀ c : Int, c = (Utf8.decode s p).1 → p < s.size → (letter c || (!(decide ((p : Int) = 0) || decide (c < 48) || decide ((57 : Int) < c)))) = false → K Exit.ret (sp 55 [(2, .bool false)] []) := by
  rintro c rfl hp hc
  rw [nameAt, dif_pos hp, hc, Bool.false_and] at ho
  exact ho.2 rfl
 have hgo := hgo _ rfl
 have hno := hno _ rfl
 generalize ((Utf8.decode s p).1 : Int) = c at *
 simp only [af, Nat.blt_eq, aa0, aa2, beq_iff_eq, beq_eq_false_iff_ne, Bool.not_eq_true', ab2, bne_iff_ne]
 refine ⟨fun hp => ?_, fun hp => ho.1 ?_⟩
 ·have hgo := hgo hp
  have hno := hno hp
  simp only [letter, ab5, aa1, Bool.not_eq_true', Bool.or_eq_false_iff, Bool.and_eq_false_iff, ab2, aa0, aa2] at hgo hno
  repeat' (first | apply And.intro | intro _)
  all_goals first | (refine hgo ?_; omega) | (refine hno ?_; omega)
 ·have hp : ¬ p < s.size := fun h => by rw [show Nat.blt p s.size = true from by rw [Nat.blt_eq]; exact h] at hp; cases hp
  rw [nameAt, dif_neg hp]
noncomputable def Is (κ : Kp) : Env := (Kb κ).aj 131 4 (aO 0 Mu (fun _ => True) yY)
theorem Q6 (κ : Kp) : ay (Is κ) := (T8 κ).aj (SO κ) (Ug κ)
theorem NL (κ : Kp) : ah (Is κ) := (SO κ).aj aG
theorem U1 (κ : Kp) (s : ByteArray) (K : AV → List Dn.Obj → Prop) : (bh (Is κ) 12 131 [.lit (.string s)] [] K) = (
 letI z1 := K (AV.bool false) []
 letI z2 := Pg.toProgram (Env.P (Kb κ))
 aD (ByteArray.toList s == ByteArray.toList { data := #[] }) z1 (aD (ByteArray.toList s == ByteArray.toList { data := #[OfNat.ofNat 95] }) z1 (aD (decide ((↑(ByteArray.size s) : Int) > (40 : Int))) z1 (ag z2 131 4 = ag z2 131 4 ∧ ∃ (a : ByteArray × Nat), sp 55 [(18, AV.ptr 0 0 [] 0)] [Obj.cL s 0] = sp 55 [(18, AV.ptr 0 0 [] 0)] [Obj.cL a.1 a.2] ∧ True ∧ aD (nameAt a.1 a.2) (K (AV.bool true) []) z1)))) := by kernel_rfl
def P4 : List AV → Option (Bool × AV)
 | [.lit (.string s)] => some (true, .bool (isName s))
 | _ => none
theorem XY (κ : Kp) : cx (Is κ) 12 131 P4 := by
 intro args x h
 unfold P4 at h
 split at h
 ·rename_i s
  simp only [aa3, aa9, true_and] at h
  subst h
  refine ⟨_, rfl, rfl, ?_⟩
  rw [U1]
  unfold isName kq
  simp only [af, aa0, aa2]
  refine ⟨fun h1 => by rw [h1]; rfl, fun h1 => ⟨fun h2 => by rw [h1, h2]; rfl, fun h2 => ⟨fun h3 => ?_, fun h3 => ⟨trivial, ⟨s, 0⟩, rfl, trivial, fun h4 => ?_, fun h4 => ?_⟩⟩⟩⟩
  ·rw [h1, h2, aa6 (show (40 : Int) < s.size from h3)]; rfl
  ·rw [h1, h2, aa4 (show ¬ (40 : Int) < s.size from h3), h4]; rfl
  ·rw [h1, h2, aa4 (show ¬ (40 : Int) < s.size from h3), h4]; rfl
 ·cases h
noncomputable def N9 (κ : Kp) : Env := (Is κ).aE 131 P4
theorem YA (κ : Kp) : ay (N9 κ) := (Q6 κ).aE (NL κ) (XY κ)
theorem Sr (κ : Kp) : ah (N9 κ) := (NL κ).aE
theorem Zu (κ : Kp) (op : Int) (s : ByteArray) (n : Int) (l : List AV) (K : AV → List Dn.Obj → Prop) : (bh (N9 κ) 12 167 [.agg [.int op, .lit (.string s), .int n, .ae 52 l]] [] K) = (
 letI z1 := K (AV.bool (n == (0 : Int))) []
 letI z2 := K (AV.bool false) []
 letI z3 := ByteArray.toList s == ByteArray.toList { data := #[] }
 aD (op == (1 : Int)) (aD (isName s) z1 z2) (aD (op == (2 : Int)) (K (AV.bool z3) []) (aD (op == (3 : Int)) z1 (aD (op == (4 : Int)) (aD z3 z1 z2) (aD (op == (0 : Int)) (aD (ByteArray.toList s == ByteArray.toList {data := #[] }) z1 z2) z2))))) := by kernel_rfl
def Q0 : List AV → Option (Bool × AV)
 | [.agg [.lit (.int .i64 op), .lit (.string s), .lit (.int .i64 n), .ae 52 _]] => some (true, .bool (bare op s n))
 | _ => none
theorem YZ (κ : Kp) : cx (N9 κ) 12 167 Q0 := by
 intro args x h
 unfold Q0 at h
 split at h
 ·rename_i op s n l
  simp only [aa3, aa9, true_and] at h
  subst h
  refine ⟨_, rfl, rfl, ?_⟩
  rw [Zu]
  have e : ∀ k : Int, (op == k) = decide (op = k) := fun k => by by_cases h : op = k <;> simp [h]
  simp only [e]
  cases h5 : isName s <;> cases h6 : (ByteArray.toList s == ByteArray.toList (ByteArray.mk #[])) <;>
  by_cases h1 : op = 1 <;> by_cases h2 : op = 2 <;> by_cases h3 : op = 3 <;> by_cases h4 : op = 4 <;> by_cases h0 : op = 0 <;>
  first | omega | (simp only [aD, bare, kq, h5, h6, h1, h2, h3, h4, h0]; rfl) | (simp [aD, bare, kq, h5, h6, h1, h2, h3, h4, h0]; done) | (simp [aD, bare, kq, h5, h6, h1, h2, h3, h4, h0]; rfl) | skip
 ·cases h
noncomputable def Jq (κ : Kp) : Env := (N9 κ).aE 167 Q0
theorem PH (κ : Kp) : ay (Jq κ) := (YA κ).aE (Sr κ) (YZ κ)
theorem m64 (κ : Kp) : ah (Jq κ) := (Sr κ).aE
theorem OA (l : List AV) : ((l.length : Int) == 0) = decide ((l.length : Int) = 0) := by
 cases h : decide ((l.length : Int) = 0) with
 | true => rw [aa0] at h; rw [h]; rfl
 | false => rw [aa2] at h; exact beq_eq_false_iff_ne.2 h
theorem Zt (κ : Kp) (op : Int) (s : ByteArray) (n : Int) (l : List AV) (K : AV → List Dn.Obj → Prop) : (bh (Jq κ) 12 150 [.agg [.int op, .lit (.string s), .int n, .ae 52 l]] [] K) = (
 aD (op == (0 : Int)) (aD (bare op s n) (K (AV.bool ((↑(l.length) : Int) == (0 : Int))) []) (K (AV.bool false) [])) (K (AV.bool false) [])) := by kernel_rfl
theorem Wx (κ : Kp) (s : ByteArray) (l : List AV) (K : AV → List Dn.Obj → Prop) : (bh (Jq κ) 12 151 [.agg [.lit (.string s), .ae 52 l]] [] K) = (
 aD (ByteArray.toList s == ByteArray.toList { data := #[] }) (K (AV.bool ((↑(l.length) : Int) == (0 : Int))) []) (K (AV.bool false) [])) := by kernel_rfl
theorem Xj (κ : Kp) (b : Bool) (K : AV → List Dn.Obj → Prop) : (bh (Jq κ) 12 122 [.bool b] [] K) = (
 aD b (K (AV.lit Value.nilIface) []) (K (AV.lit (Value.iface 189 (Value.pointer (some (Kp.tree κ))))) [])) := by kernel_rfl
def Q1 : List AV → Option (Bool × AV)
 | [.agg [.lit (.int .i64 op), .lit (.string s), .lit (.int .i64 n), .ae 52 l]] => some (true, .bool (decide (op = 0) && bare op s n && decide ((l.length : Int) = 0)))
 | _ => none
theorem We (κ : Kp) : cx (Jq κ) 12 150 Q1 := by
 intro args x h
 unfold Q1 at h
 split at h
 ·rename_i op s n l
  simp only [aa3, aa9, true_and] at h
  subst h
  refine ⟨_, rfl, rfl, ?_⟩
  rw [Zt]
  rw [OA]
  cases h5 : bare op s n <;> by_cases h0 : op = 0 <;> simp [af, h5, h0] <;> first | rfl | skip
 ·cases h
def Q3 : List AV → Option (Bool × AV)
 | [.agg [.lit (.string s), .ae 52 l]] => some (true, .bool (kq s (ByteArray.mk #[]) && decide ((l.length : Int) = 0)))
 | _ => none
theorem UJ (κ : Kp) : cx (Jq κ) 12 151 Q3 := by
 intro args x h
 unfold Q3 at h
 split at h
 ·rename_i s l
  simp only [aa3, aa9, true_and] at h
  subst h
  refine ⟨_, rfl, rfl, ?_⟩
  rw [Wx]
  unfold kq
  rw [OA]
  cases h5 : (ByteArray.toList s == ByteArray.toList (ByteArray.mk #[])) <;> simp [af] <;> first | rfl | skip
 ·cases h
def QD (κ : Kp) : List AV → Option (Bool × AV)
 | [.lit (.bool b)] => some (true, .lit (aw κ b))
 | _ => none
theorem Ue (κ : Kp) : cx (Jq κ) 12 122 (QD κ) := by
 intro args x h
 unfold QD at h
 split at h
 ·rename_i b
  simp only [aa3, aa9, true_and] at h
  subst h
  refine ⟨_, rfl, mH κ b, ?_⟩
  rw [Xj]
  cases b <;> rfl
 ·cases h
noncomputable def PE (κ : Kp) : Env := (((Jq κ).aE 150 Q1).aE 151 Q3).aE 122 (QD κ)
theorem Td (κ : Kp) : ay (PE κ) := (((PH κ).eg (l7 (PH κ) (m64 κ) (We κ))).eg (l7 (PH κ) (m64 κ) (UJ κ))).eg (l7 (PH κ) (m64 κ) (Ue κ))
theorem SZ (κ : Kp) : ah (PE κ) := (((m64 κ).aE).aE).aE
def MG (κ : Kp) : List AV → Option (Bool × AV)
 | [.agg [.lit (.int .i64 op), .lit (.string s), .lit (.int .i64 n), .ae 52 l], .lit (.int .i64 h)] => some (decide (0 ≤ h) && decide (h ≤ 1000), .lit (aw κ (ak h.toNat (.mk op s n (aa l)))))
 | _ => none
def A7 : List AV → Nat
 | [_, .lit (.int .i64 h)] => h.toNat
 | _ => 0
noncomputable def wH (κ : Kp) (n : Nat) : Env := (PE κ).aE 148 (below (MG κ) A7 n)
theorem Zy (κ : Kp) (r : Nat) (h : Int) (l : List AV) (i : Int) (I : Nat → S → Prop) (n : Nat) (K : Exit → S → Prop) : (vc (wH κ r) 12 148 none 0 (ag (Pr κ).toProgram 148 10) (sp 72 [(1, .int h), (49, .ae 52 l), (50, .int l.length), (51, .int i)] []) (bK (wH κ r) 148 10 0 I n K)) = (
 letI z2 := nth l i.toNat
 letI z3 := K Exit.ret (sp 72 [(4, AV.lit (Value.iface 189 (Value.pointer (some (Kp.tree κ)))))] [])
 letI z5 := h - (1 : Int)
 letI z4 := IntKind.wrap IntKind.i64 z5
 letI z1 := aw κ (ak (Int.toNat z4) (Tm.mk (toInt (ad z2 0)) (toStr (ad z2 1)) (toInt (ad z2 2)) (aa (ai (ad z2 3)))))
 aD (decide (i < (↑(l.length) : Int))) (bg (decide ((0 : Int) ≤ i) && decide (i < (↑(l.length) : Int))) (aD (toInt (ad z2 0) == (3 : Int)) z3 (aD (toInt (ad z2
 0) == (4 : Int)) z3 (bg (decide ((0 : Int) ≤ IntKind.wrap IntKind.i64 z5) && decide (IntKind.wrap IntKind.i64 z5 ≤ (1000 : Int)) && Nat.blt (A7 [AV.agg [AV.int
 (toInt (ad z2 0)), AV.str (toStr (ad z2 1)), AV.int (toInt (ad z2 2)), AV.ae 52 (ai (ad z2 3))], AV.int z4]) r) (bg (az z1) (aD (!bz z1) (K Exit.ret (sp 72 [(4,
 AV.lit z1)] [])) (∃ (m : Nat), m < n ∧ I m (sp 72 [(1, AV.int h), (49, AV.ae 52 l), (50, AV.int (↑(l.length) : Int)), (51, AV.int (IntKind.wrap IntKind.i64 (i +
 (1 : Int))))] [])))))))) (K (Exit.exit 1) (sp 72 [] []))) := by kernel_rfl
abbrev M7 (a : Int × List AV × Int) : S := sp 72 [(1, .int a.1), (49, .ae 52 a.2.1), (50, .int a.2.1.length), (51, .int a.2.2)] []
def Hk (r : Nat) (a : Int × List AV × Int) : Prop := 1 ≤ a.1 ∧ a.1 ≤ 1000 ∧ a.1.toNat ≤ r ∧ a.2.1.length ≤ aL ∧ 0 ≤ a.2.2 ∧ a.2.2 ≤ a.2.1.length
noncomputable def CF (κ : Kp) (a : Int × List AV × Int) : Out (Exit × S) :=
 .aD (lf (a.1 - 1).toNat (aa (a.2.1.drop a.2.2.toNat))) (.one (.exit 1, sp 72 [] [])) (.one (.ret, sp 72 [(4, .lit (aw κ false))] []))
theorem Vg (κ : Kp) (r : Nat) : bq (wH κ r) 12 148 10 (aO 0 M7 (Hk r) (CF κ)) := by
 refine aR (fun a => a.2.1.length - a.2.2.toNat) ?_
 rintro ⟨h, l, i⟩ K ⟨h1, h2, h3, h4, h5, h6⟩ ho
 simp only at h1 h2 h3 h4 h5 h6
 rw [show (wH κ r).P = Pr κ from rfl, Zy]
 simp only [CF, Out.run, af] at ho
 rw [a8 (n := h - 1) (by omega) (by omega)]
 simp only [aL] at h4
 simp only [la, nZ]
 simp only [← cy]
 simp only [af, ax, aa0, aa2, aa1, beq_iff_eq, beq_eq_false_iff_ne, Bool.not_eq_true', ab2, A7, Nat.blt_eq]
 refine ⟨fun hi => ⟨⟨h5, hi⟩, ?_⟩, fun hi => ho.1 ?_⟩
 ·have e := dM l i.toNat (by omega)
  rw [e] at ho
  have hop : (cz (nth l i.toNat)).op = toInt (ad (nth l i.toNat) 0) := by rw [cy]; rfl
  simp only [lf, List.all_cons, hop] at ho
  refine ⟨fun ha => ho.2 (by simp [ha]), fun ha => ⟨fun hb => ho.2 (by simp [hb]), fun hb => ⟨⟨⟨by omega, by omega⟩, by omega⟩, trivial, fun hc => ?_, fun hc => ?_⟩⟩⟩
  ·rw [hc]; exact ho.2 (by rw [hc]; simp)
  ·rw [a8 (n := i + 1) (by omega) (by omega)]
   refine ⟨_, ?_, (h, l, i + 1), rfl, ⟨h1, h2, h3, by simpa [aL] using h4, by simp only; omega, by simp only; omega⟩, rfl, ?_⟩
   ·simp only; omega
   ·rw [hc] at ho
    simp only [CF, Out.run, af, lf]
    rw [show (i + 1).toNat = i.toNat + 1 by omega]
    simpa [ha, hb] using ho
 ·rw [aa8 (by omega)]; rfl
noncomputable def Ef (κ : Kp) (r : Nat) : Env := (wH κ r).aj 148 10 (aO 0 M7 (Hk r) (CF κ))
theorem WE (κ : Kp) (r : Nat) (op : Int) (s : ByteArray) (n : Int) (l : List AV) (h : Int) (K : AV → List Dn.Obj → Prop) : (bh (Ef κ r) 12 148 [.agg [.int op, .lit (.string s), .int n, .ae 52 l], .int h] [] K) = (
 letI z1 := K (AV.lit (Value.iface 189 (Value.pointer (some (Kp.tree κ))))) []
 letI z2 := Pg.toProgram (Env.P (wH κ r))
 letI z3 := K (AV.lit Value.nilIface) []
 letI z4 := (0 : Int)
 aD (h == z4) z1 (aD (op == z4) z1 (aD (!jz op) (aD (!bare op s n) z1 (aD (decide ((↑(l.length) : Int) > z4)) z1 z3)) (aD (!ByteArray.toList s == ByteArray.toList { data := #[] }) z1 (aD (n != z4) z1 (aD ((↑(l.length) : Int) != (2 : Int)) z1 (ag z2 148 10 = ag z2 148 10 ∧ ∃ (a : Int × List AV × Int), sp 72 [(1, AV.int h), (49, AV.ae 52 l), (50, AV.int (↑(l.length) : Int)), (51, AV.int 0)] [] = sp 72 [(1, AV.int a.1), (49, AV.ae 52 a.2.1), (50, AV.int (↑(a.2.1.length) : Int)), (51, AV.int a.2.2)] [] ∧ ((1 : Int) ≤ a.1 ∧ a.1 ≤ (1000 : Int) ∧ a.1.toNat ≤ r ∧ a.2.1.length ≤ 9223372036854775807 ∧ z4 ≤ a.2.2 ∧ a.2.2 ≤ (↑(a.2.1.length) : Int)) ∧ aD (lf (Int.toNat (a.1 - (1 : Int))) (aa (List.drop (Int.toNat a.2.2) a.2.1))) z3 z1))))))) := by kernel_rfl
theorem PT (κ : Kp) (r : Nat) (hp : fX (Pr κ) 148 (below (MG κ) A7 r)) : ay (Ef κ r) ∧ ah (Ef κ r) ∧ (Ef κ r).P = Pr κ :=
 have h : ay (wH κ r) := (Td κ).eg hp
 have hm : ah (wH κ r) := (SZ κ).aE
 ⟨h.aj hm (Vg κ r), hm.aj aG, rfl⟩
theorem WZ (κ : Kp) (r : Nat) : cx (Ef κ r) 12 148 (fun xs => bif Nat.beq (A7 xs) r then MG κ xs else none) := by
 intro args x hh
 cases hb : Nat.beq (A7 args) r with
 | false => simp only [hb] at hh; cases hh
 | true =>
  simp only [hb, aa7] at hh
  unfold MG at hh
  split at hh
  ·rename_i op s n l h
   simp only [aa3, aa9, aa1, aa0] at hh
   obtain ⟨⟨h1, h2⟩, rfl⟩ := hh
   have hr : h.toNat = r := Nat.eq_of_beq_eq_true hb
   refine ⟨_, rfl, mH κ _, ?_⟩
   rw [WE]
   have ef : AV.lit (.iface 189 (.pointer (some κ.tree))) = .lit (aw κ false) := rfl
   have et : AV.lit .nilIface = .lit (aw κ true) := rfl
   rw [ef, et]
   by_cases h0 : h = 0
   ·subst h0; rfl
   ·obtain ⟨m, hm⟩ : ∃ m, h.toNat = m + 1 := ⟨h.toNat - 1, by omega⟩
    rw [hm, qd, eG]
    unfold kq
    generalize (ByteArray.toList s == ByteArray.toList (ByteArray.mk #[])) = z
    simp only [af, beq_iff_eq, beq_eq_false_iff_ne, Bool.not_eq_true', ab2, aa0, aa2, bne_iff_ne, bne_eq_false_iff_eq]
    refine ⟨fun e => absurd e h0, fun _ => ⟨fun e => by rw [aa6 e]; rfl, fun e => ?_⟩⟩
    rw [aa4 e, aa5]
    refine ⟨fun e2 => ?_, fun e2 => ?_⟩
    ·rw [e2, aa5]
     refine ⟨fun e3 => by rw [e3]; rfl, fun e3 => ⟨fun e4 => ?_, fun e4 => ?_⟩⟩
     ·rw [aa4 (show ¬ l.length = 0 by omega), Bool.and_false]
     ·rw [e3, aa6 (show l.length = 0 by omega)]; rfl
    ·rw [e2, aa7]
     refine ⟨fun e3 => by rw [e3]; rfl, fun e3 => ⟨fun e4 => by rw [e3, aa4 e4]; rfl, fun e4 => ⟨fun e5 => ?_, fun e5 => ?_⟩⟩⟩
     ·rw [aa4 (show ¬ l.length = 2 by omega)]; simp
     ·refine ⟨trivial, (h, l, 0), rfl, ⟨by simp only; omega, h2, by simp only; omega, by simp only; omega, by simp only; omega, by simp only; omega⟩, ?_⟩
      rw [e3, aa6 e4, aa6 (show l.length = 2 by omega)]
      simp only [show (h - 1).toNat = m by omega, ab7, ab0, ab9]
      exact ⟨fun e => by rw [e], fun e => by rw [e]⟩
  ·cases hh
theorem Xd (κ : Kp) : fX (Pr κ) 148 (MG κ) := ay.te (MG κ) A7 (Ef κ) (PT κ) (WZ κ)
noncomputable def Ky (κ : Kp) : Env := (PE κ).aE 148 (MG κ)
theorem Y6 (κ : Kp) : ay (Ky κ) := (Td κ).eg (Xd κ)
theorem R0 (κ : Kp) : ah (Ky κ) := (SZ κ).aE
theorem YM (κ : Kp) (l : List AV) (i : Int) (I : Nat → S → Prop) (n : Nat) (K : Exit → S → Prop) : (vc (Ky κ) 12 121 none 0 (ag (Pr κ).toProgram 121 4) (sp 36 [(24, .ae 52 l), (25, .int l.length), (26, .int i)] []) (bK (Ky κ) 121 4 0 I n K)) = (
 letI z2 := nth l i.toNat
 letI z1 := aw κ (ak 20 (Tm.mk (toInt (ad z2 0)) (toStr (ad z2 1)) (toInt (ad z2 2)) (aa (ai (ad z2 3)))))
 aD (decide (i < (↑(l.length) : Int))) (bg (decide ((0 : Int) ≤ i) && decide (i < (↑(l.length) : Int))) (bg (az z1) (aD (!bz z1) (K Exit.ret (sp 36 [(2, AV.lit
 z1)] [])) (∃ (m : Nat), m < n ∧ I m (sp 36 [(24, AV.ae 52 l), (25, AV.int (↑(l.length) : Int)), (26, AV.int (IntKind.wrap IntKind.i64 (i + (1 : Int))))] [])))))
 (K (Exit.exit 0) (sp 36 [] []))) := by kernel_rfl
abbrev Pd (a : List AV × Int) : S := sp 36 [(24, .ae 52 a.1), (25, .int a.1.length), (26, .int a.2)] []
def F6 (a : List AV × Int) : Prop := a.1.length ≤ aL ∧ 0 ≤ a.2 ∧ a.2 ≤ a.1.length
noncomputable def Cm (κ : Kp) (a : List AV × Int) : Out (Exit × S) :=
 .aD ((aa (a.1.drop a.2.toNat)).all (ak 20)) (.one (.exit 0, sp 36 [] [])) (.one (.ret, sp 36 [(2, .lit (aw κ false))] []))
theorem Ym (κ : Kp) : bq (Ky κ) 12 121 4 (aO 0 Pd F6 (Cm κ)) := by
 refine aR (fun a => a.1.length - a.2.toNat) ?_
 rintro ⟨l, i⟩ K ⟨h4, h5, h6⟩ ho
 simp only at h4 h5 h6
 rw [show (Ky κ).P = Pr κ from rfl, YM]
 simp only [Cm, Out.run, af] at ho
 simp only [aL] at h4
 simp only [la, nZ, ← cy]
 simp only [af, ax, aa0, aa2, aa1, beq_iff_eq, beq_eq_false_iff_ne, Bool.not_eq_true', ab2]
 refine ⟨fun hi => ⟨⟨h5, hi⟩, trivial, fun hc => ?_, fun hc => ?_⟩, fun hi => ho.1 ?_⟩
 ·rw [hc]
  rw [dM l i.toNat (by omega), List.all_cons, hc, Bool.false_and] at ho
  exact ho.2 rfl
 ·rw [a8 (n := i + 1) (by omega) (by omega)]
  refine ⟨_, ?_, (l, i + 1), rfl, ⟨by simpa [aL] using h4, by simp only; omega, by simp only; omega⟩, rfl, ?_⟩
  ·simp only; omega
  ·rw [dM l i.toNat (by omega), List.all_cons, hc, ab9] at ho
   simp only [Cm, Out.run, af, show (i + 1).toNat = i.toNat + 1 by omega]
   exact ho
 ·rw [aa8 (by omega)]; rfl
noncomputable def HQ (κ : Kp) : Env := (Ky κ).aj 121 4 (aO 0 Pd F6 (Cm κ))
theorem Qy (κ : Kp) : ay (HQ κ) := (Y6 κ).aj (R0 κ) (Ym κ)
theorem Pp (κ : Kp) : ah (HQ κ) := (R0 κ).aj aG
theorem V9 (κ : Kp) (s : ByteArray) (l : List AV) (K : AV → List Dn.Obj → Prop) : (bh (HQ κ) 12 121 [.agg [.lit (.string s), .ae 52 l]] [] K) = (
 letI z1 := K (AV.lit (Value.iface 189 (Value.pointer (some (Kp.tree κ))))) []
 letI z2 := Pg.toProgram (Env.P (Ky κ))
 aD (!isName s) z1 (aD ((↑(l.length) : Int) == (0 : Int)) z1 (aD (decide ((↑(l.length) : Int) > (8 : Int))) z1 (ag z2 121 4 = ag z2 121 4 ∧ ∃ (a : List AV ×
 Int), sp 36 [(24, AV.ae 52 l), (25, AV.int (↑(l.length) : Int)), (26, AV.int 0)] [] = sp 36 [(24, AV.ae 52 a.1), (25, AV.int (↑(a.1.length) : Int)), (26, AV.int
 a.2)] [] ∧ (a.1.length ≤ 9223372036854775807 ∧ (0 : Int) ≤ a.2 ∧ a.2 ≤ (↑(a.1.length) : Int)) ∧ aD (List.all (aa (List.drop a.2.toNat a.1)) (ak 20)) (K (AV.lit
 Value.nilIface) []) z1)))) := by kernel_rfl
def PL (κ : Kp) : List AV → Option (Bool × AV)
 | [.agg [.lit (.string s), .ae 52 l]] => some (true, .lit (aw κ (a0 ⟨s, aa l⟩)))
 | _ => none
theorem W4 (κ : Kp) : cx (HQ κ) 12 121 (PL κ) := by
 intro args x hh
 unfold PL at hh
 split at hh
 ·rename_i s l
  simp only [aa3, aa9, true_and] at hh
  subst hh
  refine ⟨_, rfl, mH κ _, ?_⟩
  rw [V9]
  have ef : AV.lit (.iface 189 (.pointer (some κ.tree))) = .lit (aw κ false) := rfl
  have et : AV.lit .nilIface = .lit (aw κ true) := rfl
  rw [ef, et]
  simp only [a0, eG]
  simp only [af, beq_iff_eq, beq_eq_false_iff_ne, Bool.not_eq_true', ab2, aa0, aa2]
  refine ⟨fun e => by rw [e]; rfl, fun e => ⟨fun e1 => by rw [aa6 (show l.length = 0 by omega)]; simp, fun e1 => ⟨fun e2 => by rw [aa4 (show ¬ l.length ≤ 8 by omega)]; simp, fun e2 => ⟨trivial, (l, 0), rfl, ⟨by simp only; omega, by simp only; omega, by simp only; omega⟩, ?_⟩⟩⟩⟩
  rw [e, aa4 (show ¬ l.length = 0 by omega), aa6 (show l.length ≤ 8 by omega)]
  simp only [ab7, ab0, ab9, Bool.not_false]
  exact ⟨fun e => by rw [e], fun e => by rw [e]⟩
 ·cases hh
noncomputable def IM (κ : Kp) : Env := (HQ κ).aE 121 (PL κ)
theorem WA (κ : Kp) : ay (IM κ) := (Qy κ).aE (Pp κ) (W4 κ)
theorem PB (κ : Kp) : ah (IM κ) := (Pp κ).aE
noncomputable def AF (κ : Kp) : Env := (IM κ).aj 149 2 (jI (IM κ) 12 149 2 5)
theorem Qa (κ : Kp) : ay (AF κ) := (WA κ).aj (PB κ) (pH (PB κ) 5)
theorem Pj (κ : Kp) : ah (AF κ) := (PB κ).aj (jQ (PB κ) 5)
theorem Q9 (κ : Kp) (u1 u2 : Value) (K : AV → List Dn.Obj → Prop) : (bh (AF κ) 12 149 [.ae 88 [.lit u1, .lit u2]] [] K) = (
 letI z1 := Pg.toProgram (Env.P (IM κ))
 ag z1 149 2 = ag z1 149 2 ∧ bg (az u1) (aD (!bz u1) (K (AV.lit u1) []) (bg (az u2) (aD (!bz u2) (K (AV.lit u2) []) (K (AV.lit Value.nilIface) []))))) := by kernel_rfl
theorem Qo (κ : Kp) (u1 u2 u3 : Value) (K : AV → List Dn.Obj → Prop) : (bh (AF κ) 12 149 [.ae 88 [.lit u1, .lit u2, .lit u3]] [] K) = (
 letI z1 := Pg.toProgram (Env.P (IM κ))
 ag z1 149 2 = ag z1 149 2 ∧ bg (az u1) (aD (!bz u1) (K (AV.lit u1) []) (bg (az u2) (aD (!bz u2) (K (AV.lit u2) []) (bg (az u3) (aD (!bz u3) (K (AV.lit u3) [])
 (K (AV.lit Value.nilIface) []))))))) := by kernel_rfl
theorem Q5 (κ : Kp) (u1 u2 u3 u4 : Value) (K : AV → List Dn.Obj → Prop) : (bh (AF κ) 12 149 [.ae 88 [.lit u1, .lit u2, .lit u3, .lit u4]] [] K) = (
 letI z1 := Pg.toProgram (Env.P (IM κ))
 ag z1 149 2 = ag z1 149 2 ∧ bg (az u1) (aD (!bz u1) (K (AV.lit u1) []) (bg (az u2) (aD (!bz u2) (K (AV.lit u2) []) (bg (az u3) (aD (!bz u3) (K (AV.lit u3) [])
 (bg (az u4) (aD (!bz u4) (K (AV.lit u4) []) (K (AV.lit Value.nilIface) []))))))))) := by kernel_rfl
def bm (u v : Value) : Value := bif bz u then v else u
theorem AM (κ : Kp) (a b : Bool) : bm (aw κ a) (aw κ b) = aw κ (a && b) := by cases a <;> rfl
theorem AI {u : Value} (h : az u = true) (h2 : bz u = true) : u = .nilIface := by cases u <;> simp_all [bz, az]
def Qv : List AV → Option (Bool × AV)
 | [.ae 88 [.lit u1, .lit u2]] => some ((az u1 && az u2) && (aZ u1 && aZ u2), .lit (bm u1 u2))
 | [.ae 88 [.lit u1, .lit u2, .lit u3]] => some ((az u1 && (az u2 && az u3)) && (aZ u1 && (aZ u2 && aZ u3)), .lit (bm u1 (bm u2 u3)))
 | [.ae 88 [.lit u1, .lit u2, .lit u3, .lit u4]] => some ((az u1 && (az u2 && (az u3 && az u4))) && (aZ u1 && (aZ u2 && (aZ u3 && aZ u4))), .lit (bm u1 (bm u2 (bm u3 u4))))
 | _ => none
theorem XV (κ : Kp) : cx (AF κ) 12 149 Qv := by
 intro args x hh
 unfold Qv at hh
 split at hh
 ·rename_i u1 u2
  simp only [aa3, aa9, aa1] at hh
  obtain ⟨⟨⟨h1, h2⟩, h3, h4⟩, rfl⟩ := hh
  refine ⟨_, rfl, by unfold bm; cases bz u1 <;> assumption, ?_⟩
  rw [Q9, h1, h2]
  refine ⟨rfl, ?_⟩
  unfold bm
  cases e1 : bz u1
  ·rfl
  ·cases e2 : bz u2
   ·rfl
   ·rw [AI h2 e2]; rfl
 ·rename_i u1 u2 u3
  simp only [aa3, aa9, aa1] at hh
  obtain ⟨⟨⟨h1, h2, h3⟩, h4, h5, h6⟩, rfl⟩ := hh
  refine ⟨_, rfl, by unfold bm; cases bz u1 <;> cases bz u2 <;> assumption, ?_⟩
  rw [Qo, h1, h2, h3]
  refine ⟨rfl, ?_⟩
  unfold bm
  cases e1 : bz u1
  ·rfl
  ·cases e2 : bz u2
   ·rfl
   ·cases e3 : bz u3
    ·rfl
    ·rw [AI h3 e3]; rfl
 ·rename_i u1 u2 u3 u4
  simp only [aa3, aa9, aa1] at hh
  obtain ⟨⟨⟨h1, h2, h3, k1⟩, h4, h5, h6, k2⟩, rfl⟩ := hh
  refine ⟨_, rfl, by unfold bm; cases bz u1 <;> cases bz u2 <;> cases bz u3 <;> assumption, ?_⟩
  rw [Q5, h1, h2, h3, k1]
  refine ⟨rfl, ?_⟩
  unfold bm
  cases e1 : bz u1
  ·rfl
  ·cases e2 : bz u2
   ·rfl
   ·cases e3 : bz u3
    ·rfl
    ·cases e4 : bz u4
     ·rfl
     ·rw [AI k1 e4]; rfl
 ·cases hh
noncomputable def Ou (κ : Kp) : Env := (AF κ).aE 149 Qv
theorem UY (κ : Kp) : ay (Ou κ) := (Qa κ).aE (Pj κ) (XV κ)
theorem Tk (κ : Kp) : ah (Ou κ) := (Pj κ).aE
theorem Xu (κ : Kp) (op : Int) (s : ByteArray) (l : List AV) (o1 : Int) (s1 : ByteArray) (n1 : Int) (l1 : List AV) (o2 : Int) (s2 : ByteArray) (n2 : Int) (l2 : List AV) (K : AV → List Dn.Obj → Prop) : (bh (Ou κ) 12 124 [.agg [.int op, .agg [.lit (.string s), .ae 52 l], .agg [.int o1, .lit (.string s1), .int n1, .ae 52 l1], .agg [.int o2, .lit (.string s2), .int n2, .ae 52 l2]]] [] K) = (
 letI z3 := aw κ (ak 20 (Tm.mk o1 s1 n1 (aa l1)))
 letI z4 := aw κ (ak 20 (Tm.mk o2 s2 n2 (aa l2)))
 letI z5 := aw κ (a0 { rel := s, l := aa l })
 letI z7 := Value.iface 189 (Value.pointer (some (Kp.tree κ)))
 letI z8 := aw κ (o2 == (1 : Int))
 letI z10 := aw κ (a0 {rel := s, l := aa l })
 letI z11 := K (AV.lit (bm z5 (bm z8 (bm z3 z4)))) []
 letI z13 := az z3 && az z4
 letI z14 := aZ z3 && aZ z4
 letI z17 := K (AV.lit (bm z5 z7)) []
 letI z12 := bg (az z5 && (true && z13) && (aZ z5 && (true && z14))) z17
 letI z18 := aw κ (o2 != (4 : Int))
 letI z19 := o1 == (2 : Int)
 letI z20 := K (AV.lit z7) []
 letI z15 := bg (true && z13 && (true && z14)) z20
 letI z22 := (0 : Int)
 letI z1 := aD (kq s { data := #[] } && decide ((↑(l.length) : Int) = z22)) (aD (o1 != (4 : Int)) (bg (az z18 && z13 && (aZ z18 && z14)) (K (AV.lit (bm z18 (bm z3 z4))) [])) z15) z15
 letI z6 := aw κ (decide (o2 = z22) && bare o2 s2 n2 && decide ((↑(l2.length) : Int) = z22))
 letI z2 := aD (decide (o1 = z22) && bare o1 s1 n1 && decide ((↑(l1.length) : Int) = z22)) (bg (az z5 && az z6 && (aZ z5 && aZ z6)) (K (AV.lit (bm z5 z6)) []))
  (bg (az z5 && true && (aZ z5 && true)) z17)
 letI z21 := aZ z5 && (aZ z6 && aZ z3)
 letI z23 := az z8 && z13
 letI z24 := aZ z8 && z14
 letI z9 := az z5 && z23 && (aZ z5 && z24)
 letI z16 := bg z9 (K (AV.lit (bm z10 (bm z8 (bm z3 z4)))) [])
 aD (o1 == (1 : Int)) (aD (op == (1 : Int)) z2 (aD (op == (2 : Int)) z2 (aD (op == (3 : Int)) z1 (aD (op == (4 : Int)) z1 (aD (op == (5 : Int)) z1 (aD (op == (6
 : Int)) z1 (aD (op == (7 : Int)) (bg (az z5 && (az z6 && az z3) && z21) (K (AV.lit (bm z5 (bm z6 z3))) [])) (aD (op == (8 : Int)) (bg z9 z11) (aD (op == (9 :
 Int)) (bg (az z10 && z23 && (aZ z5 && z24)) z11) (aD (op == (10 : Int)) z16 z20)))))))))) (aD (op == (1 : Int)) z2 (aD (op == (2 : Int)) z2 (aD (op == (3 :
 Int)) z1 (aD (op == (4 : Int)) z1 (aD (op == (5 : Int)) z1 (aD (op == (6 : Int)) z1 (aD (op == (7 : Int)) (aD z19 (bg (az z10 && (az z6 && az z3) && z21) (K
 (AV.lit (bm z10 (bm z6 z3))) [])) (bg (az z5 && (true && az z3) && (aZ z5 && (true && aZ z3))) (K (AV.lit (bm z10 z7)) []))) (aD (op == (8 : Int)) (aD z19 (bg
 z9 z11) z12) (aD (op == (9 : Int)) (aD z19 (bg (az z5 && z23 && (aZ z10 && z24)) z11) (bg (az z5 && (true && z13) && (aZ z10 && (true && z14))) z17)) (aD (op ==
 (10 : Int)) (aD z19 z16 z12) z20))))))))))) := by kernel_rfl
theorem Ji (κ : Kp) (b x y r : Bool) : aD b (AV.lit (aw κ x) = AV.lit (aw κ r)) (AV.lit (aw κ y) = AV.lit (aw κ r)) ↔ (AV.lit (aw κ (bif b then x else y)) = AV.lit (aw κ r)) := by
 cases b <;> rfl
theorem IT (a b : Int) : (a == b) = decide (a = b) := by by_cases h : a = b <;> simp [h]
theorem CK (a b : Int) : (a != b) = !decide (a = b) := by by_cases h : a = b <;> simp [h]
def P1 (κ : Kp) : List AV → Option (Bool × AV)
 | [.agg [.lit (.int .i64 op), .agg [.lit (.string s), .ae 52 l], .agg [.lit (.int .i64 o1), .lit (.string s1), .lit (.int .i64 n1), .ae 52 l1], .agg [.lit (.int .i64 o2), .lit (.string s2), .lit (.int .i64 n2), .ae 52 l2]]] =>
  some (true, .lit (aw κ (fJ ⟨op, ⟨s, aa l⟩, .mk o1 s1 n1 (aa l1), .mk o2 s2 n2 (aa l2)⟩)))
 | _ => none
theorem W7 (κ : Kp) : cx (Ou κ) 12 124 (P1 κ) := by
 intro args x hh
 unfold P1 at hh
 split at hh
 ·rename_i op s l o1 s1 n1 l1 o2 s2 n2 l2
  simp only [aa3, aa9, true_and] at hh
  subst hh
  refine ⟨_, rfl, mH κ _, ?_⟩
  rw [Xu]
  have ef : Value.iface 189 (.pointer (some κ.tree)) = aw κ false := rfl
  rw [ef]
  simp only [la, mH, AM, Bool.and_true, Bool.and_self, bg]
  simp only [← LD, ← LV, IT, CK, Ji]
  refine congrArg (fun b => AV.lit (aw κ b)) ?_
  have ix : NN (.mk o1 s1 n1 (aa l1)) = (decide (o1 = 1) || decide (o1 = 2)) := rfl
  rw [Fc, ix]
  generalize a0 ⟨s, aa l⟩ = A
  generalize LZ ⟨s, aa l⟩ = N0
  generalize Cp (.mk o1 s1 n1 (aa l1)) = N1
  generalize Cp (.mk o2 s2 n2 (aa l2)) = N2
  generalize ak 20 (.mk o1 s1 n1 (aa l1)) = R1
  generalize ak 20 (.mk o2 s2 n2 (aa l2)) = R2
  generalize decide (o1 = 1) = a1
  generalize decide (o1 = 2) = a2
  generalize decide (o1 = 4) = a4
  generalize decide (o2 = 4) = b4
  generalize decide (o2 = 1) = b1
  generalize decide (op = 1) = p1
  generalize decide (op = 2) = p2
  generalize decide (op = 3) = p3
  generalize decide (op = 4) = p4
  generalize decide (op = 5) = p5
  generalize decide (op = 6) = p6
  generalize decide (op = 7) = p7
  generalize decide (op = 8) = p8
  generalize decide (op = 9) = p9
  generalize decide (op = 10) = p10
  cases p1
  case true => cases a1 <;> cases N1 <;> cases A <;> cases N2 <;> rfl
  cases p2
  case true => cases a1 <;> cases N1 <;> cases A <;> cases N2 <;> rfl
  cases p3
  case true => cases a1 <;> cases N0 <;> cases a4 <;> cases b4 <;> cases R1 <;> cases R2 <;> rfl
  cases p4
  case true => cases a1 <;> cases N0 <;> cases a4 <;> cases b4 <;> cases R1 <;> cases R2 <;> rfl
  cases p5
  case true => cases a1 <;> cases N0 <;> cases a4 <;> cases b4 <;> cases R1 <;> cases R2 <;> rfl
  cases p6
  case true => cases a1 <;> cases N0 <;> cases a4 <;> cases b4 <;> cases R1 <;> cases R2 <;> rfl
  cases p7
  case true => cases a1 <;> cases a2 <;> cases A <;> cases N2 <;> cases R1 <;> rfl
  cases p8
  case true => cases a1 <;> cases a2 <;> cases A <;> cases b1 <;> cases R1 <;> cases R2 <;> rfl
  cases p9
  case true => cases a1 <;> cases a2 <;> cases A <;> cases b1 <;> cases R1 <;> cases R2 <;> rfl
  cases p10
  case true => cases a1 <;> cases a2 <;> cases A <;> cases b1 <;> cases R1 <;> cases R2 <;> rfl
  cases a1 <;> rfl
 ·cases hh
noncomputable def JN (κ : Kp) : Env := (Ou κ).aE 124 (P1 κ)
theorem YE (κ : Kp) : ay (JN κ) := (UY κ).aE (Tk κ) (W7 κ)
theorem Sg (κ : Kp) : ah (JN κ) := (Tk κ).aE
structure bQ where
 xs : List AV
 more : List AV
 rel : ByteArray
 hl : List AV
 bl : List AV
 line : Int
 i : Int
abbrev an (a : bQ) : AV := .agg [.agg [.lit (.string a.rel), .ae 52 a.hl], .ae 55 a.bl, .int a.line]
abbrev yi (a : bQ) : S := sp 69 [(0, .ct 0), (1, .ptr 1 0 [] 0), (25, .ae 52 a.hl), (26, .int a.hl.length), (27, .int a.i)] [.ext (some a.xs), .box 41 (an a)]
abbrev Gv (a : bQ) : S := sp 69 [(0, .ct 0), (57, .ae 55 a.bl), (58, .int a.bl.length), (59, .int a.i)] [.ext (some a.xs), .box 41 (an a)]
def kX (κ : Kp) (l : List Bool) : List AV := l.map fun b => .bj [.lit (aw κ b)]
def xB (κ : Kp) (a : bQ) : Prop := a.hl.length ≤ aL ∧ 0 ≤ a.i ∧ a.i ≤ a.hl.length ∧ a.xs = kX κ ((aa (a.hl.drop a.i.toNat)).map (oc a.bl.length)) ++ a.more
def Dv (κ : Kp) (a : bQ) : Prop := a.bl.length ≤ aL ∧ 0 ≤ a.i ∧ a.i ≤ a.bl.length ∧ a.xs = kX κ ((cu (a.bl.drop a.i.toNat)).map fJ)
def Ax (a : bQ) : Out (Exit × S) := .all (fun _ : Bool => True) fun b => .aD b (.one (.exit 0, sp 69 [(0, .ct 0), (1, .ptr 1 0 [] 0)] [.ext (some a.more), .box 41 (an a)]))
 (.one (.ret, sp 69 [] [.ext none, .box 41 (an a)]))
def Hj (a : bQ) : Out (Exit × S) := .all (fun _ : Bool => True) fun b => .aD b (.one (.exit 2, sp 69 [] [.ext (some []), .box 41 (an a)]))
 (.one (.ret, sp 69 [] [.ext none, .box 41 (an a)]))
theorem Re (κ : Kp) (a : bQ) (I : Nat → S → Prop) (n : Nat) (K : Exit → S → Prop) : (vc (JN κ) 12 120 none 2 (ag (Pr κ).toProgram 120 2) (yi a) (bK (JN κ) 120 2 2 I n K)) = (
 letI z1 := IntKind.wrap IntKind.i64 (a.i + (1 : Int))
 letI z2 := sp 69 [] [Obj.ext none, Obj.box 41 (an a)]
 letI z3 := Value.iface 189 (Value.pointer (some (Kp.tree κ)))
 letI z4 := ad (nth a.hl a.i.toNat) 0
 aD (decide (a.i < (↑(a.hl.length) : Int))) (bg (decide ((0 : Int) ≤ a.i) && decide (a.i < (↑(a.hl.length) : Int))) (aD (toInt z4 != (4 : Int)) (aD (!jz (toInt
 z4)) (aD (toInt z4 != (1 : Int)) (∃ (rest : List AV), a.xs = AV.bj [AV.lit Value.nilIface] :: rest ∧ (∃ (m : Nat), m < n ∧ I m (sp 69 [(0, AV.ct 0), (1, AV.ptr
 1 0 [] 0), (25, AV.ae 52 a.hl), (26, AV.int (↑(a.hl.length) : Int)), (27, AV.int z1)] [Obj.ext (some rest), Obj.box 41 (an a)])) ∧ K Exit.ret z2) (∃ (rest :
 List AV), a.xs = AV.bj [AV.lit (aw κ (decide ((↑(a.bl.length) : Int) > (0 : Int))))] :: rest ∧ (∃ (m : Nat), m < n ∧ I m (sp 69 [(0, AV.ct 0), (1, AV.ptr 1 0 []
 0), (25, AV.ae 52 a.hl), (26, AV.int (↑(a.hl.length) : Int)), (27, AV.int z1)] [Obj.ext (some rest), Obj.box 41 (an a)])) ∧ K Exit.ret z2)) (∃ (rest : List AV),
 a.xs = AV.bj [AV.lit z3] :: rest ∧ (∃ (m : Nat), m < n ∧ I m (sp 69 [(0, AV.ct 0), (1, AV.ptr 1 0 [] 0), (25, AV.ae 52 a.hl), (26, AV.int (↑(a.hl.length) :
 Int)), (27, AV.int z1)] [Obj.ext (some rest), Obj.box 41 (an a)])) ∧ K Exit.ret z2)) (∃ (rest : List AV), a.xs = AV.bj [AV.lit z3] :: rest ∧ (∃ (m : Nat), m < n
 ∧ I m (sp 69 [(0, AV.ct 0), (1, AV.ptr 1 0 [] 0), (25, AV.ae 52 a.hl), (26, AV.int (↑(a.hl.length) : Int)), (27, AV.int z1)] [Obj.ext (some rest), Obj.box 41
 (an a)])) ∧ K Exit.ret z2))) (K (Exit.exit 0) (sp 69 [(0, AV.ct 0), (1, AV.ptr 1 0 [] 0)] [Obj.ext (some a.xs), Obj.box 41 (an a)]))) := by kernel_rfl
theorem PX (κ : Kp) : bq (JN κ) 12 120 2 (aO 2 yi (xB κ) Ax) := by
 refine aR (fun a => a.hl.length - a.i.toNat) ?_
 rintro ⟨xs, more, rel, hl, bl, line, i⟩ K ⟨h1, h2, h3, h4⟩ ho
 simp only at h1 h2 h3 h4
 rw [show (JN κ).P = Pr κ from rfl, Re]
 have ef : Value.iface 189 (.pointer (some κ.tree)) = aw κ false := rfl
 have et : Value.nilIface = aw κ true := rfl
 have ho1 := ho true trivial
 have ho2 := ho false trivial
 simp only [Out.run, aD] at ho1 ho2
 simp only [ef, et]
 simp only [aL] at h1
 simp only [af, ax, aa0, aa2, aa1]
 refine ⟨fun hi => ⟨⟨h2, hi⟩, ?_⟩, fun hi => ?_⟩
 ·rw [dM hl i.toNat (by omega)] at h4
  have hop : (cz (nth hl i.toNat)).op = toInt (ad (nth hl i.toNat) 0) := by rw [cy]; rfl
  simp only [ac0, kX, oc, hop, List.cons_append] at h4
  rw [a8 (n := i + 1) (by omega) (by omega)]
  have go : ∀ b, b = (!decide (toInt (ad (nth hl i.toNat) 0) = 4) && !jz (toInt (ad (nth hl i.toNat) 0)) && (!decide (toInt (ad (nth hl i.toNat) 0) = 1) || decide (0 < bl.length))) →
    ∃ rest, xs = AV.bj [AV.lit (aw κ b)] :: rest ∧ (∃ m, m < hl.length - i.toNat ∧ fF yi (xB κ) Ax (fun a => a.hl.length - a.i.toNat) K m (yi ⟨rest, more, rel, hl, bl, line, i + 1⟩)) ∧ K Exit.ret (sp 69 [] [.ext none, .box 41 (an ⟨xs, more, rel, hl, bl, line, i⟩)]) := by
   rintro b rfl
   refine ⟨_, h4, ⟨_, ?_, ⟨_, more, rel, hl, bl, line, i + 1⟩, rfl, ⟨by simpa [aL] using h1, by simp only; omega, by simp only; omega, ?_⟩, rfl, ho⟩, ho2⟩
   ·simp only; omega
   ·simp only [kX, show (i + 1).toNat = i.toNat + 1 by omega]
  simp only [CK, Bool.not_eq_true', ab2, aa0, aa2]
  refine ⟨fun e1 => ⟨fun e2 => ⟨fun e3 => go _ ?_, fun e3 => go _ ?_⟩, fun e2 => go _ ?_⟩, fun e1 => go _ ?_⟩
  ·simp [e1, e2, e3]
  ·have e4 : decide ((bl.length : Int) > 0) = decide (0 < bl.length) := by
    by_cases h : 0 < bl.length
    ·rw [aa6 h, aa6 (by omega)]
    ·rw [aa4 h, aa4 (by omega)]
   rw [e4]
   simp [e2, e3]
   intro _; rfl
  ·simp [e2]
  ·simp [e1]
 ·rw [aa8 (by omega)] at h4
  simp only [aa, kX, List.map_nil, List.nil_append] at h4
  subst h4
  exact ho1
noncomputable def xu (κ : Kp) : Env := (JN κ).aj 120 2 (aO 2 yi (xB κ) Ax)
theorem Qw (κ : Kp) : ay (xu κ) := (YE κ).aj (Sg κ) (PX κ)
theorem Pb (κ : Kp) : ah (xu κ) := (Sg κ).aj aG
theorem Ro (κ : Kp) (a : bQ) (I : Nat → S → Prop) (n : Nat) (K : Exit → S → Prop) : (vc (xu κ) 12 120 none 2 (ag (Pr κ).toProgram 120 7) (Gv a) (bK (xu κ) 120 7 2 I n K)) = (
 letI z1 := nth a.bl a.i.toNat
 letI z2 := AV.agg [AV.agg [AV.str a.rel, AV.ae 52 a.hl], AV.ae 55 a.bl, AV.int a.line]
 aD (decide (a.i < (↑(a.bl.length) : Int))) (bg (decide ((0 : Int) ≤ a.i) && decide (a.i < (↑(a.bl.length) : Int))) (∃ (rest : List AV), a.xs = AV.bj [AV.lit (aw κ (fJ {op := toInt (ad z1 0), a := { rel := toStr (ad (ad z1 1) 0), l := aa (ai (ad (ad z1 1) 1)) }, x := Tm.mk (toInt (ad (ad z1 2) 0)) (toStr (ad (ad z1 2) 1)) (toInt (ad (ad z1 2) 2)) (aa (ai (ad (ad z1 2) 3))), y := Tm.mk (toInt (ad (ad z1 3) 0)) (toStr (ad (ad z1 3) 1)) (toInt (ad (ad z1 3) 2)) (aa (ai (ad (ad z1 3) 3))) }))] :: rest ∧ (∃ (m : Nat), m < n ∧ I m (sp 69 [(0, AV.ct 0), (57, AV.ae 55 a.bl), (58, AV.int (↑(a.bl.length) : Int)), (59, AV.int (IntKind.wrap IntKind.i64 (a.i + (1 : Int))))] [Obj.ext (some rest), Obj.box 41 z2])) ∧ K Exit.ret (sp 69 [] [Obj.ext none, Obj.box 41 z2]))) (K (Exit.exit 2) (sp 69 [] [Obj.ext (some a.xs), Obj.box 41 z2]))) := by kernel_rfl
theorem Rx (κ : Kp) : bq (xu κ) 12 120 7 (aO 2 Gv (Dv κ) Hj) := by
 refine aR (fun a => a.bl.length - a.i.toNat) ?_
 rintro ⟨xs, more, rel, hl, bl, line, i⟩ K ⟨h1, h2, h3, h4⟩ ho
 simp only at h1 h2 h3 h4
 rw [show (xu κ).P = Pr κ from rfl, Ro]
 have ho1 := ho true trivial
 have ho2 := ho false trivial
 simp only [Out.run, aD] at ho1 ho2
 simp only [aL] at h1
 simp only [af, ax, aa0, aa2, aa1, ← lt_eq]
 refine ⟨fun hi => ⟨⟨h2, hi⟩, ?_⟩, fun hi => ?_⟩
 ·rw [lM bl i.toNat (by omega)] at h4
  simp only [ac0, kX] at h4
  rw [a8 (n := i + 1) (by omega) (by omega)]
  refine ⟨_, h4, ⟨_, ?_, ⟨_, more, rel, hl, bl, line, i + 1⟩, rfl, ⟨by simpa [aL] using h1, by simp only; omega, by simp only; omega, ?_⟩, rfl, ho⟩, ho2⟩
  ·simp only; omega
  ·simp only [kX, show (i + 1).toNat = i.toNat + 1 by omega]
 ·rw [aa8 (by omega)] at h4
  simp only [cu, kX, List.map_nil] at h4
  subst h4
  exact ho1
noncomputable def H3 (κ : Kp) : Env := (xu κ).aj 120 7 (aO 2 Gv (Dv κ) Hj)
theorem QP (κ : Kp) : ay (H3 κ) := (Qw κ).aj (Pb κ) (Rx κ)
theorem Pe (κ : Kp) : ah (H3 κ) := (Pb κ).aj aG
theorem Wa (κ : Kp) (a : bQ) (K : AV → List Dn.Obj → Prop) : (bh (H3 κ) 12 120 [.ct 0, .ptr 1 0 [] 0] [.ext (some a.xs), .box 41 (an a)] K) = (
 letI z1 := AV.bj []
 letI z2 := Pg.toProgram (Env.P (JN κ))
 letI z3 := Pg.toProgram (Env.P (xu κ))
 ∃ (rest : List AV), a.xs = AV.bj [AV.lit (aw κ (a0 { rel := a.rel, l := aa a.hl }))] :: rest ∧ (∃ (rest_1 : List AV), rest = AV.bj [AV.lit (aw κ (decide ((↑(a.bl.length) : Int) ≤ (20 : Int))))] :: rest_1 ∧ (ag z2 120 2 = ag z2 120 2 ∧ ∃ (a_1 : bQ), sp 69 [(0, AV.ct 0), (1, AV.ptr 1 0 [] 0), (25, AV.ae 52 a.hl), (26, AV.int (↑(a.hl.length) : Int)), (27, AV.int 0)] [Obj.ext (some rest_1), Obj.box 41 (AV.agg [AV.agg [AV.str a.rel, AV.ae 52 a.hl], AV.ae 55 a.bl, AV.int a.line])] = sp 69 [(0, AV.ct 0), (1, AV.ptr 1 0 [] 0), (25, AV.ae 52 a_1.hl), (26, AV.int (↑(a_1.hl.length) : Int)), (27, AV.int a_1.i)] [Obj.ext (some a_1.xs), Obj.box 41 (AV.agg [AV.agg [AV.str a_1.rel, AV.ae 52 a_1.hl], AV.ae 55 a_1.bl, AV.int a_1.line])] ∧ (a_1.hl.length ≤ 9223372036854775807 ∧ (0 : Int) ≤ a_1.i ∧ a_1.i ≤ (↑(a_1.hl.length) : Int) ∧ a_1.xs = kX κ (List.map (oc a_1.bl.length) (aa (List.drop a_1.i.toNat a_1.hl))) ++ a_1.more) ∧ ∀ (y : Bool), True → aD y (ag z3 120 7 = ag z3 120 7 ∧ ∃ (a : bQ), sp 69 [(0, AV.ct 0), (57, AV.ae 55 a_1.bl), (58, AV.int (↑(a_1.bl.length) : Int)), (59, AV.int 0)] [Obj.ext (some a_1.more), Obj.box 41 (AV.agg [AV.agg [AV.str a_1.rel, AV.ae 52 a_1.hl], AV.ae 55 a_1.bl, AV.int a_1.line])] = sp 69 [(0, AV.ct 0), (57, AV.ae 55 a.bl), (58, AV.int (↑(a.bl.length) : Int)), (59, AV.int a.i)] [Obj.ext (some a.xs), Obj.box 41 (AV.agg [AV.agg [AV.str a.rel, AV.ae 52 a.hl], AV.ae 55 a.bl, AV.int a.line])] ∧ (a.bl.length ≤ 9223372036854775807 ∧ (0 : Int) ≤ a.i ∧ a.i ≤ (↑(a.bl.length) : Int) ∧ a.xs = kX κ (List.map fJ (cu (List.drop a.i.toNat a.bl)))) ∧ ∀ (y : Bool), True → aD y (K z1 [Obj.ext (some []), Obj.box 41 (AV.agg [AV.agg [AV.str a.rel, AV.ae 52 a.hl], AV.ae 55 a.bl, AV.int a.line])]) (K z1 [Obj.ext none, Obj.box 41 (AV.agg [AV.agg [AV.str a.rel, AV.ae 52 a.hl], AV.ae 55 a.bl, AV.int a.line])])) (K z1 [Obj.ext none, Obj.box 41 (AV.agg [AV.agg [AV.str a_1.rel, AV.ae 52 a_1.hl], AV.ae 55 a_1.bl, AV.int a_1.line])])) ∧ K z1 [Obj.ext none, Obj.box 41 (AV.agg [AV.agg [AV.str a.rel, AV.ae 52 a.hl], AV.ae 55 a.bl, AV.int a.line])]) ∧ K z1 [Obj.ext none, Obj.box 41 (AV.agg [AV.agg [AV.str a.rel, AV.ae 52 a.hl], AV.ae 55 a.bl, AV.int a.line])]) := by kernel_rfl
def It (a : bQ) : List AV × List Dn.Obj := ([.ct 0, .ptr 1 0 [] 0], [.ext (some a.xs), .box 41 (an a)])
def AO (κ : Kp) (a : bQ) : Prop := a.hl.length ≤ aL ∧ a.bl.length ≤ aL ∧ a.xs = kX κ (pY ⟨⟨a.rel, aa a.hl⟩, cu a.bl⟩)
def Hx : bQ → Out (AV × List Dn.Obj) := fun _ => .all (fun st' => vq st') fun st' => .one (.bj [], st')
theorem TD (κ : Kp) : bu (H3 κ) 12 120 (aW It (AO κ) Hx) := by
 refine ba ?_
 rintro ⟨xs, more, rel, hl, bl, line, i⟩ K ⟨h1, h2, h3⟩ ho
 simp only at h1 h2 h3
 simp only [It]
 rw [Wa κ ⟨xs, more, rel, hl, bl, line, i⟩]
 simp only
 have hn : ∀ b, K (.bj []) [.ext none, b] := fun b => ho _ trivial
 have h0 : ∀ b, K (.bj []) [.ext (some []), b] := fun b => ho _ trivial
 subst h3
 have PK : decide ((bl.length : Int) ≤ 20) = decide (bl.length ≤ 20) := by
  by_cases h : bl.length ≤ 20
  ·rw [aa6 h, aa6 (by omega)]
  ·rw [aa4 h, aa4 (by omega)]
 rw [PK]
 simp only [pY, kX, ac0, xQ]
 refine ⟨_, rfl, ⟨_, rfl, ⟨trivial, ⟨_, kX κ ((cu bl).map fJ), rel, hl, bl, line, 0⟩, rfl, ⟨h1, by simp only; omega, by simp only; omega, ?_⟩, ?_⟩, hn _⟩, hn _⟩
 ·simp [kX, xQ]
 ·intro y _
  cases y
  ·exact hn _
  ·refine ⟨trivial, ⟨_, [], rel, hl, bl, line, 0⟩, rfl, ⟨h2, by simp only; omega, by simp only; omega, by simp [kX]⟩, ?_⟩
   intro y _
   cases y
   ·exact hn _
   ·exact h0 _
set_option maxRecDepth 20000 in
noncomputable def La (κ : Kp) : Env := (H3 κ).au 120 (aW It (AO κ) Hx)
theorem Yb (κ : Kp) : ay (La κ) := (QP κ).au (Pe κ) (TD κ)
theorem R5 (κ : Kp) : ah (La κ) := (Pe κ).au aH
noncomputable abbrev MD (κ : Kp) (a : bQ) (st : LoopState) (p : Option Code) : Dn.Obj :=
 .loop (gL (Pr κ).toProgram 54 3 st p (gy (bG 15) [(0, an a), (1, .ptr 0 0 [] 0), (2, .bool false), (3, .ptr 1 0 [] 0), (5, an a), (6, .bL 120 [.ptr 2 0 [] 0])]))
noncomputable abbrev nK (κ : Kp) (a : bQ) : List Dn.Obj := [.box 41 (an a), .box 88 (.lit .nilIface), .box 41 (an a), MD κ a .ready none]
noncomputable abbrev A5 (κ : Kp) (a : bQ) : List Dn.Obj := [.box 41 (an a), .box 88 (.lit .nilIface), .dead, MD κ a .ready none]
theorem Ww (κ : Kp) (a : bQ) (Q : List Dn.Obj → Prop) : (tidy (Pr κ).toProgram 4 (dO (nK κ a) (di (nK κ a) [.ptr 2 0 [] 0])) Q) = (
 Q [Obj.box 41 (an a), Obj.box 88 (AV.lit Value.nilIface), Obj.dead, Dn.Obj.loop (gL Tryz.prog 54 3 LoopState.ready none (gy (bG 15) [(0, an a), (1,
 AV.ptr 0 0 [] 0), (2, AV.bool false), (3, AV.ptr 1 0 [] 0), (5, an a), (6, AV.bL 120 [AV.ptr 2 0 [] 0])]))]) := by kernel_rfl
theorem UE (κ : Kp) (a : bQ) (u : Value) (Q : List Dn.Obj → Prop) (K2 : List Dn.Obj → Prop) : (iC (vc (La κ) 12) 3 [.lit u] (A5 κ a) (fun r st'' => match r with | .lit (.bool true) => tidy (Pr κ).toProgram 4 st'' Q | .lit (.bool false) => K2 st'' | _ => False)) = (
 letI z1 := gy (bG 15) [(0, an a), (1, AV.ptr 0 0 [] 0), (2, AV.bool false), (3, AV.ptr 1 0 [] 0), (5, an a), (6, AV.bL 120 [AV.ptr 2 0 [] 0])]
 bg (az u) (aD (!bz u) (K2 [Obj.box 41 (an a), Obj.box 88 (AV.lit u), Obj.dead, Dn.Obj.loop (gL Tryz.prog 54 3 LoopState.done (some (Code.exit 0)) z1)]) (Q
 [Obj.box 41 (an a), Obj.box 88 (AV.lit Value.nilIface), Obj.dead, Dn.Obj.loop (gL Tryz.prog 54 3 LoopState.ready none z1)]))) := by kernel_rfl
noncomputable abbrev My (κ : Kp) (a : bQ) : List Dn.Obj := [.box 41 (an a), .box 88 (.lit (aw κ false)), .dead, MD κ a .done (some (.exit 0))]
def sC (a : bQ) : Rl := ⟨⟨a.rel, aa a.hl⟩, cu a.bl⟩
theorem VC (κ : Kp) (a : bQ) (xs : List AV) : (AV.ct 0 :: fo (kC (di (nK κ a) [.ptr 2 0 [] 0])) [.ptr 2 0 [] 0], Obj.ext (some xs) :: gn (kC (di (nK κ a) [.ptr 2 0 [] 0])) (gq (nK κ a) (di (nK κ a) [.ptr 2 0 [] 0]))) = It { a with xs := xs } := by kernel_rfl
theorem VO (κ : Kp) (a : bQ) : qT (nK κ a) [.ptr 2 0 [] 0] = true := by kernel_rfl
noncomputable def MC (κ : Kp) : ep := fun caps st K => ∃ a : bQ, (caps, st) = ([AV.ptr 2 0 [] 0], nK κ a) ∧ (a.hl.length ≤ aL ∧ a.bl.length ≤ aL) ∧ aD (aM (sC a)) (K (A5 κ a)) (K (My κ a))
theorem Eu (κ : Kp) : (MC κ).jb := by
 rintro caps st K K' hK ⟨a, h1, h2, h3⟩
 refine ⟨a, h1, h2, ?_⟩
 rw [af] at h3 ⊢
 exact ⟨fun e => hK _ (h3.1 e), fun e => hK _ (h3.2 e)⟩
theorem call45 (κ : Kp) (args : List AV) (st : List Dn.Obj) (K : AV → List Dn.Obj → Prop) (h : aW It (AO κ) Hx args st K) : (La κ).call 120 args st K := h
theorem Rm (κ : Kp) : mM (La κ) 12 120 (MC κ) := by
 rintro caps st K ⟨a, h1, h2, h3⟩
 obtain ⟨rfl, rfl⟩ := Prod.mk.inj h1
 rw [af] at h3
 refine ⟨kX κ (pY (sC a)), fun items st' => ∃ l, items = kX κ l ∧ st' = A5 κ a ∧ aM (sC a) = l.all id, ⟨VO κ a, ?_, ?_, ?_, ?_⟩⟩
 ·refine call45 κ _ _ _ ?_
  refine ⟨{ a with xs := kX κ (pY (sC a)) }, ?_, ⟨h2.1, h2.2, rfl⟩, fun st' h => h⟩
  exact VC κ a _
 ·rw [show (La κ).P = Pr κ from rfl, show (nK κ a).length = 4 from rfl, Ww]
  exact ⟨_, rfl, rfl, BQ _⟩
 ·rintro us rest st' ⟨l, e1, rfl, e3⟩
  cases l with
  | nil => cases e1
  | cons b l =>
   simp only [kX, ac0, List.cons.injEq, AV.bj.injEq] at e1
   obtain ⟨rfl, rfl⟩ := e1
   rw [show (La κ).P = Pr κ from rfl, show (nK κ a).length = 4 from rfl]
   refine Eq.mpr (UE κ a (aw κ b) _ _) ?_
   rw [la, nZ]
   cases b with
   | true => exact ⟨l, rfl, rfl, by rw [e3]; rfl⟩
   | false => exact h3.2 (by rw [e3]; rfl)
 ·rintro st' ⟨l, e1, rfl, e3⟩
  cases l with
  | nil => exact h3.1 (by rw [e3]; rfl)
  | cons b l => cases e1
def Rw : List Nat := [120]
noncomputable def Mm (κ : Kp) : Env := ((La κ).addRange 54 3 120 (MC κ)).dB (fun f => j6 f Rw)
theorem QN (κ : Kp) : ay (Mm κ) := ((Yb κ).addRange (R5 κ) (Rm κ)).dB _
theorem Qh (κ : Kp) : ah (Mm κ) := ((R5 κ).addRange (Eu κ)).dB _
end Go.Proofs.YtdpmikfheebicaaGreatDoor
namespace Go.Proofs.YtdpmikfheebicaaGreatDoor
open Go Go.Dn Go.Rl Go.Proofs Go.RowKit Go.Extern.Stop Go.Stop Go.Extern
theorem uf (v : Value) (w : World) : (Extern.ReflectliteType.typeOf #[.iface 189 v]).run Tryz.prog w = .ok (.iface 163 (.agg #[.pointer (some ⟨5, 189, none⟩)])) w := by kernel_rfl
theorem lq (w : World) : ((Extern.ReflectliteType.method fun t => do Go.Extern.Rtype.noPackHeld "Comparable" t; (fun a => Value.bool a.comparable) <$> typeInfo t) #[.agg #[.pointer (some ⟨5, 189, none⟩)]]).run Tryz.prog w = .ok (.bool true) w := by kernel_rfl
theorem gg (v : Value) (w : World) : (Go.method 327 163 v "Comparable").run Tryz.prog w = .ok (192, v) w := by kernel_rfl
theorem BL : (Tryz.prog.info? 189).map (·.comparable) = some true := by kernel_rfl
theorem Ba : (Tryz.prog.info? 215).map (·.size) = some 1 := by kernel_rfl
set_option maxRecDepth 4000 in
theorem Dp (a : Addr) (w : World) :
  Calls Tryz.prog 56 #[.iface 189 (.pointer (some a)), .iface 189 (.pointer (some a))] w fun e w' => e = .returned (.bool true) ∧ w' = w := by
 obtain ⟨i, hi, hcmp⟩ := Option.map_eq_some_iff.1 BL
 obtain ⟨j, hj, hjs⟩ := Option.map_eq_some_iff.1 Ba
 have h8 := @run_callFunc_extern Tryz.prog 86 _ Extern.ReflectliteType.typeOf Tryz.func86 (by kernel_rfl) (by kernel_rfl) (by kernel_rfl) (by kernel_rfl)
 have h32 := @run_callFunc_extern Tryz.prog 192 _ (Extern.ReflectliteType.method fun t => do Go.Extern.Rtype.noPackHeld "Comparable" t; pure (.bool (← typeInfo t).comparable)) Tryz.func192 (by kernel_rfl) (by kernel_rfl) (by kernel_rfl) (by kernel_rfl)
 have tT := uf
 have cT := lq
 have mR := gg
 have heq := run_eql_iface_ptr_same (P := Tryz.prog) w a Tryz.underlying88 Tryz.underlying189 hi hcmp hj
 go_enter Tryz.func56, Tryz.ntmps56
 go_wp2
 refine wp_loop_rounds 1 ?_
 rw [rounds_succ]
 go_wp2
 go_ret
 exact ⟨rfl, rfl⟩
theorem G6 (b : Addr) (w : World) :
  Calls Tryz.prog 56 #[.nilIface, .iface 189 (.pointer (some b))] w fun e w' => e = .returned (.bool false) ∧ w' = w := by
 have hn := run_eql_iface_nil_left (P := Tryz.prog) w 189 (.pointer (some b)) Tryz.underlying88
 go_enter Tryz.func56, Tryz.ntmps56
 go_wp2
 go_ret
 exact ⟨rfl, rfl⟩
def PV : List AV → Option (Bool × AV)
 | [.lit .nilIface, .lit (.iface 189 (.pointer (some _)))] => some (true, .bool false)
 | [.lit (.iface 189 (.pointer (some a))), .lit (.iface 189 (.pointer (some b)))] => some (decide (a = b), .bool true)
 | _ => none
theorem tJ {C : Ctx} {u v : Value} {vs : Array Value} (h : MT C [.lit u, .lit v] vs.toList) : vs = #[u, v] := by
 obtain ⟨l⟩ := vs
 match l, h with
 | [a, b], h =>
  simp only [MT] at h
  have h1 : Rel C (.lit u) a := ⟨h.1, h.2.1, h.2.2.1⟩
  have h2 : Rel C (.lit v) b := ⟨h.2.2.2.1, h.2.2.2.2.1, h.2.2.2.2.2.1⟩
  rw [aK h1, aK h2]
 | [], h => simp [MT] at h
 | [_], h => simp [MT] at h
 | _ :: _ :: _ :: _, h => simp [MT] at h
theorem TT (κ : Kp) : fX (Pr κ) 56 PV := by
 intro args x hn hg
 unfold PV at hg
 split at hg
 ·simp only [aa3, aa9, true_and] at hg
  subst hg
  refine ⟨_, _, Tryz.func56, rfl, rfl, rfl, fun C vs hC hI hm => ?_⟩
  rw [tJ hm]
  refine (callsIn_wide.2 (G6 _ C.w)).mono ?_
  rintro e w' ⟨rfl, rfl⟩
  exact ⟨rfl, fK.refl _⟩
 ·simp only [aa3, aa9, aa0] at hg
  obtain ⟨rfl, rfl⟩ := hg
  refine ⟨_, _, Tryz.func56, rfl, rfl, rfl, fun C vs hC hI hm => ?_⟩
  rw [tJ hm]
  refine (callsIn_wide.2 (Dp _ C.w)).mono ?_
  rintro e w' ⟨rfl, rfl⟩
  exact ⟨rfl, fK.refl _⟩
 ·cases hg
end Go.Proofs.YtdpmikfheebicaaGreatDoor
namespace Go.Proofs.YtdpmikfheebicaaGreatDoor
open Go Go.Dn Go.Rl Go.Proofs
attribute [local irreducible] bh vc
set_option maxRecDepth 20000
noncomputable def OU (κ : Kp) : Env := (Mm κ).aE 56 PV
theorem Zd (κ : Kp) : ay (OU κ) := (QN κ).eg (TT κ)
theorem SD (κ : Kp) : ah (OU κ) := (Qh κ).aE
theorem Xe (κ : Kp) (a : bQ) (K : AV → List Dn.Obj → Prop) : (bh (OU κ) 12 54 [an a] [] K) = (
 ∃ (a_1 : bQ), ([AV.ptr 2 0 [] 0], [Obj.box 41 (an a), Obj.box 88 (AV.lit Value.nilIface), Obj.box 41 (an a), Dn.Obj.loop (gL Tryz.prog 54 3 LoopState.ready
 none (gy (bG 15) [(0, an a), (1, AV.ptr 0 0 [] 0), (2, AV.bool false), (3, AV.ptr 1 0 [] 0), (5, an a), (6, AV.bL 120 [AV.ptr 2 0 [] 0])]))]) =
 ([AV.ptr 2 0 [] 0], [Obj.box 41 (an a_1), Obj.box 88 (AV.lit Value.nilIface), Obj.box 41 (an a_1), Dn.Obj.loop (gL Tryz.prog 54 3 LoopState.ready none
 (gy (bG 15) [(0, an a_1), (1, AV.ptr 0 0 [] 0), (2, AV.bool false), (3, AV.ptr 1 0 [] 0), (5, an a_1), (6, AV.bL 120 [AV.ptr 2 0 [] 0])]))]) ∧
 (a_1.hl.length ≤ 9223372036854775807 ∧ a_1.bl.length ≤ 9223372036854775807) ∧ aD (aM (sC a_1)) (K (AV.bool true) []) (bg (decide (Kp.tree κ = Kp.tree
 κ)) (K (AV.bool false) []))) := by kernel_rfl
def PS : List AV → Option (Bool × AV)
 | [.agg [.agg [.lit (.string rel), .ae 52 hl], .ae 55 bl, .lit (.int .i64 _)]] => some (decide (hl.length ≤ aL) && decide (bl.length ≤ aL), .bool (aM ⟨⟨rel, aa hl⟩, cu bl⟩))
 | _ => none
theorem WU (κ : Kp) : cx (OU κ) 12 54 PS := by
 intro args x hh
 unfold PS at hh
 split at hh
 ·rename_i rel hl bl line
  simp only [aa3, aa9, aa1, aa0] at hh
  obtain ⟨⟨h1, h2⟩, rfl⟩ := hh
  refine ⟨_, rfl, rfl, ?_⟩
  rw [Xe κ ⟨[], [], rel, hl, bl, line, 0⟩]
  refine ⟨⟨[], [], rel, hl, bl, line, 0⟩, rfl, ⟨h1, h2⟩, ?_⟩
  rw [af]
  refine ⟨fun e => ?_, fun e => ?_⟩
  ·rw [show aM ⟨⟨rel, aa hl⟩, cu bl⟩ = true from e]
  ·rw [show aM ⟨⟨rel, aa hl⟩, cu bl⟩ = false from e]
   simp [bg]
 ·cases hh
noncomputable def Pw (κ : Kp) : Env := (OU κ).aE 54 PS
theorem Th (κ : Kp) : ay (Pw κ) := (Zd κ).aE (SD κ) (WU κ)
theorem RR (κ : Kp) : ah (Pw κ) := (SD κ).aE
def Mi (l : List AV) : List AV × List Dn.Obj := ([.ae 52 l], [])
def LX (n : Nat) (l : List AV) : Prop := aX (aa l) = n ∧ n ≤ 100000
def Iw (l : List AV) : Out (AV × List Dn.Obj) := .one (.aB 0 0 (aq (aa l)).length, [.row 9 (strs (aq (aa l)))])
def G3 (n : Nat) : cK := aW Mi (LX n) Iw
noncomputable def x9 (κ : Kp) (r : Nat) : Env := (Pw κ).au 84 fun args st K => ∃ m, m < r ∧ G3 m args st K
theorem Wu (κ : Kp) (r : Nat) (l : List AV) (i : Int) (xs : List AV) (k : Nat) (I : Nat → S → Prop) (n : Nat) (K : Exit → S → Prop) : (vc (x9 κ r) 12 84 none 0 (ag (Pr κ).toProgram 84 3) (sp 27 [(3, .aB 0 0 k), (6, .ae 52 l), (7, .int l.length), (8, .int i)] [.row 9 xs]) (bK (x9 κ r) 84 3 0 I n K)) = (
 letI z1 := IntKind.wrap IntKind.i64 (i + (1 : Int))
 letI z2 := nth l i.toNat
 aD (decide (i < (↑(l.length) : Int))) (bg (decide ((0 : Int) ≤ i) && decide (i < (↑(l.length) : Int))) (aD (toInt (ad z2 0) == (1 : Int)) (bg (decide ((k + 1 +
 1) * 17 ≤ 70368744177664)) (∃ (m : Nat), m < r ∧ ∃ (a : List AV), ([AV.ae 52 (ai (ad z2 3))], aF) = ([AV.ae 52 a], aF) ∧ (aX (aa a) = m ∧ m ≤ 100000) ∧ bg
 (decide ((k + 1 + List.length (List.take (List.length (aq (aa a))) (List.drop 0 (strs (aq (aa a))))) + 1) * 17 ≤ 70368744177664)) (∃ (m : Nat), m < n ∧ I m (sp
 27 [(3, AV.aB 0 0 (k + 1 + List.length (List.take (List.length (aq (aa a))) (List.drop 0 (strs (aq (aa a))))))), (6, AV.ae 52 l), (7, AV.int (↑(l.length) :
 Int)), (8, AV.int z1)] [Obj.row 9 (List.take (k + 1) (List.take k xs ++ [AV.str (toStr (ad z2 1))]) ++ List.take (List.length (aq (aa a))) (List.drop 0 (strs
 (aq (aa a)))))])))) (∃ (m : Nat), m < r ∧ ∃ (a : List AV), ([AV.ae 52 (ai (ad z2 3))], aF) = ([AV.ae 52 a], aF) ∧ (aX (aa a) = m ∧ m ≤ 100000) ∧ bg (decide ((k
 + List.length (List.take (List.length (aq (aa a))) (List.drop 0 (strs (aq (aa a))))) + 1) * 17 ≤ 70368744177664)) (∃ (m : Nat), m < n ∧ I m (sp 27 [(3, AV.aB 0
 0 (k + List.length (List.take (List.length (aq (aa a))) (List.drop 0 (strs (aq (aa a))))))), (6, AV.ae 52 l), (7, AV.int (↑(l.length) : Int)), (8, AV.int z1)]
 [Obj.row 9 (List.take k xs ++ List.take (List.length (aq (aa a))) (List.drop 0 (strs (aq (aa a)))))]))))) (K (Exit.exit 0) (sp 27 [(3, AV.aB 0 0 k)] [Obj.row 9
 xs]))) := by kernel_rfl
abbrev DD (a : List AV × Int × List ByteArray) : S := sp 27 [(3, .aB 0 0 a.2.2.length), (6, .ae 52 a.1), (7, .int a.1.length), (8, .int a.2.1)] [.row 9 (strs a.2.2)]
def CX (r : Nat) (a : List AV × Int × List ByteArray) : Prop := a.1.length ≤ aL ∧ 0 ≤ a.2.1 ∧ a.2.1 ≤ a.1.length ∧ aX (aa (a.1.drop a.2.1.toNat)) ≤ r ∧ a.2.2.length + aX (aa (a.1.drop a.2.1.toNat)) ≤ 100000
def tG (a : List AV × Int × List ByteArray) : Out (Exit × S) := .one (.exit 0, sp 27 [(3, .aB 0 0 (a.2.2 ++ aq (aa (a.1.drop a.2.1.toNat))).length)] [.row 9 (strs (a.2.2 ++ aq (aa (a.1.drop a.2.1.toNat))))])
theorem Jg (l : List AV) (i : Nat) (h : i < l.length) : aX (aa (l.drop i)) = 1 + aX (aa (ai (ad (nth l i) 3))) + aX (aa (l.drop (i + 1))) := by
 rw [dM l i h, aX, cy, Tm.oi]
theorem HP (l : List AV) (i : Nat) (h : i < l.length) : aq (aa (l.drop i)) = (bif decide (toInt (ad (nth l i) 0) = 1) then [toStr (ad (nth l i) 1)] else []) ++ aq (aa (ai (ad (nth l i) 3))) ++ aq (aa (l.drop (i + 1))) := by
 rw [dM l i h, aq, cy, Tm.vars]
theorem Yw (κ : Kp) (r : Nat) : bq (x9 κ r) 12 84 3 (aO 0 DD (CX r) tG) := by
 refine aR (fun a => a.1.length - a.2.1.toNat) ?_
 rintro ⟨l, i, vs⟩ K ⟨h1, h2, h3, h4, h5⟩ ho
 simp only at h1 h2 h3 h4 h5
 rw [show (x9 κ r).P = Pr κ from rfl]
 refine Eq.mpr (Wu κ r l i (strs vs) vs.length _ _ K) ?_
 simp only [ab0, cm]
 simp only [aL] at h1
 simp only [af, ax, aa0, aa2, aa1, beq_iff_eq, beq_eq_false_iff_ne]
 refine ⟨fun hi => ⟨⟨h2, hi⟩, ?_⟩, fun hi => ?_⟩
 ·have hc := Jg l i.toNat (by omega)
  have hv := HP l i.toNat (by omega)
  have hle := bZ (aa (ai (ad (nth l i.toNat) 3)))
  rw [a8 (n := i + 1) (by omega) (by omega)]
  refine ⟨fun e1 => ⟨by omega, _, ?_, ai (ad (nth l i.toNat) 3), rfl, ⟨rfl, by omega⟩, ?_, _, ?_, (l, i + 1, vs ++ [toStr (ad (nth l i.toNat) 1)] ++ aq (aa (ai (ad (nth l i.toNat) 3)))), ?_, ⟨by simpa [aL] using h1, by simp only; omega, by simp only; omega, ?_, ?_⟩, rfl, ?_⟩,
   fun e1 => ⟨_, ?_, ai (ad (nth l i.toNat) 3), rfl, ⟨rfl, by omega⟩, ?_, _, ?_, (l, i + 1, vs ++ aq (aa (ai (ad (nth l i.toNat) 3)))), ?_, ⟨by simpa [aL] using h1, by simp only; omega, by simp only; omega, ?_, ?_⟩, rfl, ?_⟩⟩
  all_goals first
   | omega
   | (simp only [a9]; omega)
   | (simp only [show (i + 1).toNat = i.toNat + 1 by omega, ab8, List.length_cons, List.length_nil]; omega)
   | skip
  ·simp only [DD, ij, a9, ab8, List.length_cons, List.length_nil]
   rw [List.take_of_length_le (by simp [a9])]
   rfl
  ·simp only [tG, Out.run, show (i + 1).toNat = i.toNat + 1 by omega] at ho ⊢
   rw [hv, aa6 e1] at ho
   simpa [List.append_assoc] using ho
  ·simp only [DD, ij, a9, ab8]
  ·simp only [tG, Out.run, show (i + 1).toNat = i.toNat + 1 by omega] at ho ⊢
   rw [hv, aa4 e1] at ho
   simpa [List.append_assoc] using ho
 ·simp only [tG, Out.run] at ho
  rw [aa8 (by omega)] at ho
  simpa [aa, aq] using ho
noncomputable def D3 (κ : Kp) (r : Nat) : Env := (x9 κ r).aj 84 3 (aO 0 DD (CX r) tG)
theorem YS (κ : Kp) (r : Nat) (l : List AV) (K : AV → List Dn.Obj → Prop) : (bh (D3 κ r) 12 84 [.ae 52 l] [] K) = (
 letI z1 := Pg.toProgram (Env.P (x9 κ r))
 ag z1 84 3 = ag z1 84 3 ∧ ∃ (a : List AV × Int × List ByteArray), sp 27 [(3, AV.aB 0 0 0), (6, AV.ae 52 l), (7, AV.int (↑(l.length) : Int)), (8, AV.int 0)]
 [Obj.row 9 []] = sp 27 [(3, AV.aB 0 0 (List.length a.2.2)), (6, AV.ae 52 a.1), (7, AV.int (↑(a.1.length) : Int)), (8, AV.int a.2.1)] [Obj.row 9 (strs a.2.2)] ∧
 (a.1.length ≤ 9223372036854775807 ∧ (0 : Int) ≤ a.2.1 ∧ a.2.1 ≤ (↑(a.1.length) : Int) ∧ aX (aa (List.drop a.2.1.toNat a.1)) ≤ r ∧ List.length a.2.2 + aX (aa
 (List.drop a.2.1.toNat a.1)) ≤ 100000) ∧ K (AV.aB 0 0 (List.length (a.2.2 ++ aq (aa (List.drop a.2.1.toNat a.1))))) [Obj.row 9 (strs (a.2.2 ++ aq (aa (List.drop
 a.2.1.toNat a.1))))]) := by kernel_rfl
theorem El (n : Nat) : (G3 n).jb := aH
theorem QA (κ : Kp) (r : Nat) (hp : ∀ args st K, (∃ m, m < r ∧ G3 m args st K) → dF (Pr κ) 84 args st K) : ay (D3 κ r) ∧ ah (D3 κ r) ∧ (D3 κ r).P = Pr κ :=
 have h : ay (x9 κ r) := (Th κ).lC hp
 have hm : ah (x9 κ r) := (RR κ).au (fun _ _ _ _ hK ⟨m, h1, h2⟩ => ⟨m, h1, El m _ _ _ _ hK h2⟩)
 ⟨h.aj hm (Yw κ r), hm.aj aG, rfl⟩
theorem Vl (κ : Kp) (r : Nat) : bu (D3 κ r) 12 84 (G3 r) := by
 refine ba ?_
 rintro l K ⟨h1, h2⟩ ho
 refine Eq.mpr (YS κ r l K) ?_
 have := fu (aa l)
 rw [eG] at this
 refine ⟨rfl, (l, 0, []), rfl, ⟨by simp only; omega, by simp only; omega, by simp only; omega, ?_, ?_⟩, ?_⟩
 ·simp only [ab7, ab0]; omega
 ·simp only [ab7, ab0, List.length_nil]; omega
 ·simp only [ab7, ab0, List.nil_append]
  exact ho
def bn (l : List AV) : Prop := aX (aa l) ≤ 100000
theorem Yi (κ : Kp) : ∀ args st K, aW Mi bn Iw args st K → dF (Pr κ) 84 args st K := by
 rintro args st K ⟨l, h1, h2, h3⟩
 exact ay.x2 G3 (D3 κ) (QA κ) (Vl κ) (aX (aa l)) args st K ⟨l, h1, ⟨rfl, h2⟩, h3⟩
noncomputable def Kr (κ : Kp) : Env := (Pw κ).au 84 (aW Mi bn Iw)
theorem TM (κ : Kp) : ay (Kr κ) := (Th κ).lC (Yi κ)
theorem Tf (κ : Kp) : ah (Kr κ) := (RR κ).au aH
theorem Y1 (κ : Kp) (l : List AV) (i : Int) (es : List (Value × AV)) (I : Nat → S → Prop) (n : Nat) (K : Exit → S → Prop) : (vc (Kr κ) 12 81 none 1 (ag (Pr κ).toProgram 81 1) (sp 15 [(0, .mp 0), (6, .ae 9 l), (7, .int l.length), (8, .int i)] [.map 9 4 es]) (bK (Kr κ) 81 1 1 I n K)) = (
 aD (decide (i < (↑(l.length) : Int))) (bg (decide ((0 : Int) ≤ i) && decide (i < (↑(l.length) : Int))) (∃ (m : Nat), m < n ∧ I m (sp 15 [(0, AV.mp 0), (6,
 AV.ae 9 l), (7, AV.int (↑(l.length) : Int)), (8, AV.int (IntKind.wrap IntKind.i64 (i + (1 : Int))))] [Dn.Obj.map 9 4 (dU es (Value.string (toStr (nth l
 i.toNat))) (AV.bool true))]))) (K (Exit.exit 0) (sp 15 [] [Dn.Obj.map 9 4 es]))) := by kernel_rfl
abbrev Lg (a : List AV × Int × List (Value × AV)) : S := sp 15 [(0, .mp 0), (6, .ae 9 a.1), (7, .int a.1.length), (8, .int a.2.1)] [.map 9 4 a.2.2]
def rH (a : List AV × Int × List (Value × AV)) : Prop := a.1.length ≤ aL ∧ 0 ≤ a.2.1 ∧ a.2.1 ≤ a.1.length
def xE (a : List AV × Int × List (Value × AV)) : Out (Exit × S) := .one (.exit 0, sp 15 [] [.map 9 4 (eP a.2.2 (a.1.drop a.2.1.toNat))])
theorem Vm (κ : Kp) : bq (Kr κ) 12 81 1 (aO 1 Lg rH xE) := by
 refine aR (fun a => a.1.length - a.2.1.toNat) ?_
 rintro ⟨l, i, es⟩ K ⟨h1, h2, h3⟩ ho
 simp only at h1 h2 h3
 rw [show (Kr κ).P = Pr κ from rfl]
 refine Eq.mpr (Y1 κ l i es _ _ K) ?_
 simp only [aL] at h1
 simp only [af, ax, aa0, aa2, aa1]
 refine ⟨fun hi => ⟨⟨h2, hi⟩, ?_⟩, fun hi => ?_⟩
 ·rw [a8 (n := i + 1) (by omega) (by omega)]
  refine ⟨_, ?_, (l, i + 1, dU es (.string (toStr (nth l i.toNat))) (.lit (.bool true))), rfl, ⟨by simpa [aL] using h1, by simp only; omega, by simp only; omega⟩, rfl, ?_⟩
  ·simp only; omega
  ·simp only [xE, Out.run] at ho ⊢
   rw [ab1 (show i.toNat < l.length by omega), eP, ← br l i.toNat (by omega)] at ho
   rw [show (i + 1).toNat = i.toNat + 1 by omega]
   exact ho
 ·simp only [xE, Out.run] at ho
  rw [aa8 (by omega)] at ho
  exact ho
noncomputable def G2 (κ : Kp) : Env := (Kr κ).aj 81 1 (aO 1 Lg rH xE)
theorem Qs (κ : Kp) : ay (G2 κ) := (TM κ).aj (Tf κ) (Vm κ)
theorem N3 (κ : Kp) : ah (G2 κ) := (Tf κ).aj aG
theorem Yx (κ : Kp) (l : List AV) (es : List (Value × AV)) (K : AV → List Dn.Obj → Prop) : (bh (G2 κ) 12 81 [.mp 0, .ae 9 l] [.map 9 4 es] K) = (
 letI z1 := Pg.toProgram (Env.P (Kr κ))
 ag z1 81 1 = ag z1 81 1 ∧ ∃ (a : List AV × Int × List (Value × AV)), sp 15 [(0, AV.mp 0), (6, AV.ae 9 l), (7, AV.int (↑(l.length) : Int)), (8, AV.int 0)]
 [Dn.Obj.map 9 4 es] = sp 15 [(0, AV.mp 0), (6, AV.ae 9 a.1), (7, AV.int (↑(a.1.length) : Int)), (8, AV.int a.2.1)] [Dn.Obj.map 9 4 a.2.2] ∧ (a.1.length ≤
 9223372036854775807 ∧ (0 : Int) ≤ a.2.1 ∧ a.2.1 ≤ (↑(a.1.length) : Int)) ∧ K (AV.bj []) [Dn.Obj.map 9 4 (eP a.2.2 (List.drop a.2.1.toNat a.1))]) := by kernel_rfl
def IU (a : List AV × List (Value × AV)) : List AV × List Dn.Obj := ([.mp 0, .ae 9 a.1], [.map 9 4 a.2])
def a7 (a : List AV × List (Value × AV)) : Prop := a.1.length ≤ aL
def KW (a : List AV × List (Value × AV)) : Out (AV × List Dn.Obj) := .one (.bj [], [.map 9 4 (eP a.2 a.1)])
theorem W0 (κ : Kp) : bu (G2 κ) 12 81 (aW IU a7 KW) := by
 refine ba ?_
 rintro ⟨l, es⟩ K h1 ho
 refine Eq.mpr (Yx κ l es K) ?_
 exact ⟨rfl, (l, 0, es), rfl, ⟨h1, by simp only; omega, by simp only; omega⟩, ho⟩
noncomputable def KD (κ : Kp) : Env := (G2 κ).au 81 (aW IU a7 KW)
theorem Zk (κ : Kp) : ay (KD κ) := (Qs κ).au (N3 κ) (W0 κ)
theorem R7 (κ : Kp) : ah (KD κ) := (N3 κ).au aH
theorem Xl (κ : Kp) (l : List AV) (i : Int) (es : List (Value × AV)) (I : Nat → S → Prop) (n : Nat) (K : Exit → S → Prop) : (vc (KD κ) 12 155 none 2 (ag (Pr κ).toProgram 155 2) (sp 19 [(0, .ae 9 l), (1, .bL 130 [.ptr 1 0 [] 0]), (7, .int l.length), (8, .int i)] [.map 9 4 es, .box 114 (.mp 0)]) (bK (KD κ) 155 2 2 I n K)) = (
 aD (decide (i < (↑(l.length) : Int))) (bg (decide ((0 : Int) ≤ i) && decide (i < (↑(l.length) : Int))) (aD (!Dn.toBool (cF es (Value.string (toStr (nth l
 i.toNat))) (AV.bool false))) (K Exit.ret (sp 19 [(4, AV.int i)] [Dn.Obj.map 9 4 es, Obj.box 114 (AV.mp 0)])) (∃ (m : Nat), m < n ∧ I m (sp 19 [(0, AV.ae 9 l),
 (1, AV.bL 130 [AV.ptr 1 0 [] 0]), (7, AV.int (↑(l.length) : Int)), (8, AV.int (IntKind.wrap IntKind.i64 (i + (1 : Int))))] [Dn.Obj.map 9 4 es, Obj.box 114
 (AV.mp 0)])))) (K (Exit.exit 0) (sp 19 [] [Dn.Obj.map 9 4 es, Obj.box 114 (AV.mp 0)]))) := by kernel_rfl
abbrev HD (es : List (Value × AV)) : List Dn.Obj := [.map 9 4 es, .box 114 (.mp 0)]
abbrev Lv (a : List AV × Int × List (Value × AV)) : S := sp 19 [(0, .ae 9 a.1), (1, .bL 130 [.ptr 1 0 [] 0]), (7, .int a.1.length), (8, .int a.2.1)] (HD a.2.2)
def wR (a : List AV × Int × List (Value × AV)) : Out (Exit × S) :=
 .aD (fh a.2.2 (a.1.drop a.2.1.toNat)) (.one (.exit 0, sp 19 [] (HD a.2.2))) (.all (fun j : Int => 0 ≤ j) fun j => .one (.ret, sp 19 [(4, .int j)] (HD a.2.2)))
theorem X1 (κ : Kp) : bq (KD κ) 12 155 2 (aO 2 Lv rH wR) := by
 refine aR (fun a => a.1.length - a.2.1.toNat) ?_
 rintro ⟨l, i, es⟩ K ⟨h1, h2, h3⟩ ho
 simp only at h1 h2 h3
 rw [show (KD κ).P = Pr κ from rfl]
 refine Eq.mpr (Xl κ l i es _ _ K) ?_
 simp only [aL] at h1
 simp only [wR, Out.run, af] at ho
 simp only [af, ax, aa0, aa2, aa1, Bool.not_eq_true', ab2]
 refine ⟨fun hi => ⟨⟨h2, hi⟩, ?_⟩, fun hi => ?_⟩
 ·rw [ab1 (show i.toNat < l.length by omega), ← br l i.toNat (by omega)] at ho
  simp only [fh, List.all_cons] at ho
  refine ⟨fun e => ?_, fun e => ?_⟩
  ·have e' : rD es (toStr (nth l i.toNat)) = false := e
   exact ho.2 (by rw [e']; rfl) i h2
  ·have e' : rD es (toStr (nth l i.toNat)) = true := e
   rw [e', ab9] at ho
   rw [a8 (n := i + 1) (by omega) (by omega)]
   refine ⟨_, ?_, (l, i + 1, es), rfl, ⟨by simpa [aL] using h1, by simp only; omega, by simp only; omega⟩, rfl, ?_⟩
   ·simp only; omega
   ·simp only [wR, Out.run, af, show (i + 1).toNat = i.toNat + 1 by omega]
    exact ho
 ·rw [aa8 (by omega)] at ho
  exact ho.1 rfl
noncomputable def H2 (κ : Kp) : Env := (KD κ).aj 155 2 (aO 2 Lv rH wR)
theorem QX (κ : Kp) : ay (H2 κ) := (Zk κ).aj (R7 κ) (X1 κ)
theorem NI (κ : Kp) : ah (H2 κ) := (R7 κ).aj aG
theorem UU (κ : Kp) (l : List AV) (es : List (Value × AV)) (K : AV → List Dn.Obj → Prop) : (bh (H2 κ) 12 83 [.mp 0, .ae 9 l] [.map 9 4 es] K) = (
 letI z1 := Pg.toProgram (Env.P (KD κ))
 ag z1 155 2 = ag z1 155 2 ∧ ∃ (a : List AV × Int × List (Value × AV)), sp 19 [(0, AV.ae 9 l), (1, AV.bL 130 [AV.ptr 1 0 [] 0]), (7, AV.int (↑(l.length) : Int)),
 (8, AV.int 0)] [Dn.Obj.map 9 4 es, Obj.box 114 (AV.mp 0)] = sp 19 [(0, AV.ae 9 a.1), (1, AV.bL 130 [AV.ptr 1 0 [] 0]), (7, AV.int (↑(a.1.length) : Int)), (8,
 AV.int a.2.1)] [Dn.Obj.map 9 4 a.2.2, Obj.box 114 (AV.mp 0)] ∧ (a.1.length ≤ 9223372036854775807 ∧ (0 : Int) ≤ a.2.1 ∧ a.2.1 ≤ (↑(a.1.length) : Int)) ∧ aD (fh
 a.2.2 (List.drop a.2.1.toNat a.1)) (K (AV.bool true) [Dn.Obj.map 9 4 a.2.2]) (∀ (y : Int), (0 : Int) ≤ y → K (AV.lit (Value.bool !decide (y ≥ (0 : Int))))
 [Dn.Obj.map 9 4 a.2.2])) := by kernel_rfl
def FO (a : List AV × List (Value × AV)) : Out (AV × List Dn.Obj) := .one (.bool (fh a.2 a.1), [.map 9 4 a.2])
theorem Xz (κ : Kp) : bu (H2 κ) 12 83 (aW IU a7 FO) := by
 refine ba ?_
 rintro ⟨l, es⟩ K h1 ho
 refine Eq.mpr (UU κ l es K) ?_
 refine ⟨rfl, (l, 0, es), rfl, ⟨h1, by simp only; omega, by simp only; omega⟩, ?_⟩
 simp only [FO, Out.run] at ho
 simp only [ab7, ab0]
 rw [af]
 refine ⟨fun e => by rw [e] at ho; exact ho, fun e j hj => ?_⟩
 rw [e] at ho
 rw [aa6 (show j ≥ 0 from hj)]
 exact ho
noncomputable def KB (κ : Kp) : Env := (H2 κ).au 83 (aW IU a7 FO)
theorem XW (κ : Kp) : ay (KB κ) := (QX κ).au (NI κ) (Xz κ)
theorem RK (κ : Kp) : ah (KB κ) := (NI κ).au aH
theorem UI (κ : Kp) (l : List AV) (i : Int) (vs : List ByteArray) (I : Nat → S → Prop) (n : Nat) (K : Exit → S → Prop) : (vc (KB κ) 12 168 none 0 (ag (Pr κ).toProgram 168 3) (sp 23 [(3, .aB 0 0 vs.length), (7, .ae 52 l), (8, .int l.length), (9, .int i)] [.row 9 (strs vs)]) (bK (KB κ) 168 3 0 I n K)) = (
 letI z1 := nth l i.toNat
 letI z2 := IntKind.wrap IntKind.i64 (i + (1 : Int))
 aD (decide (i < (↑(l.length) : Int))) (bg (decide ((0 : Int) ≤ i) && decide (i < (↑(l.length) : Int))) (aD (decide (toInt (ad z1 0) ≥ (5 : Int))) (∃ (a : List
 AV), ([AV.ae 52 [AV.agg [AV.int (toInt (ad z1 0)), AV.str (toStr (ad z1 1)), AV.int (toInt (ad z1 2)), AV.ae 52 (ai (ad z1 3))]]], aF) = ([AV.ae 52 a], aF) ∧ bn
 a ∧ bg (decide ((vs.length + List.length (List.take (List.length (aq (aa a))) (List.drop 0 (strs (aq (aa a))))) + 1) * 17 ≤ 70368744177664)) (∃ (m : Nat), m < n
 ∧ I m (sp 23 [(3, AV.aB 0 0 (vs.length + List.length (List.take (List.length (aq (aa a))) (List.drop 0 (strs (aq (aa a))))))), (7, AV.ae 52 l), (8, AV.int
 (↑(l.length) : Int)), (9, AV.int z2)] [Obj.row 9 (List.take vs.length (strs vs) ++ List.take (List.length (aq (aa a))) (List.drop 0 (strs (aq (aa a)))))]))) (∃
 (m : Nat), m < n ∧ I m (sp 23 [(3, AV.aB 0 0 vs.length), (7, AV.ae 52 l), (8, AV.int (↑(l.length) : Int)), (9, AV.int z2)] [Obj.row 9 (strs vs)])))) (K
 (Exit.exit 0) (sp 23 [(3, AV.aB 0 0 vs.length)] [Obj.row 9 (strs vs)]))) := by kernel_rfl
abbrev Iq (a : List AV × Int × List ByteArray) : S := sp 23 [(3, .aB 0 0 a.2.2.length), (7, .ae 52 a.1), (8, .int a.1.length), (9, .int a.2.1)] [.row 9 (strs a.2.2)]
def CQ (a : List AV × Int × List ByteArray) : Prop := a.1.length ≤ aL ∧ 0 ≤ a.2.1 ∧ a.2.1 ≤ a.1.length ∧ a.2.2.length + aX (aa (a.1.drop a.2.1.toNat)) ≤ 100000
def sc (a : List AV × Int × List ByteArray) : Out (Exit × S) := .one (.exit 0, sp 23 [(3, .aB 0 0 (a.2.2 ++ dc (aa (a.1.drop a.2.1.toNat))).length)] [.row 9 (strs (a.2.2 ++ dc (aa (a.1.drop a.2.1.toNat))))])
theorem Wz (κ : Kp) : bq (KB κ) 12 168 3 (aO 0 Iq CQ sc) := by
 refine aR (fun a => a.1.length - a.2.1.toNat) ?_
 rintro ⟨l, i, vs⟩ K ⟨h1, h2, h3, h5⟩ ho
 simp only at h1 h2 h3 h5
 rw [show (KB κ).P = Pr κ from rfl]
 refine Eq.mpr (UI κ l i vs _ _ K) ?_
 simp only [ab0, cm]
 simp only [aL] at h1
 simp only [af, ax, aa0, aa2, aa1]
 refine ⟨fun hi => ⟨⟨h2, hi⟩, ?_⟩, fun hi => ?_⟩
 ·have hv := F0 l i.toNat (by omega)
  have hc : aX (aa (l.drop i.toNat)) = aX [cz (nth l i.toNat)] + aX (aa (l.drop (i.toNat + 1))) := by
   rw [dM l i.toNat (by omega)]; simp only [aX, Nat.add_zero]
  have hle := bZ [cz (nth l i.toNat)]
  have ht : aa [.agg [.int (toInt (ad (nth l i.toNat) 0)), .lit (.string (toStr (ad (nth l i.toNat) 1))), .int (toInt (ad (nth l i.toNat) 2)), .ae 52 (ai (ad (nth l i.toNat) 3))]] = [cz (nth l i.toNat)] := by
   simp only [aa, ac0, List.map_nil]
   rw [mo, ← cy]
  rw [a8 (n := i + 1) (by omega) (by omega)]
  refine ⟨fun e1 => ⟨_, rfl, ?_, ?_, _, ?_, (l, i + 1, vs ++ aq [cz (nth l i.toNat)]), ?_, ⟨by simpa [aL] using h1, by simp only; omega, by simp only; omega, ?_⟩, rfl, ?_⟩, fun e1 => ⟨_, ?_, (l, i + 1, vs), rfl, ⟨by simpa [aL] using h1, by simp only; omega, by simp only; omega, ?_⟩, rfl, ?_⟩⟩
  ·simp only [bn, ht]; omega
  ·rw [ht, a9]; omega
  ·simp only; omega
  ·rw [ht]; simp only [Iq, ij, a9, ab8]
  ·simp only [show (i + 1).toNat = i.toNat + 1 by omega, ab8]; omega
  ·simp only [sc, Out.run, show (i + 1).toNat = i.toNat + 1 by omega] at ho ⊢
   rw [hv, aa6 (show 5 ≤ toInt (ad (nth l i.toNat) 0) from e1)] at ho
   simpa [List.append_assoc] using ho
  ·simp only; omega
  ·simp only [show (i + 1).toNat = i.toNat + 1 by omega]; omega
  ·simp only [sc, Out.run, show (i + 1).toNat = i.toNat + 1 by omega] at ho ⊢
   rw [hv, aa4 (show ¬ 5 ≤ toInt (ad (nth l i.toNat) 0) from e1)] at ho
   simpa [List.append_assoc] using ho
 ·simp only [sc, Out.run] at ho
  rw [aa8 (by omega)] at ho
  simpa [aa, dc] using ho
noncomputable def GJ (κ : Kp) : Env := (KB κ).aj 168 3 (aO 0 Iq CQ sc)
theorem PN (κ : Kp) : ay (GJ κ) := (XW κ).aj (RK κ) (Wz κ)
theorem Pf (κ : Kp) : ah (GJ κ) := (RK κ).aj aG
theorem Un (κ : Kp) (s : ByteArray) (l : List AV) (K : AV → List Dn.Obj → Prop) : (bh (GJ κ) 12 168 [.agg [.lit (.string s), .ae 52 l]] [] K) = (
 letI z1 := Pg.toProgram (Env.P (KB κ))
 ag z1 168 3 = ag z1 168 3 ∧ ∃ (a : List AV × Int × List ByteArray), sp 23 [(3, AV.aB 0 0 0), (7, AV.ae 52 l), (8, AV.int (↑(l.length) : Int)), (9, AV.int 0)]
 [Obj.row 9 []] = sp 23 [(3, AV.aB 0 0 (List.length a.2.2)), (7, AV.ae 52 a.1), (8, AV.int (↑(a.1.length) : Int)), (9, AV.int a.2.1)] [Obj.row 9 (strs a.2.2)] ∧
 (a.1.length ≤ 9223372036854775807 ∧ (0 : Int) ≤ a.2.1 ∧ a.2.1 ≤ (↑(a.1.length) : Int) ∧ List.length a.2.2 + aX (aa (List.drop a.2.1.toNat a.1)) ≤ 100000) ∧ K
 (AV.aB 0 0 (List.length (a.2.2 ++ dc (aa (List.drop a.2.1.toNat a.1))))) [Obj.row 9 (strs (a.2.2 ++ dc (aa (List.drop a.2.1.toNat a.1))))]) := by kernel_rfl
def Pa (a : ByteArray × List AV) : List AV × List Dn.Obj := ([.agg [.lit (.string a.1), .ae 52 a.2]], [])
def iG (a : ByteArray × List AV) : Prop := aX (aa a.2) ≤ 100000
def Lq (a : ByteArray × List AV) : Out (AV × List Dn.Obj) := .one (.aB 0 0 (dc (aa a.2)).length, [.row 9 (strs (dc (aa a.2)))])
theorem ZG (κ : Kp) : bu (GJ κ) 12 168 (aW Pa iG Lq) := by
 refine ba ?_
 rintro ⟨s, l⟩ K h1 ho
 simp only [iG] at h1
 refine Eq.mpr (Un κ s l K) ?_
 have := fu (aa l)
 rw [eG] at this
 refine ⟨rfl, (l, 0, []), rfl, ⟨by simp only; omega, by simp only; omega, by simp only; omega, ?_⟩, ?_⟩
 ·simp only [ab7, ab0, List.length_nil]; omega
 ·simp only [ab7, ab0, List.nil_append]
  exact ho
noncomputable def O6 (κ : Kp) : Env := (GJ κ).au 168 (aW Pa iG Lq)
theorem VY (κ : Kp) : ay (O6 κ) := (PN κ).au (Pf κ) (ZG κ)
theorem S5 (κ : Kp) : ah (O6 κ) := (Pf κ).au aH
structure LA where
 op : Int
 s : ByteArray
 l : List AV
 o1 : Int
 s1 : ByteArray
 n1 : Int
 l1 : List AV
 o2 : Int
 s2 : ByteArray
 n2 : Int
 l2 : List AV
abbrev LA.av (a : LA) : AV := .agg [.int a.op, .agg [.lit (.string a.s), .ae 52 a.l], .agg [.int a.o1, .lit (.string a.s1), .int a.n1, .ae 52 a.l1], .agg [.int a.o2, .lit (.string a.s2), .int a.n2, .ae 52 a.l2]]
theorem XK (κ : Kp) (a : LA) (K : AV → List Dn.Obj → Prop) : (bh (O6 κ) 12 117 [a.av] [] K) = (
 K (AV.bool (decide (a.op ≥ (7 : Int)))) []) := by kernel_rfl
def Rz : List AV → Option (Bool × AV)
 | [.agg [.lit (.int .i64 op), .agg [.lit (.string _), .ae 52 _], .agg [.lit (.int .i64 _), .lit (.string _), .lit (.int .i64 _), .ae 52 _], .agg [.lit (.int .i64 _), .lit (.string _), .lit (.int .i64 _), .ae 52 _]]] => some (true, .bool (decide (7 ≤ op)))
 | _ => none
theorem Vs (κ : Kp) : cx (O6 κ) 12 117 Rz := by
 intro args x hh
 unfold Rz at hh
 split at hh
 ·rename_i op s l o1 s1 n1 l1 o2 s2 n2 l2
  simp only [aa3, aa9, true_and] at hh
  subst hh
  exact ⟨_, rfl, rfl, Eq.mpr (XK κ ⟨op, s, l, o1, s1, n1, l1, o2, s2, n2, l2⟩ _) rfl⟩
 ·cases hh
noncomputable def Od (κ : Kp) : Env := (O6 κ).aE 117 Rz
theorem Zl (κ : Kp) : ay (Od κ) := (VY κ).aE (S5 κ) (Vs κ)
theorem RF (κ : Kp) : ah (Od κ) := (S5 κ).aE
theorem Xg (κ : Kp) (a : LA) (K : AV → List Dn.Obj → Prop) : (bh (Od κ) 12 128 [a.av] [] K) = (
 ((∃ (a_1 : List AV), ([AV.ae 52 [AV.agg [AV.int a.o1, AV.str a.s1, AV.int a.n1, AV.ae 52 a.l1], AV.agg [AV.int a.o2, AV.str a.s2, AV.int a.n2, AV.ae 52
 a.l2]]], aF) = ([AV.ae 52 a_1], aF) ∧ bn a_1 ∧ ∃ (a_2 : List AV), ([AV.ae 52 a.l], aF) = ([AV.ae 52 a_2], aF) ∧ bn a_2 ∧ bg (decide
 ((List.length (aq (aa a_1)) + List.length (List.take (List.length (aq (aa a_2))) (List.drop 0 (strs (aq (aa a_2))))) + 1) * 17 ≤
 70368744177664)) (K (AV.aB 0 0 (List.length (aq (aa a_1)) + List.length (List.take (List.length (aq (aa a_2))) (List.drop 0 (strs (aq (aa
 a_2))))))) [Obj.row 9 (List.take (List.length (aq (aa a_1))) (strs (aq (aa a_1))) ++ List.take (List.length (aq (aa a_2))) (List.drop 0 (strs
 (aq (aa a_2)))))])) ∧ (∃ (a_1 : List AV), ([AV.ae 52 [AV.agg [AV.int a.o1, AV.str a.s1, AV.int a.n1, AV.ae 52 a.l1], AV.agg [AV.int a.o2, AV.str a.s2,
 AV.int a.n2, AV.ae 52 a.l2]]], aF) = ([AV.ae 52 a_1], aF) ∧ bn a_1 ∧ ∃ (a_2 : List AV), ([AV.ae 52 a.l], aF) = ([AV.ae 52 a_2], aF) ∧ bn
 a_2 ∧ bg (decide ((List.length (aq (aa a_1)) + List.length (List.take (List.length (aq (aa a_2))) (List.drop 0 (strs (aq (aa a_2))))) + 1) *
 17 ≤ 70368744177664)) (K (AV.aB 0 0 (List.length (aq (aa a_1)) + List.length (List.take (List.length (aq (aa a_2))) (List.drop 0 (strs (aq
 (aa a_2))))))) [Obj.row 9 (List.take (List.length (aq (aa a_1))) (strs (aq (aa a_1))) ++ List.take (List.length (aq (aa a_2))) (List.drop
 0 (strs (aq (aa a_2)))))])) ∧ (∃ (a_1 : List AV), ([AV.ae 52 [AV.agg [AV.int a.o1, AV.str a.s1, AV.int a.n1, AV.ae 52 a.l1], AV.agg [AV.int a.o2,
 AV.str a.s2, AV.int a.n2, AV.ae 52 a.l2]]], aF) = ([AV.ae 52 a_1], aF) ∧ bn a_1 ∧ ∃ (a_2 : List AV), ([AV.ae 52 a.l], aF) = ([AV.ae 52 a_2],
 aF) ∧ bn a_2 ∧ bg (decide ((List.length (aq (aa a_1)) + List.length (List.take (List.length (aq (aa a_2))) (List.drop 0 (strs (aq (aa
 a_2))))) + 1) * 17 ≤ 70368744177664)) (K (AV.aB 0 0 (List.length (aq (aa a_1)) + List.length (List.take (List.length (aq (aa a_2))) (List.drop 0
 (strs (aq (aa a_2))))))) [Obj.row 9 (List.take (List.length (aq (aa a_1))) (strs (aq (aa a_1))) ++ List.take (List.length (aq (aa
 a_2))) (List.drop 0 (strs (aq (aa a_2)))))])) ∧ ∃ (a_1 : List AV), ([AV.ae 52 [AV.agg [AV.int a.o1, AV.str a.s1, AV.int a.n1, AV.ae 52 a.l1], AV.agg
 [AV.int a.o2, AV.str a.s2, AV.int a.n2, AV.ae 52 a.l2]]], aF) = ([AV.ae 52 a_1], aF) ∧ bn a_1 ∧ ∃ (a_2 : List AV), ([AV.ae 52 a.l], aF) =
 ([AV.ae 52 a_2], aF) ∧ bn a_2 ∧ bg (decide ((List.length (aq (aa a_1)) + List.length (List.take (List.length (aq (aa a_2))) (List.drop 0
 (strs (aq (aa a_2))))) + 1) * 17 ≤ 70368744177664)) (K (AV.aB 0 0 (List.length (aq (aa a_1)) + List.length (List.take (List.length (aq (aa
 a_2))) (List.drop 0 (strs (aq (aa a_2))))))) [Obj.row 9 (List.take (List.length (aq (aa a_1))) (strs (aq (aa a_1))) ++ List.take (List.length
 (aq (aa a_2))) (List.drop 0 (strs (aq (aa a_2)))))])) ∧ ((∃ (a_1 : List AV), ([AV.ae 52 [AV.agg [AV.int a.o1, AV.str a.s1, AV.int a.n1, AV.ae 52
 a.l1], AV.agg [AV.int a.o2, AV.str a.s2, AV.int a.n2, AV.ae 52 a.l2]]], aF) = ([AV.ae 52 a_1], aF) ∧ bn a_1 ∧ ∃ (a_2 : List AV), ([AV.ae 52 a.l],
 aF) = ([AV.ae 52 a_2], aF) ∧ bn a_2 ∧ bg (decide ((List.length (aq (aa a_1)) + List.length (List.take (List.length (aq (aa a_2)))
 (List.drop 0 (strs (aq (aa a_2))))) + 1) * 17 ≤ 70368744177664)) (K (AV.aB 0 0 (List.length (aq (aa a_1)) + List.length (List.take (List.length
 (aq (aa a_2))) (List.drop 0 (strs (aq (aa a_2))))))) [Obj.row 9 (List.take (List.length (aq (aa a_1))) (strs (aq (aa a_1))) ++
 List.take (List.length (aq (aa a_2))) (List.drop 0 (strs (aq (aa a_2)))))])) ∧ (∃ (a_1 : List AV), ([AV.ae 52 [AV.agg [AV.int a.o1, AV.str a.s1,
 AV.int a.n1, AV.ae 52 a.l1], AV.agg [AV.int a.o2, AV.str a.s2, AV.int a.n2, AV.ae 52 a.l2]]], aF) = ([AV.ae 52 a_1], aF) ∧ bn a_1 ∧ ∃ (a_2 : List
 AV), ([AV.ae 52 a.l], aF) = ([AV.ae 52 a_2], aF) ∧ bn a_2 ∧ bg (decide ((List.length (aq (aa a_1)) + List.length (List.take (List.length
 (aq (aa a_2))) (List.drop 0 (strs (aq (aa a_2))))) + 1) * 17 ≤ 70368744177664)) (K (AV.aB 0 0 (List.length (aq (aa a_1)) + List.length
 (List.take (List.length (aq (aa a_2))) (List.drop 0 (strs (aq (aa a_2))))))) [Obj.row 9 (List.take (List.length (aq (aa a_1))) (strs (aq
 (aa a_1))) ++ List.take (List.length (aq (aa a_2))) (List.drop 0 (strs (aq (aa a_2)))))])) ∧ ∃ (a_1 : List AV), ([AV.ae 52 [AV.agg [AV.int
 a.o1, AV.str a.s1, AV.int a.n1, AV.ae 52 a.l1], AV.agg [AV.int a.o2, AV.str a.s2, AV.int a.n2, AV.ae 52 a.l2]]], aF) = ([AV.ae 52 a_1], aF) ∧ bn
 a_1 ∧ ∃ (a_2 : List AV), ([AV.ae 52 a.l], aF) = ([AV.ae 52 a_2], aF) ∧ bn a_2 ∧ bg (decide ((List.length (aq (aa a_1)) + List.length
 (List.take (List.length (aq (aa a_2))) (List.drop 0 (strs (aq (aa a_2))))) + 1) * 17 ≤ 70368744177664)) (K (AV.aB 0 0 (List.length (aq (aa
 a_1)) + List.length (List.take (List.length (aq (aa a_2))) (List.drop 0 (strs (aq (aa a_2))))))) [Obj.row 9 (List.take (List.length (aq (aa
 a_1))) (strs (aq (aa a_1))) ++ List.take (List.length (aq (aa a_2))) (List.drop 0 (strs (aq (aa a_2)))))])) ∧ ((∃ (a_1 : List AV), ([AV.ae
 52 [AV.agg [AV.int a.o1, AV.str a.s1, AV.int a.n1, AV.ae 52 a.l1], AV.agg [AV.int a.o2, AV.str a.s2, AV.int a.n2, AV.ae 52 a.l2]]], aF) = ([AV.ae 52 a_1],
 aF) ∧ bn a_1 ∧ ∃ (a_2 : List AV), ([AV.ae 52 a.l], aF) = ([AV.ae 52 a_2], aF) ∧ bn a_2 ∧ bg (decide ((List.length (aq (aa a_1)) +
 List.length (List.take (List.length (aq (aa a_2))) (List.drop 0 (strs (aq (aa a_2))))) + 1) * 17 ≤ 70368744177664)) (K (AV.aB 0 0 (List.length
 (aq (aa a_1)) + List.length (List.take (List.length (aq (aa a_2))) (List.drop 0 (strs (aq (aa a_2))))))) [Obj.row 9 (List.take (List.length
 (aq (aa a_1))) (strs (aq (aa a_1))) ++ List.take (List.length (aq (aa a_2))) (List.drop 0 (strs (aq (aa a_2)))))])) ∧ ∃ (a_1 : List
 AV), ([AV.ae 52 [AV.agg [AV.int a.o1, AV.str a.s1, AV.int a.n1, AV.ae 52 a.l1], AV.agg [AV.int a.o2, AV.str a.s2, AV.int a.n2, AV.ae 52 a.l2]]], aF) =
 ([AV.ae 52 a_1], aF) ∧ bn a_1 ∧ ∃ (a_2 : List AV), ([AV.ae 52 a.l], aF) = ([AV.ae 52 a_2], aF) ∧ bn a_2 ∧ bg (decide ((List.length (aq
 (aa a_1)) + List.length (List.take (List.length (aq (aa a_2))) (List.drop 0 (strs (aq (aa a_2))))) + 1) * 17 ≤ 70368744177664)) (K (AV.aB 0 0
 (List.length (aq (aa a_1)) + List.length (List.take (List.length (aq (aa a_2))) (List.drop 0 (strs (aq (aa a_2))))))) [Obj.row 9 (List.take
 (List.length (aq (aa a_1))) (strs (aq (aa a_1))) ++ List.take (List.length (aq (aa a_2))) (List.drop 0 (strs (aq (aa a_2)))))])) ∧ ∃
 (a_1 : List AV), ([AV.ae 52 [AV.agg [AV.int a.o1, AV.str a.s1, AV.int a.n1, AV.ae 52 a.l1], AV.agg [AV.int a.o2, AV.str a.s2, AV.int a.n2, AV.ae 52 a.l2]]],
 aF) = ([AV.ae 52 a_1], aF) ∧ bn a_1 ∧ ∃ (a_2 : List AV), ([AV.ae 52 a.l], aF) = ([AV.ae 52 a_2], aF) ∧ bn a_2 ∧ bg (decide ((List.length
 (aq (aa a_1)) + List.length (List.take (List.length (aq (aa a_2))) (List.drop 0 (strs (aq (aa a_2))))) + 1) * 17 ≤ 70368744177664)) (K
 (AV.aB 0 0 (List.length (aq (aa a_1)) + List.length (List.take (List.length (aq (aa a_2))) (List.drop 0 (strs (aq (aa a_2))))))) [Obj.row 9
 (List.take (List.length (aq (aa a_1))) (strs (aq (aa a_1))) ++ List.take (List.length (aq (aa a_2))) (List.drop 0 (strs (aq (aa
 a_2)))))])) := by kernel_rfl
def LA.lt (a : LA) : Lt := ⟨a.op, ⟨a.s, aa a.l⟩, .mk a.o1 a.s1 a.n1 (aa a.l1), .mk a.o2 a.s2 a.n2 (aa a.l2)⟩
def Oa (a : LA) : List AV × List Dn.Obj := ([a.av], [])
def eZ (a : LA) : Prop := ik a.lt ≤ 100000
def Hd (a : LA) : Out (AV × List Dn.Obj) := .one (.aB 0 0 (dz a.lt).length, [.row 9 (strs (dz a.lt))])
theorem Ux (κ : Kp) : bu (Od κ) 12 128 (aW Oa eZ Hd) := by
 refine ba ?_
 rintro a K h1 ho
 refine Eq.mpr (Xg κ a K) ?_
 simp only [and_self]
 simp only [eZ, ik, LA.lt] at h1
 have ht : aa [.agg [.int a.o1, .lit (.string a.s1), .int a.n1, .ae 52 a.l1], .agg [.int a.o2, .lit (.string a.s2), .int a.n2, .ae 52 a.l2]] = [.mk a.o1 a.s1 a.n1 (aa a.l1), .mk a.o2 a.s2 a.n2 (aa a.l2)] := by
  simp only [aa, ac0, List.map_nil]
  rw [mo, mo]; rfl
 have e1 := bZ (aa a.l)
 have e2 := bZ [.mk a.o1 a.s1 a.n1 (aa a.l1), .mk a.o2 a.s2 a.n2 (aa a.l2)]
 refine ⟨_, rfl, ?_, _, rfl, ?_, ?_⟩
 ·simp only [bn, ht]; omega
 ·simp only [bn]; omega
 ·simp only [ab0, cm, ht, a9]
  rw [ax, aa0]
  refine ⟨by omega, ?_⟩
  simp only [Hd, Out.run, dz, LA.lt, ij, ab8] at ho
  exact ho
noncomputable def N5 (κ : Kp) : Env := (Od κ).au 128 (aW Oa eZ Hd)
theorem Wr (κ : Kp) : ay (N5 κ) := (Zl κ).au (RF κ) (Ux κ)
theorem RQ (κ : Kp) : ah (N5 κ) := (RF κ).au aH
structure TA where
 o1 : Int
 s1 : ByteArray
 n1 : Int
 l1 : List AV
 o2 : Int
 s2 : ByteArray
 n2 : Int
 l2 : List AV
 es : List (Value × AV)
theorem XX (κ : Kp) (a : TA) (K : AV → List Dn.Obj → Prop) : (bh (N5 κ) 12 116 [.mp 0, .agg [.int a.o1, .lit (.string a.s1), .int a.n1, .ae 52 a.l1], .agg [.int a.o2, .lit (.string a.s2), .int a.n2, .ae 52 a.l2]] [.map 9 4 a.es] K) = (
 letI z1 := K (AV.bool false) [Dn.Obj.map 9 4 a.es]
 aD (a.o1 == (1 : Int)) (aD (!Dn.toBool (cF a.es (Value.string a.s1) (AV.bool false))) (∃ (a_1 : List AV), ([AV.ae 52 [AV.agg [AV.int a.o2, AV.str a.s2, AV.int
 a.n2, AV.ae 52 a.l2]]], aF) = ([AV.ae 52 a_1], aF) ∧ bn a_1 ∧ ∃ (a_2 : List AV × List (Value × AV)), ([AV.mp 0, AV.ae 9 (List.take (List.length (aq (aa a_1)))
 (List.drop 0 (strs (aq (aa a_1)))))], [Dn.Obj.map 9 4 a.es]) = ([AV.mp 0, AV.ae 9 a_2.1], [Dn.Obj.map 9 4 a_2.2]) ∧ a7 a_2 ∧ K (AV.bool (fh a_2.2 a_2.1))
 [Dn.Obj.map 9 4 a_2.2]) z1) z1) := by kernel_rfl
def TA.x (a : TA) : Tm := .mk a.o1 a.s1 a.n1 (aa a.l1)
def TA.y (a : TA) : Tm := .mk a.o2 a.s2 a.n2 (aa a.l2)
def NH (a : TA) : List AV × List Dn.Obj := ([.mp 0, .agg [.int a.o1, .lit (.string a.s1), .int a.n1, .ae 52 a.l1], .agg [.int a.o2, .lit (.string a.s2), .int a.n2, .ae 52 a.l2]], [.map 9 4 a.es])
def gI (a : TA) : Prop := aX [a.y] ≤ 100000
def K6 (a : TA) : Out (AV × List Dn.Obj) := .one (.bool (j8 a.es a.x a.y), [.map 9 4 a.es])
theorem Yl (κ : Kp) : bu (N5 κ) 12 116 (aW NH gI K6) := by
 refine ba ?_
 rintro a K h1 ho
 refine Eq.mpr (XX κ a K) ?_
 have ht : aa [.agg [.int a.o2, .lit (.string a.s2), .int a.n2, .ae 52 a.l2]] = [a.y] := by
  simp only [aa, ac0, List.map_nil]
  rw [mo]; rfl
 have hle := bZ [a.y]
 have ho' : K (.bool (decide (a.o1 = 1) && (!rD a.es a.s1 && fh a.es (strs (aq [a.y]))))) [.map 9 4 a.es] := ho
 simp only [gI] at h1
 simp only [af, beq_iff_eq, beq_eq_false_iff_ne, Bool.not_eq_true', ab2]
 refine ⟨fun e1 => ⟨fun e2 => ?_, fun e2 => ?_⟩, fun e1 => ?_⟩
 ·have e2' : rD a.es a.s1 = false := e2
  rw [aa6 e1, e2'] at ho'
  refine ⟨_, rfl, by simp only [bn, ht]; exact h1, (strs (aq [a.y]), a.es), ?_, ?_, ho'⟩
  ·simp only [ab0, cm, ht]
  ·simp only [a7, a9, aL]; omega
 ·have e2' : rD a.es a.s1 = true := e2
  rw [aa6 e1, e2'] at ho'
  exact ho'
 ·rw [aa4 e1] at ho'
  exact ho'
noncomputable def PA (κ : Kp) : Env := (N5 κ).au 116 (aW NH gI K6)
theorem PK (κ : Kp) : ay (PA κ) := (Wr κ).au (RQ κ) (Yl κ)
theorem R9 (κ : Kp) : ah (PA κ) := (RQ κ).au aH
end Go.Proofs.YtdpmikfheebicaaGreatDoor
