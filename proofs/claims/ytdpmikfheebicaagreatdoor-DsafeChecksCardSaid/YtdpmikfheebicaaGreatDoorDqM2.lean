import Derived.Test.YtdpmikfheebicaaGreatDoorDqM1
import Derived.Test.YtdpmikfheebicaaGreatDoorProg
import Derived.Test.YtdpmikfheebicaaGreatDoorChecked
import Derived.WalkKit
import Derived.LaidEql
import Derived.Stop.Asserts
import Derived.RowKitTokens
namespace Go.Proofs.YtdpmikfheebicaaGreatDoor
open Go Go.Dn Go.Rl Go.Proofs
attribute [local irreducible] a9 vc
set_option maxRecDepth 20000
def Pk : List (Nat × List (Nat × List (Nat × Option Nat))) := [
 (8, [(13, [(1, none), (2, none), (3, none), (7, none), (8, none), (11, none), (12, none), (13, none), (14, none)]), (14004, [(1, none), (2, none), (3, none), (7, none), (8, none), (11, none), (12, none), (13, none)]), (14001, [(6, none)]), (10, [(1, none), (2, none), (3, none), (7, none), (8, none), (11, none), (12, none), (13, none)]), (11002, [(1, none), (2, none), (3, none), (7, none), (8, none), (11, none), (12, none)]), (11001, [(6, none)])]),
 (11, [(8, [(1, none), (3, none), (5, none)]), (9004, [(1, none), (3, none)]), (3, [(1, none), (3, none), (4, none)]), (4002, [(1, none), (3, none)]), (4001, [(2, none)])]),
 (12, [(5, [(20, none), (21, none), (22, none)]), (6002, []), (6001, [(2, none), (3, none)])]),
 (13, [(5, [(1, none), (6, none)]), (6002, []), (6001, [(2, none), (3, none)])]),
 (15, [(15, [(7, none), (10, none), (11, none), (13, none), (49, none), (50, none), (51, none)]), (16004, [(7, none), (10, none), (11, none), (13, none)]), (11, [(7, none), (10, some 48), (11, none), (12, none)]), (12002, [(10, none)])]),
 (16, [(25, [(7, none), (14, none), (15, none), (18, none), (19, none)]), (26006, [(7, none), (14, none), (15, none), (18, none)]), (19, [(7, none), (14, some 48), (15, none), (16, none)]), (20004, [(14, none)]), (6, [(1, none), (7, none), (8, none)]), (7002, [(7, none)]), (7001, [(2, none), (3, none), (4, none)])]),
 (17, [(4, [(0, none), (1, none), (5, none)]), (5002, []), (5001, [(4, none)])]),
 (20, [(5, [(0, none), (1, none), (5, none), (6, none)]), (6004, [(0, none), (1, none), (5, none)]), (6001, [(4, none)]), (2, [(0, none), (1, none), (5, none)]), (3002, []), (3001, [(4, none)])]),
 (28, [(4, [(0, none), (1, none), (5, none)]), (5002, []), (5001, [(4, none)])]),
 (29, [(2, [(0, none), (3, none)]), (3002, []), (3001, [(2, none)])]),
 (30, [(3, [(1, none), (2, none), (5, none)]), (4002, [(1, none)])]),
 (31, [(11, [(1, none), (38, none), (39, none), (40, none)]), (12004, []), (12001, [(2, none), (3, none)]), (4, [(1, none), (16, none), (17, none), (18, none)]), (5002, [(1, none)]), (5001, [(2, none), (3, none)])]),
 (32, [(11, [(1, none), (8, none)]), (12004, []), (12001, [(2, none), (3, none)]), (5, [(1, none), (5, none)]), (6002, [(1, none)]), (6001, [(2, none), (3, none)])]),
 (36, [(8, [(3, none), (45, none), (46, none)]), (9004, [(3, none)])]),
 (37, [(2, [(0, none), (3, none), (11, none), (12, none), (13, none)]), (3002, []), (3001, [(4, none), (5, none)])]),
 (38, [(6, [(0, none), (1, none), (5, none), (11, none), (12, none), (25, none)]), (7004, [(5, none)]), (7003, [(0, none), (1, none), (11, none), (12, none)]), (2, [(0, none), (1, none), (11, none), (12, none)]), (3002, []), (3001, [(4, none)])]),
 (39, [(3, [(0, none), (1, none), (5, some 3), (11, none), (12, none)]), (4002, [(5, none)])]),
 (40, [(19, [(3, none), (4, none), (8, none), (9, none), (10, none)]), (20010, [(3, none), (4, none), (8, none), (9, none)]), (16, [(3, none), (4, none), (8, none), (9, none)]), (17008, [(3, none), (4, none), (8, none)]), (13, [(3, none), (4, none), (8, none)]), (14006, [(4, none)]), (8, [(1, none), (3, none), (4, none), (5, none), (6, none), (7, none)]), (9004, [(1, none), (3, none), (4, none), (5, none), (6, none)]), (4, [(1, none), (3, none), (4, some 47), (5, none)]), (5002, [(3, none), (4, none)])]),
 (41, [(3, [(1, none), (3, none), (5, none), (7, none), (9, none)]), (4002, []), (4001, [(6, none)])]),
 (42, [(3, [(1, none), (3, none), (5, none), (7, none), (9, none)]), (4002, []), (4001, [(6, none)])]),
 (43, [(5, [(1, none), (4, none), (6, none)]), (6002, []), (6001, [(2, none), (3, none)])]),
 (44, [(2, [(0, none), (1, none), (2, none), (7, none)]), (3002, []), (3001, [(6, none)])]),
 (45, [(3, [(0, none), (1, none), (5, some 3), (6, none)]), (4002, [(5, none)])]),
 (50, [(2, [(1, none), (2, none), (3, none), (7, none)]), (3002, []), (3001, [(6, none)])]),
 (57, [(4, [(1, none), (2, none), (5, none)]), (5002, [(1, none)])]),
 (58, [(5, [(1, none), (2, none), (5, none)]), (6002, [(1, none)])]),
 (61, [(11, [(6, none), (8, some 3), (36, none), (37, none), (38, none)]), (12004, [(8, none)]), (12001, [(4, none), (5, none)]), (4, [(3, none), (6, none)]), (5002, [(3, none), (6, none)]), (5001, [(4, none), (5, none)])]),
 (62, [(10, [(1, none), (5, none)]), (11004, []), (11001, [(2, none)]), (4, [(1, none), (3, none)]), (5002, [(1, none)]), (5001, [(2, none)])]),
 (63, [(2, [(0, none), (1, none), (6, none)]), (3002, []), (3001, [(4, none), (5, none)])]),
 (64, [(23, [(0, none), (3, none), (9, none), (10, none), (14, none)]), (24008, [(0, none), (3, none), (9, none), (10, none)]), (24001, [(4, none), (5, none)]), (18, [(0, none), (3, none), (9, none), (10, none), (11, none), (12, none)]), (19006, [(0, none), (3, none), (9, none), (10, none), (11, none)]), (15, [(0, none), (3, none), (9, none), (10, none), (11, none)]), (16004, [(0, none), (3, none), (9, none), (10, none)]), (6, [(0, none), (3, none), (7, none), (8, none)]), (7002, [(0, none), (3, none), (7, none)])]),
 (65, [(11, [(1, none), (6, none)]), (12004, []), (12001, [(2, none)]), (5, [(1, none), (4, none)]), (6002, [(1, none)]), (6001, [(2, none)])]),
 (66, [(4, [(1, none), (2, none), (7, none), (8, some 3), (9, some 1000000009)]), (5002, [(8, none), (9, none)]), (5001, [(4, none), (5, none), (6, none)])]),
 (67, [(2, [(0, none), (1, none), (5, none)]), (3002, []), (3001, [(4, none)])]),
 (68, [(3, [(1, none), (3, some 1000000009), (4, none)]), (4002, [(3, none)])]),
 (71, [(3, [(0, none), (5, none), (6, some 3)]), (4002, [(5, none)])]),
 (75, [(2, [(0, none), (1, none), (7, none), (8, none)]), (3002, []), (3001, [(4, none)])]),
 (76, [(2, [(1, none), (2, none), (5, none)]), (3002, []), (3001, [(4, none)])]),
 (81, [(1, [(0, none), (6, none), (7, none), (8, none)]), (2002, [])]),
 (84, [(3, [(3, some 9), (6, none), (7, none), (8, none)]), (4002, [(3, none)])]),
 (85, [(12, [(6, none), (26, none), (27, none), (28, none)]), (13004, [(6, none)]), (3, [(0, none), (3, none), (9, none), (10, none), (11, none)]), (4002, [(0, none), (3, none)])]),
 (87, [(17, [(1, none), (2, none), (43, none), (44, none), (45, none)]), (18005, []), (18001, [(6, none)]), (1, [(0, none), (1, none), (2, none)]), (2001, [(6, none)])]),
 (90, [(4, [(1, none), (31, none), (32, none), (33, none)]), (5002, []), (5001, [(2, none)])]),
 (93, [(2, [(0, none), (1, none), (7, none), (8, none)]), (3002, []), (3001, [(4, none)])]),
 (95, [(3, [(0, none), (5, none), (14, none), (15, none), (16, none)]), (4002, [(5, none)]), (4001, [(4, none)])]),
 (98, [(5, [(1, none), (4, none)]), (6002, []), (6001, [(2, none)])]),
 (100, [(6, [(1, none), (4, some 1000000009), (5, none)]), (7002, [(4, none)])]),
 (101, [(4, [(0, none), (2, none), (3, none), (5, none), (9, none), (11, none), (12, none)]), (5002, [(11, none)])]),
 (103, [(3, [(0, none), (2, none), (3, none), (5, none), (9, none), (10, none)]), (4002, [(9, none)])]),
 (104, [(5, [(1, none), (4, none)]), (6002, []), (6001, [(2, none)])]),
 (107, [(5, [(1, none), (2, none), (3, none), (7, none), (8, none)]), (6004, [(1, none), (2, none), (3, none), (7, none)]), (6001, [(6, none)]), (2, [(1, none), (2, none), (3, none), (7, none)]), (3002, []), (3001, [(6, none)])]),
 (108, [(3, [(1, none), (5, some 9), (6, none)]), (4002, [(5, none)])]),
 (111, [(3, [(1, none), (5, some 9), (6, none)]), (4002, [(5, none)])]),
 (112, [(5, [(1, none), (3, some 1000000009), (4, none)]), (6002, [(3, none)])]),
 (113, [(5, [(0, none), (1, none), (5, none), (12, none), (13, none), (14, none), (28, none), (29, none), (30, none)]), (6004, [(0, none), (1, none), (12, none), (13, none), (14, none)]), (6001, []), (1, [(0, none), (1, none), (12, none), (13, none), (14, none)]), (2002, []), (2001, [])]),
 (119, [(2, [(0, none), (1, none), (7, none), (8, none)]), (3002, []), (3001, [(4, none)])]),
 (120, [(7, [(0, none), (57, none), (58, none), (59, none)]), (8004, []), (8001, []), (2, [(0, none), (1, none), (25, none), (26, none), (27, none)]), (3002, [(0, none), (1, none)]), (3001, [])]),
 (121, [(4, [(24, none), (25, none), (26, none)]), (5002, []), (5001, [(2, none)])]),
 (125, [(3, [(0, none), (1, none), (3, none), (4, none), (13, none), (14, none)]), (4002, []), (4001, [])]),
 (126, [(3, [(1, none), (2, none), (3, none), (7, none), (11, none), (12, none), (13, none)]), (4002, [(7, none)]), (4001, [(6, none)])]),
 (127, [(4, [(1, none), (2, none), (5, none), (17, none), (18, none), (19, none)]), (5002, [(1, none), (2, none), (5, none)])]),
 (131, [(4, [(18, none)]), (5002, []), (5001, [(2, none)])]),
 (132, [(2, [(0, none), (1, none), (7, none), (8, none)]), (3002, []), (3001, [(4, none)])]),
 (133, [(7, [(0, none), (5, none), (40, none), (41, none), (42, none)]), (8003, []), (8001, [(4, none)])]),
 (136, [(4, [(0, none), (3, none)]), (5002, []), (5001, [(2, none)])]),
 (138, [(9, [(2, none), (3, none), (4, none), (10, none), (11, none)]), (10002, [(10, none)])]),
 (140, [(3, [(0, none), (2, none), (3, none), (5, none), (9, none), (11, none)]), (4002, []), (4001, [(8, none)])]),
 (142, [(8, [(1, none), (2, none), (5, none)]), (9002, []), (9001, [(4, none)])]),
 (146, [(6, [(5, some 9), (6, none), (7, none), (8, none), (9, none)]), (7002, [(5, none)])]),
 (147, [(2, [(0, none), (1, none), (5, none)]), (3002, []), (3001, [(4, none)])]),
 (148, [(10, [(1, none), (49, none), (50, none), (51, none)]), (11003, []), (11001, [(4, none)])]),
 (149, [(2, [(5, none), (6, none), (7, none)]), (3002, []), (3001, [(2, none)])]),
 (153, [(5, [(0, none), (1, none), (5, none), (6, none)]), (6002, [(0, none), (5, none)])]),
 (155, [(2, [(0, none), (1, none), (7, none), (8, none)]), (3002, []), (3001, [(4, none)])]),
 (156, [(2, [(0, none), (2, none), (4, none), (12, none), (13, none), (14, none)]), (3002, [(0, none), (2, none), (4, none)]), (3001, [(6, none)])]),
 (158, [(8, [(2, none), (32, none), (33, none), (34, none)]), (9004, []), (9001, []), (3, [(2, none), (3, some 52), (14, none), (15, none), (16, none)]), (4002, [(2, none), (3, none)])]),
 (165, [(3, [(1, none), (3, some 1000000009), (4, none)]), (4002, [(3, none)])]),
 (166, [(3, [(1, none), (2, none), (5, some 1000000009), (6, none)]), (4002, [(5, none)])]),
 (168, [(3, [(3, some 9), (7, none), (8, none), (9, none)]), (4002, [(3, none)])]),
 (170, [(3, [(2, none), (11, none), (12, none), (13, none)]), (4002, []), (4001, [])]),
 (171, [(2, [(0, none), (1, none), (7, none), (8, none)]), (3002, []), (3001, [(4, none)])])
 ]
def Um (k : Nat) : List (Nat × List (Nat × Option Nat)) → List (Nat × Option Nat)
 | [] => []
 | (j, l) :: r => bif Nat.beq j k then l else Um k r
def TT (f k : Nat) : List (Nat × List (Nat × List (Nat × Option Nat))) → List (Nat × Option Nat)
 | [] => []
 | (g, l) :: r => bif Nat.beq g f then Um k l else TT f k r
def live (f k : Nat) : List (Nat × Option TypeId) := TT f k Pk
structure Kp where
 tree : Addr
 stuck : Addr
 T1 : TypeId
 T2 : TypeId
 z1 : Nat × Nat
 z2 : Nat × Nat
 fw : Addr
 arity : Addr
 type : Addr
 T3 : TypeId
 T4 : TypeId
 T5 : TypeId
 z3 : Nat × Nat
 z4 : Nat × Nat
 z5 : Nat × Nat
 c3 : Array Value
 c4 : Array Value
 c5 : Array Value
 t3 : TypeId
 t4 : TypeId
 t5 : TypeId
 d1 : fw ≠ arity
 d2 : fw ≠ type
 d3 : arity ≠ type
 n3 : ∀ g, g ∈ [1, 0, 3, 4, 2] → fw.block ≠ g
 n4 : ∀ g, g ∈ [1, 0, 3, 4, 2] → arity.block ≠ g
 n5 : ∀ g, g ∈ [1, 0, 3, 4, 2] → type.block ≠ g
def QM (κ : Kp) : Value := .iface 189 (.pointer (some κ.tree))
def lB (κ : Kp) : Value := .iface 189 (.pointer (some κ.stuck))
def xz (κ : Kp) (b : Nat) : Option Go.Obj :=
 bif Nat.beq b 1 then some (.cells #[.iface 189 (.pointer (some κ.tree))] κ.T1 κ.z1)
 else bif Nat.beq b 0 then some (.cells #[.iface 189 (.pointer (some κ.stuck))] κ.T2 κ.z2)
 else bif Nat.beq b 3 then some (.cells #[.iface 189 (.pointer (some κ.fw))] κ.T3 κ.z3)
 else bif Nat.beq b 4 then some (.cells #[.iface 189 (.pointer (some κ.arity))] κ.T4 κ.z4)
 else bif Nat.beq b 2 then some (.cells #[.iface 189 (.pointer (some κ.type))] κ.T5 κ.z5)
 else bif Nat.beq b κ.fw.block then some (.cells κ.c3 κ.t3 (0, 0))
 else bif Nat.beq b κ.arity.block then some (.cells κ.c4 κ.t4 (0, 0))
 else bif Nat.beq b κ.type.block then some (.cells κ.c5 κ.t5 (0, 0))
 else none
def ay (κ : Kp) (ok : Bool) : Value := bif ok then .nilIface else .iface 189 (.pointer (some κ.tree))
theorem lV (κ : Kp) (b : Bool) : aC (ay κ b) = true := by cases b <;> rfl
theorem pH (κ : Kp) (b : Bool) : bF (ay κ b) = b := by cases b <;> rfl
theorem mP (κ : Kp) (b : Bool) : ba (ay κ b) = true := by cases b <;> rfl
noncomputable abbrev Pr (κ : Kp) : Pg := { toProgram := Tryz.prog, kept := xz κ }
theorem wq : pD Tryz.prog := KV (by kernel_rfl)
def Ss : List Nat := [79, 129, 155, 130, 160, 135, 159, 80, 154, 999999, 88, 93, 89, 91, 132, 92, 94, 77, 119, 78, 70, 115]
def St : List Nat := [153, 126, 107, 138, 101, 102, 139]
def Na : List Nat := [123, 131, 167, 150, 151, 122, 148, 121, 124, 149, 54, 169, 171, 117, 110, 147, 28, 11, 58, 57, 30, 29, 999999, 25, 26, 161, 162, 136, 105, 164, 142, 104, 143, 144, 106, 65, 999999, 67, 74, 145, 90, 59, 98, 62, 99, 163, 140, 141, 103, 96, 114, 53, 72, 48, 75, 69, 34, 14, 10]
def M8 : List Nat := [84, 168, 128, 97, 61, 64]
noncomputable def E0 (κ : Kp) : Env := (Env.none (Pr κ) live (fun f => mw f Ss) (fun f => mw f St) (fun f => mw f Na)).iH (fun f => mw f M8)
theorem e0 (κ : Kp) : aw (E0 κ) := (aw.none wq).iH _
theorem m0 (κ : Kp) : ai (E0 κ) := ai.none.iH _
theorem y48 (κ : Kp) (op : Int) (K : AV → List Dn.Obj → Prop) : (a9 (E0 κ) 12 123 [.int op] [] K) = (
 ax (op == (5 : Int)) (K (AV.bool true) []) (ax (op == (6 : Int)) (K (AV.bool true) []) (K (AV.bool (op == (7 : Int))) []))) := by kernel_rfl
def NT : List AV → Option (Bool × AV)
 | [.lit (.int .i64 op)] => some (true, .bool (dV op))
 | _ => none
theorem Z7 (κ : Kp) : bM (E0 κ) 12 123 NT := by
 intro args x h
 unfold NT at h
 split at h
 ·rename_i op
  simp only [aa3, aa9, true_and] at h
  subst h
  refine ⟨_, rfl, rfl, ?_⟩
  rw [y48]
  unfold dV
  by_cases h1 : op = 5 <;> by_cases h2 : op = 6 <;> by_cases h3 : op = 7 <;> simp [af, h1, h2, h3] <;> omega
 ·cases h
noncomputable def K9 (κ : Kp) : Env := (E0 κ).au 123 NT
theorem VA (κ : Kp) : aw (K9 κ) := (e0 κ).au (m0 κ) (Z7 κ)
theorem T8 (κ : Kp) : ai (K9 κ) := (m0 κ).au
theorem x57 (κ : Kp) (s : ByteArray) (p : Nat) (I : Nat → S → Prop) (n : Nat) (K : Exit → S → Prop) : (vc (K9 κ) 12 131 none 0 (ag (Pr κ).toProgram 131 4) (sp 55 [(18, .ptr 0 0 [] 0)] [.db s p]) (bC (K9 κ) 131 4 0 I n K)) = (
 letI z1 := sp 55 [(18, AV.ptr 0 0 [] 0)] [Obj.db s (p + Prod.snd (Utf8.decode s p))]
 letI z2 := K Exit.ret (sp 55 [(2, AV.bool false)] [])
 letI z3 := Prod.fst (Utf8.decode s p)
 letI z4 := decide ((↑z3 : Int) < (48 : Int))
 letI z5 := decide ((↑z3 : Int) > (57 : Int))
 letI z6 := decide ((↑z3 : Int) ≥ (65 : Int))
 letI z7 := decide ((↑z3 : Int) ≤ (90 : Int))
 ax (Nat.blt p (ByteArray.size s)) (ax (decide ((↑z3 : Int) ≥ (97 : Int))) (ax (decide ((↑z3 : Int) ≤ (122 : Int))) (∃ (m : Nat), m < n ∧ I m z1) (ax z6 (ax z7
 (∃ (m : Nat), m < n ∧ I m z1) (ax (!(↑z3 : Int) == (95 : Int)) (ax ((↑p : Int) == (0 : Int)) z2 (ax z4 z2 (ax z5 z2 (∃ (m : Nat), m < n ∧ I m z1)))) (∃ (m :
 Nat), m < n ∧ I m z1))) (ax (!(↑z3 : Int) == (95 : Int)) (ax ((↑p : Int) == (0 : Int)) z2 (ax z4 z2 (ax z5 z2 (∃ (m : Nat), m < n ∧ I m z1)))) (∃ (m : Nat), m <
 n ∧ I m z1)))) (ax z6 (ax z7 (∃ (m : Nat), m < n ∧ I m z1) (ax (!(↑z3 : Int) == (95 : Int)) (ax ((↑p : Int) == (0 : Int)) z2 (ax z4 z2 (ax z5 z2 (∃ (m : Nat), m
 < n ∧ I m z1)))) (∃ (m : Nat), m < n ∧ I m z1))) (ax (!(↑z3 : Int) == (95 : Int)) (ax ((↑p : Int) == (0 : Int)) z2 (ax z4 z2 (ax z5 z2 (∃ (m : Nat), m < n ∧ I m
 z1)))) (∃ (m : Nat), m < n ∧ I m z1)))) (K (Exit.exit 0) (sp 55 [] []))) := by kernel_rfl
abbrev Mo (a : ByteArray × Nat) : S := sp 55 [(18, .ptr 0 0 [] 0)] [.db a.1 a.2]
noncomputable def Bd (a : ByteArray × Nat) : Out (Exit × S) :=
 .ax (nameAt a.1 a.2) (.one (.exit 0, sp 55 [] [])) (.one (.ret, sp 55 [(2, .bool false)] []))
theorem Zk (κ : Kp) : bg (K9 κ) 12 131 4 (aK 0 Mo (fun _ => True) Bd) := by
 refine aO (fun a => a.1.size - a.2) ?_
 rintro ⟨s, p⟩ K - ho
 rw [show (K9 κ).P = Pr κ from rfl, x57]
 simp only [Bd, Out.run, af] at ho
 have hgo : ∀ c : Int, c = (Utf8.decode s p).1 → p < s.size → (letter c || (!(decide ((p : Int) = 0) || decide (c < 48) || decide ((57 : Int) < c)))) = true →
   ∃ m, m < s.size - p ∧ fp Mo (fun _ => True) Bd (fun a => a.1.size - a.2) K m (sp 55 [(18, .ptr 0 0 [] 0)] [.db s (p + (Utf8.decode s p).2)]) := by
  rintro c rfl hp hc
  have := wg s p
  refine ⟨s.size - (p + (Utf8.decode s p).2), by omega, (s, p + (Utf8.decode s p).2), rfl, trivial, rfl, ?_⟩
  rw [nameAt, dif_pos hp, hc, ac0] at ho
  simpa only [Bd, Out.run, af] using ho
 have hno : ∀ c : Int, c = (Utf8.decode s p).1 → p < s.size → (letter c || (!(decide ((p : Int) = 0) || decide (c < 48) || decide ((57 : Int) < c)))) = false → K Exit.ret (sp 55 [(2, .bool false)] []) := by
  rintro c rfl hp hc
  rw [nameAt, dif_pos hp, hc, Bool.false_and] at ho
  exact ho.2 rfl
 have hgo := hgo _ rfl
 have hno := hno _ rfl
 generalize ((Utf8.decode s p).1 : Int) = c at *
 simp only [af, Nat.blt_eq, aa0, aa2, beq_iff_eq, beq_eq_false_iff_ne, Bool.not_eq_true', ab2, bne_iff_ne]
 refine ⟨fun hp => ?_, fun hp => ho.1 ?_⟩
 ·have hgo := hgo hp
  have hno := hno hp
  simp only [letter, ab6, aa1, Bool.not_eq_true', Bool.or_eq_false_iff, Bool.and_eq_false_iff, ab2, aa0, aa2] at hgo hno
  repeat' (first | apply And.intro | intro _)
  all_goals first | (refine hgo ?_; omega) | (refine hno ?_; omega)
 ·have hp : ¬ p < s.size := fun h => by rw [show Nat.blt p s.size = true from by rw [Nat.blt_eq]; exact h] at hp; cases hp
  rw [nameAt, dif_neg hp]
noncomputable def Hn (κ : Kp) : Env := (K9 κ).aj 131 4 (aK 0 Mo (fun _ => True) Bd)
theorem SJ (κ : Kp) : aw (Hn κ) := (VA κ).aj (T8 κ) (Zk κ)
theorem PI (κ : Kp) : ai (Hn κ) := (T8 κ).aj aE
theorem XT (κ : Kp) (s : ByteArray) (K : AV → List Dn.Obj → Prop) : (a9 (Hn κ) 12 131 [.lit (.string s)] [] K) = (
 letI z1 := K (AV.bool false) []
 letI z2 := Pg.toProgram (Env.P (K9 κ))
 ax (ByteArray.toList s == ByteArray.toList { data := #[] }) z1 (ax (ByteArray.toList s == ByteArray.toList { data := #[OfNat.ofNat 95] }) z1 (ax (decide ((↑(ByteArray.size s) : Int) > (40 : Int))) z1 (ag z2 131 4 = ag z2 131 4 ∧ ∃ (a : ByteArray × Nat), sp 55 [(18, AV.ptr 0 0 [] 0)] [Obj.db s 0] = sp 55 [(18, AV.ptr 0 0 [] 0)] [Obj.db a.1 a.2] ∧ True ∧ ax (nameAt a.1 a.2) (K (AV.bool true) []) z1)))) := by kernel_rfl
def NZ : List AV → Option (Bool × AV)
 | [.lit (.string s)] => some (true, .bool (isName s))
 | _ => none
theorem p57 (κ : Kp) : bM (Hn κ) 12 131 NZ := by
 intro args x h
 unfold NZ at h
 split at h
 ·rename_i s
  simp only [aa3, aa9, true_and] at h
  subst h
  refine ⟨_, rfl, rfl, ?_⟩
  rw [XT]
  unfold isName gC
  simp only [af, aa0, aa2]
  refine ⟨fun h1 => by rw [h1]; rfl, fun h1 => ⟨fun h2 => by rw [h1, h2]; rfl, fun h2 => ⟨fun h3 => ?_, fun h3 => ⟨trivial, ⟨s, 0⟩, rfl, trivial, fun h4 => ?_, fun h4 => ?_⟩⟩⟩⟩
  ·rw [h1, h2, aa6 (show (40 : Int) < s.size from h3)]; rfl
  ·rw [h1, h2, aa4 (show ¬ (40 : Int) < s.size from h3), h4]; rfl
  ·rw [h1, h2, aa4 (show ¬ (40 : Int) < s.size from h3), h4]; rfl
 ·cases h
noncomputable def Ow (κ : Kp) : Env := (Hn κ).au 131 NZ
theorem Wy (κ : Kp) : aw (Ow κ) := (SJ κ).au (PI κ) (p57 κ)
theorem UW (κ : Kp) : ai (Ow κ) := (PI κ).au
theorem y64 (κ : Kp) (op : Int) (s : ByteArray) (n : Int) (l : List AV) (K : AV → List Dn.Obj → Prop) : (a9 (Ow κ) 12 167 [.agg [.int op, .lit (.string s), .int n, .ae 52 l]] [] K) = (
 letI z1 := K (AV.bool (n == (0 : Int))) []
 letI z2 := K (AV.bool false) []
 letI z3 := ByteArray.toList s == ByteArray.toList { data := #[] }
 ax (op == (1 : Int)) (ax (isName s) z1 z2) (ax (op == (2 : Int)) (K (AV.bool z3) []) (ax (op == (3 : Int)) z1 (ax (op == (4 : Int)) (ax z3 z1 z2) (ax (op == (0 : Int)) (ax (ByteArray.toList s == ByteArray.toList {data := #[] }) z1 z2) z2))))) := by kernel_rfl
def SV : List AV → Option (Bool × AV)
 | [.agg [.lit (.int .i64 op), .lit (.string s), .lit (.int .i64 n), .ae 52 _]] => some (true, .bool (bare op s n))
 | _ => none
theorem VP (κ : Kp) : bM (Ow κ) 12 167 SV := by
 intro args x h
 unfold SV at h
 split at h
 ·rename_i op s n l
  simp only [aa3, aa9, true_and] at h
  subst h
  refine ⟨_, rfl, rfl, ?_⟩
  rw [y64]
  have e : ∀ k : Int, (op == k) = decide (op = k) := fun k => by by_cases h : op = k <;> simp [h]
  simp only [e]
  cases h5 : isName s <;> cases h6 : (ByteArray.toList s == ByteArray.toList (ByteArray.mk #[])) <;>
  by_cases h1 : op = 1 <;> by_cases h2 : op = 2 <;> by_cases h3 : op = 3 <;> by_cases h4 : op = 4 <;> by_cases h0 : op = 0 <;>
  first | omega | (simp only [ax, bare, gC, h5, h6, h1, h2, h3, h4, h0]; rfl) | (simp [ax, bare, gC, h5, h6, h1, h2, h3, h4, h0]; done) | (simp [ax, bare, gC, h5, h6, h1, h2, h3, h4, h0]; rfl) | skip
 ·cases h
noncomputable def K8 (κ : Kp) : Env := (Ow κ).au 167 SV
theorem Q3 (κ : Kp) : aw (K8 κ) := (Wy κ).au (UW κ) (VP κ)
theorem m64 (κ : Kp) : ai (K8 κ) := (UW κ).au
theorem HD (l : List AV) : ((l.length : Int) == 0) = decide ((l.length : Int) = 0) := by
 cases h : decide ((l.length : Int) = 0) with
 | true => rw [aa0] at h; rw [h]; rfl
 | false => rw [aa2] at h; exact beq_eq_false_iff_ne.2 h
theorem y60 (κ : Kp) (op : Int) (s : ByteArray) (n : Int) (l : List AV) (K : AV → List Dn.Obj → Prop) : (a9 (K8 κ) 12 150 [.agg [.int op, .lit (.string s), .int n, .ae 52 l]] [] K) = (
 ax (op == (0 : Int)) (ax (bare op s n) (K (AV.bool ((↑(l.length) : Int) == (0 : Int))) []) (K (AV.bool false) [])) (K (AV.bool false) [])) := by kernel_rfl
theorem YP (κ : Kp) (s : ByteArray) (l : List AV) (K : AV → List Dn.Obj → Prop) : (a9 (K8 κ) 12 151 [.agg [.lit (.string s), .ae 52 l]] [] K) = (
 ax (ByteArray.toList s == ByteArray.toList { data := #[] }) (K (AV.bool ((↑(l.length) : Int) == (0 : Int))) []) (K (AV.bool false) [])) := by kernel_rfl
theorem y47 (κ : Kp) (b : Bool) (K : AV → List Dn.Obj → Prop) : (a9 (K8 κ) 12 122 [.bool b] [] K) = (
 ax b (K (AV.lit Value.nilIface) []) (K (AV.lit (Value.iface 189 (Value.pointer (some (Kp.tree κ))))) [])) := by kernel_rfl
def NF : List AV → Option (Bool × AV)
 | [.agg [.lit (.int .i64 op), .lit (.string s), .lit (.int .i64 n), .ae 52 l]] => some (true, .bool (decide (op = 0) && bare op s n && decide ((l.length : Int) = 0)))
 | _ => none
theorem p60 (κ : Kp) : bM (K8 κ) 12 150 NF := by
 intro args x h
 unfold NF at h
 split at h
 ·rename_i op s n l
  simp only [aa3, aa9, true_and] at h
  subst h
  refine ⟨_, rfl, rfl, ?_⟩
  rw [y60]
  rw [HD]
  cases h5 : bare op s n <;> by_cases h0 : op = 0 <;> simp [af, h5, h0] <;> first | rfl | skip
 ·cases h
def NL : List AV → Option (Bool × AV)
 | [.agg [.lit (.string s), .ae 52 l]] => some (true, .bool (gC s (ByteArray.mk #[]) && decide ((l.length : Int) = 0)))
 | _ => none
theorem p61 (κ : Kp) : bM (K8 κ) 12 151 NL := by
 intro args x h
 unfold NL at h
 split at h
 ·rename_i s l
  simp only [aa3, aa9, true_and] at h
  subst h
  refine ⟨_, rfl, rfl, ?_⟩
  rw [YP]
  unfold gC
  rw [HD]
  cases h5 : (ByteArray.toList s == ByteArray.toList (ByteArray.mk #[])) <;> simp [af] <;> first | rfl | skip
 ·cases h
def Sx (κ : Kp) : List AV → Option (Bool × AV)
 | [.lit (.bool b)] => some (true, .lit (ay κ b))
 | _ => none
theorem Vp (κ : Kp) : bM (K8 κ) 12 122 (Sx κ) := by
 intro args x h
 unfold Sx at h
 split at h
 ·rename_i b
  simp only [aa3, aa9, true_and] at h
  subst h
  refine ⟨_, rfl, mP κ b, ?_⟩
  rw [y47]
  cases b <;> rfl
 ·cases h
noncomputable def Q4 (κ : Kp) : Env := (((K8 κ).au 150 NF).au 151 NL).au 122 (Sx κ)
theorem Ug (κ : Kp) : aw (Q4 κ) := (((Q3 κ).dp (nz (Q3 κ) (m64 κ) (p60 κ))).dp (nz (Q3 κ) (m64 κ) (p61 κ))).dp (nz (Q3 κ) (m64 κ) (Vp κ))
theorem UO (κ : Kp) : ai (Q4 κ) := (((m64 κ).au).au).au
def Mi (κ : Kp) : List AV → Option (Bool × AV)
 | [.agg [.lit (.int .i64 op), .lit (.string s), .lit (.int .i64 n), .ae 52 l], .lit (.int .i64 h)] => some (decide (0 ≤ h) && decide (h ≤ 1000), .lit (ay κ (ak h.toNat (.mk op s n (aa l)))))
 | _ => none
def qp : List AV → Nat
 | [_, .lit (.int .i64 h)] => h.toNat
 | _ => 0
noncomputable def yS (κ : Kp) (n : Nat) : Env := (Q4 κ).au 148 (below (Mi κ) qp n)
theorem x58 (κ : Kp) (r : Nat) (h : Int) (l : List AV) (i : Int) (I : Nat → S → Prop) (n : Nat) (K : Exit → S → Prop) : (vc (yS κ r) 12 148 none 0 (ag (Pr κ).toProgram 148 10) (sp 72 [(1, .int h), (49, .ae 52 l), (50, .int l.length), (51, .int i)] []) (bC (yS κ r) 148 10 0 I n K)) = (
 letI z2 := nth l i.toNat
 letI z3 := K Exit.ret (sp 72 [(4, AV.lit (Value.iface 189 (Value.pointer (some (Kp.tree κ)))))] [])
 letI z5 := h - (1 : Int)
 letI z4 := IntKind.wrap IntKind.i64 z5
 letI z1 := ay κ (ak (Int.toNat z4) (Tm.mk (toInt (ad z2 0)) (toStr (ad z2 1)) (toInt (ad z2 2)) (aa (ah (ad z2 3)))))
 ax (decide (i < (↑(l.length) : Int))) (aZ (decide ((0 : Int) ≤ i) && decide (i < (↑(l.length) : Int))) (ax (toInt (ad z2 0) == (3 : Int)) z3 (ax (toInt (ad z2
 0) == (4 : Int)) z3 (aZ (decide ((0 : Int) ≤ IntKind.wrap IntKind.i64 z5) && decide (IntKind.wrap IntKind.i64 z5 ≤ (1000 : Int)) && Nat.blt (qp [AV.agg [AV.int
 (toInt (ad z2 0)), AV.str (toStr (ad z2 1)), AV.int (toInt (ad z2 2)), AV.ae 52 (ah (ad z2 3))], AV.int z4]) r) (aZ (aC z1) (ax (!bF z1) (K Exit.ret (sp 72 [(4,
 AV.lit z1)] [])) (∃ (m : Nat), m < n ∧ I m (sp 72 [(1, AV.int h), (49, AV.ae 52 l), (50, AV.int (↑(l.length) : Int)), (51, AV.int (IntKind.wrap IntKind.i64 (i +
 (1 : Int))))] [])))))))) (K (Exit.exit 1) (sp 72 [] []))) := by kernel_rfl
abbrev Pv (a : Int × List AV × Int) : S := sp 72 [(1, .int a.1), (49, .ae 52 a.2.1), (50, .int a.2.1.length), (51, .int a.2.2)] []
def Ht (r : Nat) (a : Int × List AV × Int) : Prop := 1 ≤ a.1 ∧ a.1 ≤ 1000 ∧ a.1.toNat ≤ r ∧ a.2.1.length ≤ aI ∧ 0 ≤ a.2.2 ∧ a.2.2 ≤ a.2.1.length
noncomputable def Fj (κ : Kp) (a : Int × List AV × Int) : Out (Exit × S) :=
 .ax (fc (a.1 - 1).toNat (aa (a.2.1.drop a.2.2.toNat))) (.one (.exit 1, sp 72 [] [])) (.one (.ret, sp 72 [(4, .lit (ay κ false))] []))
theorem Xt (κ : Kp) (r : Nat) : bg (yS κ r) 12 148 10 (aK 0 Pv (Ht r) (Fj κ)) := by
 refine aO (fun a => a.2.1.length - a.2.2.toNat) ?_
 rintro ⟨h, l, i⟩ K ⟨h1, h2, h3, h4, h5, h6⟩ ho
 simp only at h1 h2 h3 h4 h5 h6
 rw [show (yS κ r).P = Pr κ from rfl, x58]
 simp only [Fj, Out.run, af] at ho
 rw [aU (n := h - 1) (by omega) (by omega)]
 simp only [aI] at h4
 simp only [lV, pH]
 simp only [← bX]
 simp only [af, aq, aa0, aa2, aa1, beq_iff_eq, beq_eq_false_iff_ne, Bool.not_eq_true', ab2, qp, Nat.blt_eq]
 refine ⟨fun hi => ⟨⟨h5, hi⟩, ?_⟩, fun hi => ho.1 ?_⟩
 ·have e := cy l i.toNat (by omega)
  rw [e] at ho
  have hop : (bI (nth l i.toNat)).op = toInt (ad (nth l i.toNat) 0) := by rw [bX]; rfl
  simp only [fc, ac1, hop] at ho
  refine ⟨fun ha => ho.2 (by simp [ha]), fun ha => ⟨fun hb => ho.2 (by simp [hb]), fun hb => ⟨⟨⟨by omega, by omega⟩, by omega⟩, trivial, fun hc => ?_, fun hc => ?_⟩⟩⟩
  ·rw [hc]; exact ho.2 (by rw [hc]; simp)
  ·rw [aU (n := i + 1) (by omega) (by omega)]
   refine ⟨_, ?_, (h, l, i + 1), rfl, ⟨h1, h2, h3, by simpa [aI] using h4, by simp only; omega, by simp only; omega⟩, rfl, ?_⟩
   ·simp only; omega
   ·rw [hc] at ho
    simp only [Fj, Out.run, af, fc]
    rw [show (i + 1).toNat = i.toNat + 1 by omega]
    simpa [ha, hb] using ho
 ·rw [aa8 (by omega)]; rfl
noncomputable def Gi (κ : Kp) (r : Nat) : Env := (yS κ r).aj 148 10 (aK 0 Pv (Ht r) (Fj κ))
theorem y58 (κ : Kp) (r : Nat) (op : Int) (s : ByteArray) (n : Int) (l : List AV) (h : Int) (K : AV → List Dn.Obj → Prop) : (a9 (Gi κ r) 12 148 [.agg [.int op, .lit (.string s), .int n, .ae 52 l], .int h] [] K) = (
 letI z1 := K (AV.lit (Value.iface 189 (Value.pointer (some (Kp.tree κ))))) []
 letI z2 := Pg.toProgram (Env.P (yS κ r))
 letI z3 := K (AV.lit Value.nilIface) []
 letI z4 := (0 : Int)
 ax (h == z4) z1 (ax (op == z4) z1 (ax (!dV op) (ax (!bare op s n) z1 (ax (decide ((↑(l.length) : Int) > z4)) z1 z3)) (ax (!ByteArray.toList s == ByteArray.toList { data := #[] }) z1 (ax (n != z4) z1 (ax ((↑(l.length) : Int) != (2 : Int)) z1 (ag z2 148 10 = ag z2 148 10 ∧ ∃ (a : Int × List AV × Int), sp 72 [(1, AV.int h), (49, AV.ae 52 l), (50, AV.int (↑(l.length) : Int)), (51, AV.int 0)] [] = sp 72 [(1, AV.int a.1), (49, AV.ae 52 a.2.1), (50, AV.int (↑(a.2.1.length) : Int)), (51, AV.int (a.2.2))] [] ∧ ((1 : Int) ≤ a.1 ∧ a.1 ≤ (1000 : Int) ∧ a.1.toNat ≤ r ∧ a.2.1.length ≤ 9223372036854775807 ∧ z4 ≤ a.2.2 ∧ a.2.2 ≤ (↑(a.2.1.length) : Int)) ∧ ax (fc (Int.toNat (a.1 - (1 : Int))) (aa (List.drop (Int.toNat (a.2.2)) a.2.1))) z3 z1))))))) := by kernel_rfl
theorem SF (κ : Kp) (r : Nat) (hp : fe (Pr κ) 148 (below (Mi κ) qp r)) : aw (Gi κ r) ∧ ai (Gi κ r) ∧ (Gi κ r).P = Pr κ :=
 have h : aw (yS κ r) := (Ug κ).dp hp
 have hm : ai (yS κ r) := (UO κ).au
 ⟨h.aj hm (Xt κ r), hm.aj aE, rfl⟩
theorem p58 (κ : Kp) (r : Nat) : bM (Gi κ r) 12 148 (fun xs => bif Nat.beq (qp xs) r then Mi κ xs else none) := by
 intro args x hh
 cases hb : Nat.beq (qp args) r with
 | false => simp only [hb] at hh; cases hh
 | true =>
  simp only [hb, aa7] at hh
  unfold Mi at hh
  split at hh
  ·rename_i op s n l h
   simp only [aa3, aa9, aa1, aa0] at hh
   obtain ⟨⟨h1, h2⟩, rfl⟩ := hh
   have hr : h.toNat = r := Nat.eq_of_beq_eq_true hb
   refine ⟨_, rfl, mP κ _, ?_⟩
   rw [y58]
   have ef : AV.lit (.iface 189 (.pointer (some κ.tree))) = .lit (ay κ false) := rfl
   have et : AV.lit .nilIface = .lit (ay κ true) := rfl
   rw [ef, et]
   by_cases h0 : h = 0
   ·subst h0; rfl
   ·obtain ⟨m, hm⟩ : ∃ m, h.toNat = m + 1 := ⟨h.toNat - 1, by omega⟩
    rw [hm, hN, cL]
    unfold gC
    generalize (ByteArray.toList s == ByteArray.toList (ByteArray.mk #[])) = z
    simp only [af, beq_iff_eq, beq_eq_false_iff_ne, Bool.not_eq_true', ab2, aa0, aa2, bne_iff_ne, bne_eq_false_iff_eq]
    refine ⟨fun e => absurd e h0, fun _ => ⟨fun e => by rw [aa6 e]; rfl, fun e => ?_⟩⟩
    rw [aa4 e, aa5]
    refine ⟨fun e2 => ?_, fun e2 => ?_⟩
    ·rw [e2, aa5]
     refine ⟨fun e3 => by rw [e3]; rfl, fun e3 => ⟨fun e4 => ?_, fun e4 => ?_⟩⟩
     ·rw [aa4 (show ¬ l.length = 0 by omega), Bool.and_false]
     ·rw [e3, aa6 (show l.length = 0 by omega)]; rfl
    ·rw [e2, aa7]
     refine ⟨fun e3 => by rw [e3]; rfl, fun e3 => ⟨fun e4 => by rw [e3, aa4 e4]; rfl, fun e4 => ⟨fun e5 => ?_, fun e5 => ?_⟩⟩⟩
     ·rw [aa4 (show ¬ l.length = 2 by omega)]; simp
     ·refine ⟨trivial, (h, l, 0), rfl, ⟨by simp only; omega, h2, by simp only; omega, by simp only; omega, by simp only; omega, by simp only; omega⟩, ?_⟩
      rw [e3, aa6 e4, aa6 (show l.length = 2 by omega)]
      simp only [show (h - 1).toNat = m by omega, ab8, ab0, ac0]
      exact ⟨fun e => by rw [e], fun e => by rw [e]⟩
  ·cases hh
theorem ZL (κ : Kp) : fe (Pr κ) 148 (Mi κ) := aw.me (Mi κ) qp (Gi κ) (SF κ) (p58 κ)
noncomputable def KS (κ : Kp) : Env := (Q4 κ).au 148 (Mi κ)
theorem YL (κ : Kp) : aw (KS κ) := (Ug κ).dp (ZL κ)
theorem S8 (κ : Kp) : ai (KS κ) := (UO κ).au
theorem Yt (κ : Kp) (l : List AV) (i : Int) (I : Nat → S → Prop) (n : Nat) (K : Exit → S → Prop) : (vc (KS κ) 12 121 none 0 (ag (Pr κ).toProgram 121 4) (sp 36 [(24, .ae 52 l), (25, .int l.length), (26, .int i)] []) (bC (KS κ) 121 4 0 I n K)) = (
 letI z2 := nth l i.toNat
 letI z1 := ay κ (ak 20 (Tm.mk (toInt (ad z2 0)) (toStr (ad z2 1)) (toInt (ad z2 2)) (aa (ah (ad z2 3)))))
 ax (decide (i < (↑(l.length) : Int))) (aZ (decide ((0 : Int) ≤ i) && decide (i < (↑(l.length) : Int))) (aZ (aC z1) (ax (!bF z1) (K Exit.ret (sp 36 [(2, AV.lit
 z1)] [])) (∃ (m : Nat), m < n ∧ I m (sp 36 [(24, AV.ae 52 l), (25, AV.int (↑(l.length) : Int)), (26, AV.int (IntKind.wrap IntKind.i64 (i + (1 : Int))))] [])))))
 (K (Exit.exit 0) (sp 36 [] []))) := by kernel_rfl
abbrev P0 (a : List AV × Int) : S := sp 36 [(24, .ae 52 a.1), (25, .int a.1.length), (26, .int a.2)] []
def JD (a : List AV × Int) : Prop := a.1.length ≤ aI ∧ 0 ≤ a.2 ∧ a.2 ≤ a.1.length
noncomputable def DQ (κ : Kp) (a : List AV × Int) : Out (Exit × S) :=
 .ax ((aa (a.1.drop a.2.toNat)).all (ak 20)) (.one (.exit 0, sp 36 [] [])) (.one (.ret, sp 36 [(2, .lit (ay κ false))] []))
theorem Vy (κ : Kp) : bg (KS κ) 12 121 4 (aK 0 P0 JD (DQ κ)) := by
 refine aO (fun a => a.1.length - a.2.toNat) ?_
 rintro ⟨l, i⟩ K ⟨h4, h5, h6⟩ ho
 simp only at h4 h5 h6
 rw [show (KS κ).P = Pr κ from rfl, Yt]
 simp only [DQ, Out.run, af] at ho
 simp only [aI] at h4
 simp only [lV, pH, ← bX]
 simp only [af, aq, aa0, aa2, aa1, beq_iff_eq, beq_eq_false_iff_ne, Bool.not_eq_true', ab2]
 refine ⟨fun hi => ⟨⟨h5, hi⟩, trivial, fun hc => ?_, fun hc => ?_⟩, fun hi => ho.1 ?_⟩
 ·rw [hc]
  rw [cy l i.toNat (by omega), ac1, hc, Bool.false_and] at ho
  exact ho.2 rfl
 ·rw [aU (n := i + 1) (by omega) (by omega)]
  refine ⟨_, ?_, (l, i + 1), rfl, ⟨by simpa [aI] using h4, by simp only; omega, by simp only; omega⟩, rfl, ?_⟩
  ·simp only; omega
  ·rw [cy l i.toNat (by omega), ac1, hc, ac0] at ho
   simp only [DQ, Out.run, af, show (i + 1).toNat = i.toNat + 1 by omega]
   exact ho
 ·rw [aa8 (by omega)]; rfl
noncomputable def I2 (κ : Kp) : Env := (KS κ).aj 121 4 (aK 0 P0 JD (DQ κ))
theorem SK (κ : Kp) : aw (I2 κ) := (YL κ).aj (S8 κ) (Vy κ)
theorem OE (κ : Kp) : ai (I2 κ) := (S8 κ).aj aE
theorem VY (κ : Kp) (s : ByteArray) (l : List AV) (K : AV → List Dn.Obj → Prop) : (a9 (I2 κ) 12 121 [.agg [.lit (.string s), .ae 52 l]] [] K) = (
 letI z1 := K (AV.lit (Value.iface 189 (Value.pointer (some (Kp.tree κ))))) []
 letI z2 := Pg.toProgram (Env.P (KS κ))
 ax (!isName s) z1 (ax ((↑(l.length) : Int) == (0 : Int)) z1 (ax (decide ((↑(l.length) : Int) > (8 : Int))) z1 (ag z2 121 4 = ag z2 121 4 ∧ ∃ (a : List AV ×
 Int), sp 36 [(24, AV.ae 52 l), (25, AV.int (↑(l.length) : Int)), (26, AV.int 0)] [] = sp 36 [(24, AV.ae 52 a.1), (25, AV.int (↑(a.1.length) : Int)), (26, AV.int
 a.2)] [] ∧ (a.1.length ≤ 9223372036854775807 ∧ (0 : Int) ≤ a.2 ∧ a.2 ≤ (↑(a.1.length) : Int)) ∧ ax (List.all (aa (List.drop a.2.toNat a.1)) (ak 20)) (K (AV.lit
 Value.nilIface) []) z1)))) := by kernel_rfl
def Rx (κ : Kp) : List AV → Option (Bool × AV)
 | [.agg [.lit (.string s), .ae 52 l]] => some (true, .lit (ay κ (aW ⟨s, aa l⟩)))
 | _ => none
theorem VV (κ : Kp) : bM (I2 κ) 12 121 (Rx κ) := by
 intro args x hh
 unfold Rx at hh
 split at hh
 ·rename_i s l
  simp only [aa3, aa9, true_and] at hh
  subst hh
  refine ⟨_, rfl, mP κ _, ?_⟩
  rw [VY]
  have ef : AV.lit (.iface 189 (.pointer (some κ.tree))) = .lit (ay κ false) := rfl
  have et : AV.lit .nilIface = .lit (ay κ true) := rfl
  rw [ef, et]
  simp only [aW, cL]
  simp only [af, beq_iff_eq, beq_eq_false_iff_ne, Bool.not_eq_true', ab2, aa0, aa2]
  refine ⟨fun e => by rw [e]; rfl, fun e => ⟨fun e1 => by rw [aa6 (show l.length = 0 by omega)]; simp, fun e1 => ⟨fun e2 => by rw [aa4 (show ¬ l.length ≤ 8 by omega)]; simp, fun e2 => ⟨trivial, (l, 0), rfl, ⟨by simp only; omega, by simp only; omega, by simp only; omega⟩, ?_⟩⟩⟩⟩
  rw [e, aa4 (show ¬ l.length = 0 by omega), aa6 (show l.length ≤ 8 by omega)]
  simp only [ab8, ab0, ac0, Bool.not_false]
  exact ⟨fun e => by rw [e], fun e => by rw [e]⟩
 ·cases hh
noncomputable def JM (κ : Kp) : Env := (I2 κ).au 121 (Rx κ)
theorem VR (κ : Kp) : aw (JM κ) := (SK κ).au (OE κ) (VV κ)
theorem Q9 (κ : Kp) : ai (JM κ) := (OE κ).au
noncomputable def Cv (κ : Kp) : Env := (JM κ).aj 149 2 (kj (JM κ) 12 149 2 5)
theorem Sm (κ : Kp) : aw (Cv κ) := (VR κ).aj (Q9 κ) (rl (Q9 κ) 5)
theorem Pm (κ : Kp) : ai (Cv κ) := (Q9 κ).aj (kD (Q9 κ) 5)
theorem Ro (κ : Kp) (u1 u2 : Value) (K : AV → List Dn.Obj → Prop) : (a9 (Cv κ) 12 149 [.ae 88 [.lit u1, .lit u2]] [] K) = (
 letI z1 := Pg.toProgram (Env.P (JM κ))
 ag z1 149 2 = ag z1 149 2 ∧ aZ (aC u1) (ax (!bF u1) (K (AV.lit u1) []) (aZ (aC u2) (ax (!bF u2) (K (AV.lit u2) []) (K (AV.lit Value.nilIface) []))))) := by kernel_rfl
theorem SZ (κ : Kp) (u1 u2 u3 : Value) (K : AV → List Dn.Obj → Prop) : (a9 (Cv κ) 12 149 [.ae 88 [.lit u1, .lit u2, .lit u3]] [] K) = (
 letI z1 := Pg.toProgram (Env.P (JM κ))
 ag z1 149 2 = ag z1 149 2 ∧ aZ (aC u1) (ax (!bF u1) (K (AV.lit u1) []) (aZ (aC u2) (ax (!bF u2) (K (AV.lit u2) []) (aZ (aC u3) (ax (!bF u3) (K (AV.lit u3) [])
 (K (AV.lit Value.nilIface) []))))))) := by kernel_rfl
theorem SE (κ : Kp) (u1 u2 u3 u4 : Value) (K : AV → List Dn.Obj → Prop) : (a9 (Cv κ) 12 149 [.ae 88 [.lit u1, .lit u2, .lit u3, .lit u4]] [] K) = (
 letI z1 := Pg.toProgram (Env.P (JM κ))
 ag z1 149 2 = ag z1 149 2 ∧ aZ (aC u1) (ax (!bF u1) (K (AV.lit u1) []) (aZ (aC u2) (ax (!bF u2) (K (AV.lit u2) []) (aZ (aC u3) (ax (!bF u3) (K (AV.lit u3) [])
 (aZ (aC u4) (ax (!bF u4) (K (AV.lit u4) []) (K (AV.lit Value.nilIface) []))))))))) := by kernel_rfl
def bt (u v : Value) : Value := bif bF u then v else u
theorem Ca (κ : Kp) (a b : Bool) : bt (ay κ a) (ay κ b) = ay κ (a && b) := by cases a <;> rfl
theorem BX {u : Value} (h : aC u = true) (h2 : bF u = true) : u = .nilIface := by cases u <;> simp_all [bF, aC]
def RY : List AV → Option (Bool × AV)
 | [.ae 88 [.lit u1, .lit u2]] => some ((aC u1 && aC u2) && (ba u1 && ba u2), .lit (bt u1 u2))
 | [.ae 88 [.lit u1, .lit u2, .lit u3]] => some ((aC u1 && (aC u2 && aC u3)) && (ba u1 && (ba u2 && ba u3)), .lit (bt u1 (bt u2 u3)))
 | [.ae 88 [.lit u1, .lit u2, .lit u3, .lit u4]] => some ((aC u1 && (aC u2 && (aC u3 && aC u4))) && (ba u1 && (ba u2 && (ba u3 && ba u4))), .lit (bt u1 (bt u2 (bt u3 u4))))
 | _ => none
theorem p59 (κ : Kp) : bM (Cv κ) 12 149 RY := by
 intro args x hh
 unfold RY at hh
 split at hh
 ·rename_i u1 u2
  simp only [aa3, aa9, aa1] at hh
  obtain ⟨⟨⟨h1, h2⟩, h3, h4⟩, rfl⟩ := hh
  refine ⟨_, rfl, by unfold bt; cases bF u1 <;> assumption, ?_⟩
  rw [Ro, h1, h2]
  refine ⟨rfl, ?_⟩
  unfold bt
  cases e1 : bF u1
  ·rfl
  ·cases e2 : bF u2
   ·rfl
   ·rw [BX h2 e2]; rfl
 ·rename_i u1 u2 u3
  simp only [aa3, aa9, aa1] at hh
  obtain ⟨⟨⟨h1, h2, h3⟩, h4, h5, h6⟩, rfl⟩ := hh
  refine ⟨_, rfl, by unfold bt; cases bF u1 <;> cases bF u2 <;> assumption, ?_⟩
  rw [SZ, h1, h2, h3]
  refine ⟨rfl, ?_⟩
  unfold bt
  cases e1 : bF u1
  ·rfl
  ·cases e2 : bF u2
   ·rfl
   ·cases e3 : bF u3
    ·rfl
    ·rw [BX h3 e3]; rfl
 ·rename_i u1 u2 u3 u4
  simp only [aa3, aa9, aa1] at hh
  obtain ⟨⟨⟨h1, h2, h3, k1⟩, h4, h5, h6, k2⟩, rfl⟩ := hh
  refine ⟨_, rfl, by unfold bt; cases bF u1 <;> cases bF u2 <;> cases bF u3 <;> assumption, ?_⟩
  rw [SE, h1, h2, h3, k1]
  refine ⟨rfl, ?_⟩
  unfold bt
  cases e1 : bF u1
  ·rfl
  ·cases e2 : bF u2
   ·rfl
   ·cases e3 : bF u3
    ·rfl
    ·cases e4 : bF u4
     ·rfl
     ·rw [BX k1 e4]; rfl
 ·cases hh
noncomputable def Oo (κ : Kp) : Env := (Cv κ).au 149 RY
theorem Vr (κ : Kp) : aw (Oo κ) := (Sm κ).au (Pm κ) (p59 κ)
theorem UN (κ : Kp) : ai (Oo κ) := (Pm κ).au
theorem Y9 (κ : Kp) (op : Int) (s : ByteArray) (l : List AV) (o1 : Int) (s1 : ByteArray) (n1 : Int) (l1 : List AV) (o2 : Int) (s2 : ByteArray) (n2 : Int) (l2 : List AV) (K : AV → List Dn.Obj → Prop) : (a9 (Oo κ) 12 124 [.agg [.int op, .agg [.lit (.string s), .ae 52 l], .agg [.int o1, .lit (.string s1), .int n1, .ae 52 l1], .agg [.int o2, .lit (.string s2), .int n2, .ae 52 l2]]] [] K) = (
 letI z3 := ay κ (ak 20 (Tm.mk o1 s1 n1 (aa l1)))
 letI z4 := ay κ (ak 20 (Tm.mk o2 s2 n2 (aa l2)))
 letI z5 := ay κ (aW { rel := s, l := aa l })
 letI z7 := Value.iface 189 (Value.pointer (some (Kp.tree κ)))
 letI z8 := ay κ (o2 == (1 : Int))
 letI z10 := ay κ (aW {rel := s, l := aa l })
 letI z11 := K (AV.lit (bt z5 (bt z8 (bt z3 z4)))) []
 letI z13 := aC z3 && aC z4
 letI z14 := ba z3 && ba z4
 letI z17 := K (AV.lit (bt z5 z7)) []
 letI z12 := aZ (aC z5 && (true && z13) && (ba z5 && (true && z14))) z17
 letI z18 := ay κ (o2 != (4 : Int))
 letI z19 := o1 == (2 : Int)
 letI z20 := K (AV.lit z7) []
 letI z15 := aZ (true && z13 && (true && z14)) z20
 letI z22 := (0 : Int)
 letI z1 := ax (gC s { data := #[] } && decide ((↑(l.length) : Int) = z22)) (ax (o1 != (4 : Int)) (aZ (aC z18 && z13 && (ba z18 && z14)) (K (AV.lit (bt z18 (bt z3 z4))) [])) z15) z15
 letI z6 := ay κ (decide (o2 = z22) && bare o2 s2 n2 && decide ((↑(l2.length) : Int) = z22))
 letI z2 := ax (decide (o1 = z22) && bare o1 s1 n1 && decide ((↑(l1.length) : Int) = z22)) (aZ (aC z5 && aC z6 && (ba z5 && ba z6)) (K (AV.lit (bt z5 z6)) []))
  (aZ (aC z5 && true && (ba z5 && true)) z17)
 letI z21 := ba z5 && (ba z6 && ba z3)
 letI z23 := aC z8 && z13
 letI z24 := ba z8 && z14
 letI z9 := aC z5 && z23 && (ba z5 && z24)
 letI z16 := aZ z9 (K (AV.lit (bt z10 (bt z8 (bt z3 z4)))) [])
 ax (o1 == (1 : Int)) (ax (op == (1 : Int)) z2 (ax (op == (2 : Int)) z2 (ax (op == (3 : Int)) z1 (ax (op == (4 : Int)) z1 (ax (op == (5 : Int)) z1 (ax (op == (6
 : Int)) z1 (ax (op == (7 : Int)) (aZ (aC z5 && (aC z6 && aC z3) && z21) (K (AV.lit (bt z5 (bt z6 z3))) [])) (ax (op == (8 : Int)) (aZ z9 z11) (ax (op == (9 :
 Int)) (aZ (aC z10 && z23 && (ba z5 && z24)) z11) (ax (op == (10 : Int)) z16 z20)))))))))) (ax (op == (1 : Int)) z2 (ax (op == (2 : Int)) z2 (ax (op == (3 :
 Int)) z1 (ax (op == (4 : Int)) z1 (ax (op == (5 : Int)) z1 (ax (op == (6 : Int)) z1 (ax (op == (7 : Int)) (ax z19 (aZ (aC z10 && (aC z6 && aC z3) && z21) (K
 (AV.lit (bt z10 (bt z6 z3))) [])) (aZ (aC z5 && (true && aC z3) && (ba z5 && (true && ba z3))) (K (AV.lit (bt z10 z7)) []))) (ax (op == (8 : Int)) (ax z19 (aZ
 z9 z11) z12) (ax (op == (9 : Int)) (ax z19 (aZ (aC z5 && z23 && (ba z10 && z24)) z11) (aZ (aC z5 && (true && z13) && (ba z10 && (true && z14))) z17)) (ax (op ==
 (10 : Int)) (ax z19 z16 z12) z20))))))))))) := by kernel_rfl
theorem Lr (κ : Kp) (b x y r : Bool) : ax b (AV.lit (ay κ x) = AV.lit (ay κ r)) (AV.lit (ay κ y) = AV.lit (ay κ r)) ↔ (AV.lit (ay κ (bif b then x else y)) = AV.lit (ay κ r)) := by
 cases b <;> rfl
theorem Ll (a b : Int) : (a == b) = decide (a = b) := by by_cases h : a = b <;> simp [h]
theorem DJ (a b : Int) : (a != b) = !decide (a = b) := by by_cases h : a = b <;> simp [h]
def Rr (κ : Kp) : List AV → Option (Bool × AV)
 | [.agg [.lit (.int .i64 op), .agg [.lit (.string s), .ae 52 l], .agg [.lit (.int .i64 o1), .lit (.string s1), .lit (.int .i64 n1), .ae 52 l1], .agg [.lit (.int .i64 o2), .lit (.string s2), .lit (.int .i64 n2), .ae 52 l2]]] =>
  some (true, .lit (ay κ (dI ⟨op, ⟨s, aa l⟩, .mk o1 s1 n1 (aa l1), .mk o2 s2 n2 (aa l2)⟩)))
 | _ => none
theorem X7 (κ : Kp) : bM (Oo κ) 12 124 (Rr κ) := by
 intro args x hh
 unfold Rr at hh
 split at hh
 ·rename_i op s l o1 s1 n1 l1 o2 s2 n2 l2
  simp only [aa3, aa9, true_and] at hh
  subst hh
  refine ⟨_, rfl, mP κ _, ?_⟩
  rw [Y9]
  have ef : Value.iface 189 (.pointer (some κ.tree)) = ay κ false := rfl
  rw [ef]
  simp only [lV, mP, Ca, Bool.and_true, Bool.and_self, aZ]
  simp only [← CU, ← IY, Ll, DJ, Lr]
  refine congrArg (fun b => AV.lit (ay κ b)) ?_
  have ix : NP (.mk o1 s1 n1 (aa l1)) = (decide (o1 = 1) || decide (o1 = 2)) := rfl
  rw [xI, ix]
  generalize aW ⟨s, aa l⟩ = A
  generalize FO ⟨s, aa l⟩ = N0
  generalize BJ (.mk o1 s1 n1 (aa l1)) = N1
  generalize BJ (.mk o2 s2 n2 (aa l2)) = N2
  generalize ak 20 (.mk o1 s1 n1 (aa l1)) = R1
  generalize ak 20 (.mk o2 s2 n2 (aa l2)) = R2
  generalize decide (o1 = 1) = a1
  generalize decide (o1 = 2) = a2
  generalize decide (o1 = 4) = a4
  generalize decide (o2 = 4) = b4
  generalize decide (o2 = 1) = b1
  generalize decide (op = 1) = p1
  generalize decide (op = 2) = p2
  generalize decide (op = 3) = p3
  generalize decide (op = 4) = p4
  generalize decide (op = 5) = p5
  generalize decide (op = 6) = p6
  generalize decide (op = 7) = p7
  generalize decide (op = 8) = p8
  generalize decide (op = 9) = p9
  generalize decide (op = 10) = p10
  cases p1
  case true => cases a1 <;> cases N1 <;> cases A <;> cases N2 <;> rfl
  cases p2
  case true => cases a1 <;> cases N1 <;> cases A <;> cases N2 <;> rfl
  cases p3
  case true => cases a1 <;> cases N0 <;> cases a4 <;> cases b4 <;> cases R1 <;> cases R2 <;> rfl
  cases p4
  case true => cases a1 <;> cases N0 <;> cases a4 <;> cases b4 <;> cases R1 <;> cases R2 <;> rfl
  cases p5
  case true => cases a1 <;> cases N0 <;> cases a4 <;> cases b4 <;> cases R1 <;> cases R2 <;> rfl
  cases p6
  case true => cases a1 <;> cases N0 <;> cases a4 <;> cases b4 <;> cases R1 <;> cases R2 <;> rfl
  cases p7
  case true => cases a1 <;> cases a2 <;> cases A <;> cases N2 <;> cases R1 <;> rfl
  cases p8
  case true => cases a1 <;> cases a2 <;> cases A <;> cases b1 <;> cases R1 <;> cases R2 <;> rfl
  cases p9
  case true => cases a1 <;> cases a2 <;> cases A <;> cases b1 <;> cases R1 <;> cases R2 <;> rfl
  cases p10
  case true => cases a1 <;> cases a2 <;> cases A <;> cases b1 <;> cases R1 <;> cases R2 <;> rfl
  cases a1 <;> rfl
 ·cases hh
noncomputable def Lm (κ : Kp) : Env := (Oo κ).au 124 (Rr κ)
theorem Yi (κ : Kp) : aw (Lm κ) := (Vr κ).au (UN κ) (X7 κ)
theorem Uh (κ : Kp) : ai (Lm κ) := (UN κ).au
structure b5 where
 xs : List AV
 more : List AV
 rel : ByteArray
 hl : List AV
 bl : List AV
 line : Int
 i : Int
abbrev aF (a : b5) : AV := .agg [.agg [.lit (.string a.rel), .ae 52 a.hl], .ae 55 a.bl, .int a.line]
abbrev zG (a : b5) : S := sp 69 [(0, .dv 0), (1, .ptr 1 0 [] 0), (25, .ae 52 a.hl), (26, .int a.hl.length), (27, .int a.i)] [.ext (some a.xs), .box 41 (aF a)]
abbrev GH (a : b5) : S := sp 69 [(0, .dv 0), (57, .ae 55 a.bl), (58, .int a.bl.length), (59, .int a.i)] [.ext (some a.xs), .box 41 (aF a)]
def mc (κ : Kp) (l : List Bool) : List AV := l.map fun b => .bR [.lit (ay κ b)]
def yF (κ : Kp) (a : b5) : Prop := a.hl.length ≤ aI ∧ 0 ≤ a.i ∧ a.i ≤ a.hl.length ∧ a.xs = mc κ ((aa (a.hl.drop a.i.toNat)).map (kQ a.bl.length)) ++ a.more
def DX (κ : Kp) (a : b5) : Prop := a.bl.length ≤ aI ∧ 0 ≤ a.i ∧ a.i ≤ a.bl.length ∧ a.xs = mc κ ((bn (a.bl.drop a.i.toNat)).map dI)
def CY (a : b5) : Out (Exit × S) := .all (fun _ : Bool => True) fun b => .ax b (.one (.exit 0, sp 69 [(0, .dv 0), (1, .ptr 1 0 [] 0)] [.ext (some a.more), .box 41 (aF a)]))
 (.one (.ret, sp 69 [] [.ext none, .box 41 (aF a)]))
def Hd (a : b5) : Out (Exit × S) := .all (fun _ : Bool => True) fun b => .ax b (.one (.exit 2, sp 69 [] [.ext (some []), .box 41 (aF a)]))
 (.one (.ret, sp 69 [] [.ext none, .box 41 (aF a)]))
theorem Sd (κ : Kp) (a : b5) (I : Nat → S → Prop) (n : Nat) (K : Exit → S → Prop) : (vc (Lm κ) 12 120 none 2 (ag (Pr κ).toProgram 120 2) (zG a) (bC (Lm κ) 120 2 2 I n K)) = (
 letI z1 := IntKind.wrap IntKind.i64 (a.i + (1 : Int))
 letI z2 := sp 69 [] [Obj.ext none, Obj.box 41 (aF a)]
 letI z3 := Value.iface 189 (Value.pointer (some (Kp.tree κ)))
 letI z4 := ad (nth a.hl a.i.toNat) 0
 ax (decide (a.i < (↑(a.hl.length) : Int))) (aZ (decide ((0 : Int) ≤ a.i) && decide (a.i < (↑(a.hl.length) : Int))) (ax (toInt z4 != (4 : Int)) (ax (!dV (toInt
 z4)) (ax (toInt z4 != (1 : Int)) (∃ (rest : List AV), a.xs = AV.bR [AV.lit Value.nilIface] :: rest ∧ (∃ (m : Nat), m < n ∧ I m (sp 69 [(0, AV.dv 0), (1, AV.ptr
 1 0 [] 0), (25, AV.ae 52 a.hl), (26, AV.int (↑(a.hl.length) : Int)), (27, AV.int z1)] [Obj.ext (some rest), Obj.box 41 (aF a)])) ∧ K Exit.ret z2) (∃ (rest :
 List AV), a.xs = AV.bR [AV.lit (ay κ (decide ((↑(a.bl.length) : Int) > (0 : Int))))] :: rest ∧ (∃ (m : Nat), m < n ∧ I m (sp 69 [(0, AV.dv 0), (1, AV.ptr 1 0 []
 0), (25, AV.ae 52 a.hl), (26, AV.int (↑(a.hl.length) : Int)), (27, AV.int z1)] [Obj.ext (some rest), Obj.box 41 (aF a)])) ∧ K Exit.ret z2)) (∃ (rest : List AV),
 a.xs = AV.bR [AV.lit z3] :: rest ∧ (∃ (m : Nat), m < n ∧ I m (sp 69 [(0, AV.dv 0), (1, AV.ptr 1 0 [] 0), (25, AV.ae 52 a.hl), (26, AV.int (↑(a.hl.length) :
 Int)), (27, AV.int z1)] [Obj.ext (some rest), Obj.box 41 (aF a)])) ∧ K Exit.ret z2)) (∃ (rest : List AV), a.xs = AV.bR [AV.lit z3] :: rest ∧ (∃ (m : Nat), m < n
 ∧ I m (sp 69 [(0, AV.dv 0), (1, AV.ptr 1 0 [] 0), (25, AV.ae 52 a.hl), (26, AV.int (↑(a.hl.length) : Int)), (27, AV.int z1)] [Obj.ext (some rest), Obj.box 41
 (aF a)])) ∧ K Exit.ret z2))) (K (Exit.exit 0) (sp 69 [(0, AV.dv 0), (1, AV.ptr 1 0 [] 0)] [Obj.ext (some a.xs), Obj.box 41 (aF a)]))) := by kernel_rfl
theorem Ra (κ : Kp) : bg (Lm κ) 12 120 2 (aK 2 zG (yF κ) CY) := by
 refine aO (fun a => a.hl.length - a.i.toNat) ?_
 rintro ⟨xs, more, rel, hl, bl, line, i⟩ K ⟨h1, h2, h3, h4⟩ ho
 simp only at h1 h2 h3 h4
 rw [show (Lm κ).P = Pr κ from rfl, Sd]
 have ef : Value.iface 189 (.pointer (some κ.tree)) = ay κ false := rfl
 have et : Value.nilIface = ay κ true := rfl
 have ho1 := ho true trivial
 have ho2 := ho false trivial
 simp only [Out.run, ax] at ho1 ho2
 simp only [ef, et]
 simp only [aI] at h1
 simp only [af, aq, aa0, aa2, aa1]
 refine ⟨fun hi => ⟨⟨h2, hi⟩, ?_⟩, fun hi => ?_⟩
 ·rw [cy hl i.toNat (by omega)] at h4
  have hop : (bI (nth hl i.toNat)).op = toInt (ad (nth hl i.toNat) 0) := by rw [bX]; rfl
  simp only [ac2, mc, kQ, hop, List.cons_append] at h4
  rw [aU (n := i + 1) (by omega) (by omega)]
  have go : ∀ b, b = (!decide (toInt (ad (nth hl i.toNat) 0) = 4) && !dV (toInt (ad (nth hl i.toNat) 0)) && (!decide (toInt (ad (nth hl i.toNat) 0) = 1) || decide (0 < bl.length))) →
    ∃ rest, xs = AV.bR [AV.lit (ay κ b)] :: rest ∧ (∃ m, m < hl.length - i.toNat ∧ fp zG (yF κ) CY (fun a => a.hl.length - a.i.toNat) K m (zG ⟨rest, more, rel, hl, bl, line, i + 1⟩)) ∧ K Exit.ret (sp 69 [] [.ext none, .box 41 (aF ⟨xs, more, rel, hl, bl, line, i⟩)]) := by
   rintro b rfl
   refine ⟨_, h4, ⟨_, ?_, ⟨_, more, rel, hl, bl, line, i + 1⟩, rfl, ⟨by simpa [aI] using h1, by simp only; omega, by simp only; omega, ?_⟩, rfl, ho⟩, ho2⟩
   ·simp only; omega
   ·simp only [mc, show (i + 1).toNat = i.toNat + 1 by omega]
  simp only [DJ, Bool.not_eq_true', ab2, aa0, aa2]
  refine ⟨fun e1 => ⟨fun e2 => ⟨fun e3 => go _ ?_, fun e3 => go _ ?_⟩, fun e2 => go _ ?_⟩, fun e1 => go _ ?_⟩
  ·simp [e1, e2, e3]
  ·have e4 : decide ((bl.length : Int) > 0) = decide (0 < bl.length) := by
    by_cases h : 0 < bl.length
    ·rw [aa6 h, aa6 (by omega)]
    ·rw [aa4 h, aa4 (by omega)]
   rw [e4]
   simp [e2, e3]
   intro _; rfl
  ·simp [e2]
  ·simp [e1]
 ·rw [aa8 (by omega)] at h4
  simp only [aa, mc, ac3, List.nil_append] at h4
  subst h4
  exact ho1
noncomputable def yU (κ : Kp) : Env := (Lm κ).aj 120 2 (aK 2 zG (yF κ) CY)
theorem SH (κ : Kp) : aw (yU κ) := (Yi κ).aj (Uh κ) (Ra κ)
theorem Qh (κ : Kp) : ai (yU κ) := (Uh κ).aj aE
theorem Rq (κ : Kp) (a : b5) (I : Nat → S → Prop) (n : Nat) (K : Exit → S → Prop) : (vc (yU κ) 12 120 none 2 (ag (Pr κ).toProgram 120 7) (GH a) (bC (yU κ) 120 7 2 I n K)) = (
 letI z1 := nth a.bl a.i.toNat
 letI z2 := AV.agg [AV.agg [AV.str a.rel, AV.ae 52 a.hl], AV.ae 55 a.bl, AV.int a.line]
 ax (decide (a.i < (↑(a.bl.length) : Int))) (aZ (decide ((0 : Int) ≤ a.i) && decide (a.i < (↑(a.bl.length) : Int))) (∃ (rest : List AV), a.xs = AV.bR [AV.lit (ay κ (dI {op := toInt (ad z1 0), a := { rel := toStr (ad (ad z1 1) 0), l := aa (ah (ad (ad z1 1) 1)) }, x := Tm.mk (toInt (ad (ad z1 2) 0)) (toStr (ad (ad z1 2) 1)) (toInt (ad (ad z1 2) 2)) (aa (ah (ad (ad z1 2) 3))), y := Tm.mk (toInt (ad (ad z1 3) 0)) (toStr (ad (ad z1 3) 1)) (toInt (ad (ad z1 3) 2)) (aa (ah (ad (ad z1 3) 3))) }))] :: rest ∧ (∃ (m : Nat), m < n ∧ I m (sp 69 [(0, AV.dv 0), (57, AV.ae 55 a.bl), (58, AV.int (↑(a.bl.length) : Int)), (59, AV.int (IntKind.wrap IntKind.i64 (a.i + (1 : Int))))] [Obj.ext (some rest), Obj.box 41 z2])) ∧ K Exit.ret (sp 69 [] [Obj.ext none, Obj.box 41 z2]))) (K (Exit.exit 2) (sp 69 [] [Obj.ext (some a.xs), Obj.box 41 z2]))) := by kernel_rfl
theorem SY (κ : Kp) : bg (yU κ) 12 120 7 (aK 2 GH (DX κ) Hd) := by
 refine aO (fun a => a.bl.length - a.i.toNat) ?_
 rintro ⟨xs, more, rel, hl, bl, line, i⟩ K ⟨h1, h2, h3, h4⟩ ho
 simp only at h1 h2 h3 h4
 rw [show (yU κ).P = Pr κ from rfl, Rq]
 have ho1 := ho true trivial
 have ho2 := ho false trivial
 simp only [Out.run, ax] at ho1 ho2
 simp only [aI] at h1
 simp only [af, aq, aa0, aa2, aa1, ← lt_eq]
 refine ⟨fun hi => ⟨⟨h2, hi⟩, ?_⟩, fun hi => ?_⟩
 ·rw [jd bl i.toNat (by omega)] at h4
  simp only [ac2, mc] at h4
  rw [aU (n := i + 1) (by omega) (by omega)]
  refine ⟨_, h4, ⟨_, ?_, ⟨_, more, rel, hl, bl, line, i + 1⟩, rfl, ⟨by simpa [aI] using h1, by simp only; omega, by simp only; omega, ?_⟩, rfl, ho⟩, ho2⟩
  ·simp only; omega
  ·simp only [mc, show (i + 1).toNat = i.toNat + 1 by omega]
 ·rw [aa8 (by omega)] at h4
  simp only [bn, mc, ac3] at h4
  subst h4
  exact ho1
noncomputable def IJ (κ : Kp) : Env := (yU κ).aj 120 7 (aK 2 GH (DX κ) Hd)
theorem R9 (κ : Kp) : aw (IJ κ) := (SH κ).aj (Qh κ) (SY κ)
theorem P6 (κ : Kp) : ai (IJ κ) := (Qh κ).aj aE
theorem Y8 (κ : Kp) (a : b5) (K : AV → List Dn.Obj → Prop) : (a9 (IJ κ) 12 120 [.dv 0, .ptr 1 0 [] 0] [.ext (some a.xs), .box 41 (aF a)] K) = (
 letI z1 := AV.bR []
 letI z2 := Pg.toProgram (Env.P (Lm κ))
 letI z3 := Pg.toProgram (Env.P (yU κ))
 ∃ (rest : List AV), a.xs = AV.bR [AV.lit (ay κ (aW { rel := a.rel, l := aa a.hl }))] :: rest ∧ (∃ (rest_1 : List AV), rest = AV.bR [AV.lit (ay κ (decide ((↑(a.bl.length) : Int) ≤ (20 : Int))))] :: rest_1 ∧ (ag z2 120 2 = ag z2 120 2 ∧ ∃ (a_1 : b5), sp 69 [(0, AV.dv 0), (1, AV.ptr 1 0 [] 0), (25, AV.ae 52 a.hl), (26, AV.int (↑(a.hl.length) : Int)), (27, AV.int 0)] [Obj.ext (some rest_1), Obj.box 41 (AV.agg [AV.agg [AV.str a.rel, AV.ae 52 a.hl], AV.ae 55 a.bl, AV.int a.line])] = sp 69 [(0, AV.dv 0), (1, AV.ptr 1 0 [] 0), (25, AV.ae 52 a_1.hl), (26, AV.int (↑(a_1.hl.length) : Int)), (27, AV.int a_1.i)] [Obj.ext (some a_1.xs), Obj.box 41 (AV.agg [AV.agg [AV.str a_1.rel, AV.ae 52 a_1.hl], AV.ae 55 a_1.bl, AV.int a_1.line])] ∧ (a_1.hl.length ≤ 9223372036854775807 ∧ (0 : Int) ≤ a_1.i ∧ a_1.i ≤ (↑(a_1.hl.length) : Int) ∧ a_1.xs = mc κ (List.map (kQ a_1.bl.length) (aa (List.drop a_1.i.toNat a_1.hl))) ++ a_1.more) ∧ ∀ (y : Bool), True → ax y (ag z3 120 7 = ag z3 120 7 ∧ ∃ (a : b5), sp 69 [(0, AV.dv 0), (57, AV.ae 55 a_1.bl), (58, AV.int (↑(a_1.bl.length) : Int)), (59, AV.int 0)] [Obj.ext (some a_1.more), Obj.box 41 (AV.agg [AV.agg [AV.str a_1.rel, AV.ae 52 a_1.hl], AV.ae 55 a_1.bl, AV.int a_1.line])] = sp 69 [(0, AV.dv 0), (57, AV.ae 55 a.bl), (58, AV.int (↑(a.bl.length) : Int)), (59, AV.int a.i)] [Obj.ext (some a.xs), Obj.box 41 (AV.agg [AV.agg [AV.str a.rel, AV.ae 52 a.hl], AV.ae 55 a.bl, AV.int a.line])] ∧ (a.bl.length ≤ 9223372036854775807 ∧ (0 : Int) ≤ a.i ∧ a.i ≤ (↑(a.bl.length) : Int) ∧ a.xs = mc κ (List.map dI (bn (List.drop a.i.toNat a.bl)))) ∧ ∀ (y : Bool), True → ax y (K z1 [Obj.ext (some []), Obj.box 41 (AV.agg [AV.agg [AV.str a.rel, AV.ae 52 a.hl], AV.ae 55 a.bl, AV.int a.line])]) (K z1 [Obj.ext none, Obj.box 41 (AV.agg [AV.agg [AV.str a.rel, AV.ae 52 a.hl], AV.ae 55 a.bl, AV.int a.line])])) (K z1 [Obj.ext none, Obj.box 41 (AV.agg [AV.agg [AV.str a_1.rel, AV.ae 52 a_1.hl], AV.ae 55 a_1.bl, AV.int a_1.line])])) ∧ K z1 [Obj.ext none, Obj.box 41 (AV.agg [AV.agg [AV.str a.rel, AV.ae 52 a.hl], AV.ae 55 a.bl, AV.int a.line])]) ∧ K z1 [Obj.ext none, Obj.box 41 (AV.agg [AV.agg [AV.str a.rel, AV.ae 52 a.hl], AV.ae 55 a.bl, AV.int a.line])]) := by kernel_rfl
def JH (a : b5) : List AV × List Dn.Obj := ([.dv 0, .ptr 1 0 [] 0], [.ext (some a.xs), .box 41 (aF a)])
def CL (κ : Kp) (a : b5) : Prop := a.hl.length ≤ aI ∧ a.bl.length ≤ aI ∧ a.xs = mc κ (q9 ⟨⟨a.rel, aa a.hl⟩, bn a.bl⟩)
def H9 : b5 → Out (AV × List Dn.Obj) := fun _ => .all (fun st' => Ar st') fun st' => .one (.bR [], st')
theorem VC (κ : Kp) : bJ (IJ κ) 12 120 (a8 JH (CL κ) H9) := by
 refine bh ?_
 rintro ⟨xs, more, rel, hl, bl, line, i⟩ K ⟨h1, h2, h3⟩ ho
 simp only at h1 h2 h3
 simp only [JH]
 rw [Y8 κ ⟨xs, more, rel, hl, bl, line, i⟩]
 simp only
 have hn : ∀ b, K (.bR []) [.ext none, b] := fun b => ho _ trivial
 have h0 : ∀ b, K (.bR []) [.ext (some []), b] := fun b => ho _ trivial
 subst h3
 have QU : decide ((bl.length : Int) ≤ 20) = decide (bl.length ≤ 20) := by
  by_cases h : bl.length ≤ 20
  ·rw [aa6 h, aa6 (by omega)]
  ·rw [aa4 h, aa4 (by omega)]
 rw [QU]
 simp only [q9, mc, ac2, sW]
 refine ⟨_, rfl, ⟨_, rfl, ⟨trivial, ⟨_, mc κ ((bn bl).map dI), rel, hl, bl, line, 0⟩, rfl, ⟨h1, by simp only; omega, by simp only; omega, ?_⟩, ?_⟩, hn _⟩, hn _⟩
 ·simp [mc, sW]
 ·intro y _
  cases y
  ·exact hn _
  ·refine ⟨trivial, ⟨_, [], rel, hl, bl, line, 0⟩, rfl, ⟨h2, by simp only; omega, by simp only; omega, by simp [mc]⟩, ?_⟩
   intro y _
   cases y
   ·exact hn _
   ·exact h0 _
set_option maxRecDepth 20000 in
noncomputable def LO (κ : Kp) : Env := (IJ κ).ar 120 (a8 JH (CL κ) H9)
theorem Vn (κ : Kp) : aw (LO κ) := (R9 κ).ar (P6 κ) (VC κ)
theorem TN (κ : Kp) : ai (LO κ) := (P6 κ).ar aJ
noncomputable abbrev Np (κ : Kp) (a : b5) (st : LoopState) (p : Option Code) : Dn.Obj :=
 .loop (oP (Pr κ).toProgram 54 3 st p (nZ (dc 15) [(0, aF a), (1, .ptr 0 0 [] 0), (2, .bool false), (3, .ptr 1 0 [] 0), (5, aF a), (6, .dq 120 [.ptr 2 0 [] 0])]))
noncomputable abbrev oQ (κ : Kp) (a : b5) : List Dn.Obj := [.box 41 (aF a), .box 88 (.lit .nilIface), .box 41 (aF a), Np κ a .ready none]
noncomputable abbrev BU (κ : Kp) (a : b5) : List Dn.Obj := [.box 41 (aF a), .box 88 (.lit .nilIface), .dead, Np κ a .ready none]
theorem Vk (κ : Kp) (a : b5) (Q : List Dn.Obj → Prop) : (tidy (Pr κ).toProgram 4 (eC (oQ κ a) (ec (oQ κ a) [.ptr 2 0 [] 0])) Q) = (
 Q [Obj.box 41 (aF a), Obj.box 88 (AV.lit Value.nilIface), Obj.dead, Dn.Obj.loop (oP Tryz.prog 54 3 LoopState.ready none (nZ (dc 15) [(0, aF a), (1,
 AV.ptr 0 0 [] 0), (2, AV.bool false), (3, AV.ptr 1 0 [] 0), (5, aF a), (6, AV.dq 120 [AV.ptr 2 0 [] 0])]))]) := by kernel_rfl
theorem r16 (κ : Kp) (a : b5) (u : Value) (Q : List Dn.Obj → Prop) (K2 : List Dn.Obj → Prop) : (j7 (vc (LO κ) 12) 3 [.lit u] (BU κ a) (fun r st'' => match r with | .lit (.bool true) => tidy (Pr κ).toProgram 4 st'' Q | .lit (.bool false) => K2 st'' | _ => False)) = (
 letI z1 := nZ (dc 15) [(0, aF a), (1, AV.ptr 0 0 [] 0), (2, AV.bool false), (3, AV.ptr 1 0 [] 0), (5, aF a), (6, AV.dq 120 [AV.ptr 2 0 [] 0])]
 aZ (aC u) (ax (!bF u) (K2 [Obj.box 41 (aF a), Obj.box 88 (AV.lit u), Obj.dead, Dn.Obj.loop (oP Tryz.prog 54 3 LoopState.done (some (Code.exit 0)) z1)]) (Q
 [Obj.box 41 (aF a), Obj.box 88 (AV.lit Value.nilIface), Obj.dead, Dn.Obj.loop (oP Tryz.prog 54 3 LoopState.ready none z1)]))) := by kernel_rfl
noncomputable abbrev Mm (κ : Kp) (a : b5) : List Dn.Obj := [.box 41 (aF a), .box 88 (.lit (ay κ false)), .dead, Np κ a .done (some (.exit 0))]
def uS (a : b5) : Rl := ⟨⟨a.rel, aa a.hl⟩, bn a.bl⟩
theorem Ya (κ : Kp) (a : b5) (xs : List AV) : (AV.dv 0 :: gB (my (ec (oQ κ a) [.ptr 2 0 [] 0])) [.ptr 2 0 [] 0], Obj.ext (some xs) :: ic (my (ec (oQ κ a) [.ptr 2 0 [] 0])) (iB (oQ κ a) (ec (oQ κ a) [.ptr 2 0 [] 0]))) = JH { a with xs := xs } := by kernel_rfl
theorem o16 (κ : Kp) (a : b5) : vo (oQ κ a) [.ptr 2 0 [] 0] = true := by kernel_rfl
noncomputable def Nr (κ : Kp) : fN := fun caps st K => ∃ a : b5, (caps, st) = ([AV.ptr 2 0 [] 0], oQ κ a) ∧ (a.hl.length ≤ aI ∧ a.bl.length ≤ aI) ∧ ax (aG (uS a)) (K (BU κ a)) (K (Mm κ a))
theorem Gd (κ : Kp) : (Nr κ).ot := by
 rintro caps st K K' hK ⟨a, h1, h2, h3⟩
 refine ⟨a, h1, h2, ?_⟩
 rw [af] at h3 ⊢
 exact ⟨fun e => hK _ (h3.1 e), fun e => hK _ (h3.2 e)⟩
theorem call45 (κ : Kp) (args : List AV) (st : List Dn.Obj) (K : AV → List Dn.Obj → Prop) (h : a8 JH (CL κ) H9 args st K) : (LO κ).call 120 args st K := h
theorem Rt (κ : Kp) : qc (LO κ) 12 120 (Nr κ) := by
 rintro caps st K ⟨a, h1, h2, h3⟩
 obtain ⟨rfl, rfl⟩ := Prod.mk.inj h1
 rw [af] at h3
 refine ⟨mc κ (q9 (uS a)), fun items st' => ∃ l, items = mc κ l ∧ st' = BU κ a ∧ aG (uS a) = l.all id, ⟨o16 κ a, ?_, ?_, ?_, ?_⟩⟩
 ·refine call45 κ _ _ _ ?_
  refine ⟨{ a with xs := mc κ (q9 (uS a)) }, ?_, ⟨h2.1, h2.2, rfl⟩, fun st' h => h⟩
  exact Ya κ a _
 ·rw [show (LO κ).P = Pr κ from rfl, show (oQ κ a).length = 4 from rfl, Vk]
  exact ⟨_, rfl, rfl, CH _⟩
 ·rintro us rest st' ⟨l, e1, rfl, e3⟩
  cases l with
  | nil => cases e1
  | cons b l =>
   simp only [mc, ac2, List.cons.injEq, AV.bR.injEq] at e1
   obtain ⟨rfl, rfl⟩ := e1
   rw [show (LO κ).P = Pr κ from rfl, show (oQ κ a).length = 4 from rfl]
   refine Eq.mpr (r16 κ a (ay κ b) _ _) ?_
   rw [lV, pH]
   cases b with
   | true => exact ⟨l, rfl, rfl, by rw [e3]; rfl⟩
   | false => exact h3.2 (by rw [e3]; rfl)
 ·rintro st' ⟨l, e1, rfl, e3⟩
  cases l with
  | nil => exact h3.1 (by rw [e3]; rfl)
  | cons b l => cases e1
def SD : List Nat := [120]
noncomputable def MD (κ : Kp) : Env := ((LO κ).addRange 54 3 120 (Nr κ)).eZ (fun f => mw f SD)
theorem SN (κ : Kp) : aw (MD κ) := ((Vn κ).addRange (TN κ) (Rt κ)).eZ _
theorem S3 (κ : Kp) : ai (MD κ) := ((TN κ).addRange (Gd κ)).eZ _
end Go.Proofs.YtdpmikfheebicaaGreatDoor
namespace Go.Proofs.YtdpmikfheebicaaGreatDoor
open Go Go.Dn Go.Rl Go.Proofs Go.RowKit Go.Extern.Stop Go.Stop Go.Extern
theorem u6 (v : Value) (w : World) : (Extern.ReflectliteType.typeOf #[.iface 189 v]).run Tryz.prog w = .ok (.iface 163 (.agg #[.pointer (some ⟨5, 189, none⟩)])) w := by kernel_rfl
theorem l4 (w : World) : ((Extern.ReflectliteType.method fun t => do Go.Extern.Rtype.noPackHeld "Comparable" t; (fun a => Value.bool a.comparable) <$> typeInfo t) #[.agg #[.pointer (some ⟨5, 189, none⟩)]]).run Tryz.prog w = .ok (.bool true) w := by kernel_rfl
theorem gY (v : Value) (w : World) : (Go.method 327 163 v "Comparable").run Tryz.prog w = .ok (192, v) w := by kernel_rfl
theorem B7 : (Tryz.prog.info? 189).map (·.comparable) = some true := by kernel_rfl
theorem B0 : (Tryz.prog.info? 215).map (·.size) = some 1 := by kernel_rfl
set_option maxRecDepth 4000 in
theorem En (a : Addr) (w : World) :
  Calls Tryz.prog 56 #[.iface 189 (.pointer (some a)), .iface 189 (.pointer (some a))] w fun e w' => e = .returned (.bool true) ∧ w' = w := by
 obtain ⟨i, hi, hcmp⟩ := Option.map_eq_some_iff.1 B7
 obtain ⟨j, hj, hjs⟩ := Option.map_eq_some_iff.1 B0
 have h8 := @run_callFunc_extern Tryz.prog 86 _ Extern.ReflectliteType.typeOf Tryz.func86 (by kernel_rfl) (by kernel_rfl) (by kernel_rfl) (by kernel_rfl)
 have h32 := @run_callFunc_extern Tryz.prog 192 _ (Extern.ReflectliteType.method fun t => do Go.Extern.Rtype.noPackHeld "Comparable" t; pure (.bool (← typeInfo t).comparable)) Tryz.func192 (by kernel_rfl) (by kernel_rfl) (by kernel_rfl) (by kernel_rfl)
 have tT := u6
 have cT := l4
 have mR := gY
 have heq := run_eql_iface_ptr_same (P := Tryz.prog) w a Tryz.underlying88 Tryz.underlying189 hi hcmp hj
 go_enter Tryz.func56, Tryz.ntmps56
 go_wp2
 refine wp_loop_rounds 1 ?_
 rw [rounds_succ]
 go_wp2
 go_ret
 exact ⟨rfl, rfl⟩
theorem IZ (b : Addr) (w : World) :
  Calls Tryz.prog 56 #[.nilIface, .iface 189 (.pointer (some b))] w fun e w' => e = .returned (.bool false) ∧ w' = w := by
 have hn := run_eql_iface_nil_left (P := Tryz.prog) w 189 (.pointer (some b)) Tryz.underlying88
 go_enter Tryz.func56, Tryz.ntmps56
 go_wp2
 go_ret
 exact ⟨rfl, rfl⟩
def Rj : List AV → Option (Bool × AV)
 | [.lit .nilIface, .lit (.iface 189 (.pointer (some _)))] => some (true, .bool false)
 | [.lit (.iface 189 (.pointer (some a))), .lit (.iface 189 (.pointer (some b)))] => some (decide (a = b), .bool true)
 | _ => none
theorem tJ {C : Ctx} {u v : Value} {vs : Array Value} (h : MT C [.lit u, .lit v] vs.toList) : vs = #[u, v] := by
 obtain ⟨l⟩ := vs
 match l, h with
 | [a, b], h =>
  simp only [MT] at h
  have h1 : Rel C (.lit u) a := ⟨h.1, h.2.1, h.2.2.1⟩
  have h2 : Rel C (.lit v) b := ⟨h.2.2.2.1, h.2.2.2.2.1, h.2.2.2.2.2.1⟩
  rw [aR h1, aR h2]
 | [], h => simp [MT] at h
 | [_], h => simp [MT] at h
 | _ :: _ :: _ :: _, h => simp [MT] at h
theorem Zw (κ : Kp) : fe (Pr κ) 56 Rj := by
 intro args x hn hg
 unfold Rj at hg
 split at hg
 ·simp only [aa3, aa9, true_and] at hg
  subst hg
  refine ⟨_, _, Tryz.func56, rfl, rfl, rfl, fun C vs hC hI hm => ?_⟩
  rw [tJ hm]
  refine (callsIn_wide.2 (IZ _ C.w)).mono ?_
  rintro e w' ⟨rfl, rfl⟩
  exact ⟨rfl, gO.refl _⟩
 ·simp only [aa3, aa9, aa0] at hg
  obtain ⟨rfl, rfl⟩ := hg
  refine ⟨_, _, Tryz.func56, rfl, rfl, rfl, fun C vs hC hI hm => ?_⟩
  rw [tJ hm]
  refine (callsIn_wide.2 (En _ C.w)).mono ?_
  rintro e w' ⟨rfl, rfl⟩
  exact ⟨rfl, gO.refl _⟩
 ·cases hg
end Go.Proofs.YtdpmikfheebicaaGreatDoor
namespace Go.Proofs.YtdpmikfheebicaaGreatDoor
open Go Go.Dn Go.Rl Go.Proofs
attribute [local irreducible] a9 vc
set_option maxRecDepth 20000
noncomputable def Pt (κ : Kp) : Env := (MD κ).au 56 Rj
theorem Z9 (κ : Kp) : aw (Pt κ) := (SN κ).dp (Zw κ)
theorem Ui (κ : Kp) : ai (Pt κ) := (S3 κ).au
theorem y16 (κ : Kp) (a : b5) (K : AV → List Dn.Obj → Prop) : (a9 (Pt κ) 12 54 [aF a] [] K) = (
 ∃ (a_1 : b5), ([AV.ptr 2 0 [] 0], [Obj.box 41 (aF a), Obj.box 88 (AV.lit Value.nilIface), Obj.box 41 (aF a), Dn.Obj.loop (oP Tryz.prog 54 3 LoopState.ready
 none (nZ (dc 15) [(0, aF a), (1, AV.ptr 0 0 [] 0), (2, AV.bool false), (3, AV.ptr 1 0 [] 0), (5, aF a), (6, AV.dq 120 [AV.ptr 2 0 [] 0])]))]) =
 ([AV.ptr 2 0 [] 0], [Obj.box 41 (aF a_1), Obj.box 88 (AV.lit Value.nilIface), Obj.box 41 (aF a_1), Dn.Obj.loop (oP Tryz.prog 54 3 LoopState.ready none
 (nZ (dc 15) [(0, aF a_1), (1, AV.ptr 0 0 [] 0), (2, AV.bool false), (3, AV.ptr 1 0 [] 0), (5, aF a_1), (6, AV.dq 120 [AV.ptr 2 0 [] 0])]))]) ∧
 (a_1.hl.length ≤ 9223372036854775807 ∧ a_1.bl.length ≤ 9223372036854775807) ∧ ax (aG (uS a_1)) (K (AV.bool true) []) (aZ (decide (Kp.tree κ = Kp.tree
 κ)) (K (AV.bool false) []))) := by kernel_rfl
def Rh : List AV → Option (Bool × AV)
 | [.agg [.agg [.lit (.string rel), .ae 52 hl], .ae 55 bl, .lit (.int .i64 _)]] => some (decide (hl.length ≤ aI) && decide (bl.length ≤ aI), .bool (aG ⟨⟨rel, aa hl⟩, bn bl⟩))
 | _ => none
theorem p16 (κ : Kp) : bM (Pt κ) 12 54 Rh := by
 intro args x hh
 unfold Rh at hh
 split at hh
 ·rename_i rel hl bl line
  simp only [aa3, aa9, aa1, aa0] at hh
  obtain ⟨⟨h1, h2⟩, rfl⟩ := hh
  refine ⟨_, rfl, rfl, ?_⟩
  rw [y16 κ ⟨[], [], rel, hl, bl, line, 0⟩]
  refine ⟨⟨[], [], rel, hl, bl, line, 0⟩, rfl, ⟨h1, h2⟩, ?_⟩
  rw [af]
  refine ⟨fun e => ?_, fun e => ?_⟩
  ·rw [show aG ⟨⟨rel, aa hl⟩, bn bl⟩ = true from e]
  ·rw [show aG ⟨⟨rel, aa hl⟩, bn bl⟩ = false from e]
   simp [aZ]
 ·cases hh
noncomputable def QR (κ : Kp) : Env := (Pt κ).au 54 Rh
theorem TB (κ : Kp) : aw (QR κ) := (Z9 κ).au (Ui κ) (p16 κ)
theorem Tz (κ : Kp) : ai (QR κ) := (Ui κ).au
def Nv (l : List AV) : List AV × List Dn.Obj := ([.ae 52 l], [])
def Nt (n : Nat) (l : List AV) : Prop := aH (aa l) = n ∧ n ≤ 100000
def I5 (l : List AV) : Out (AV × List Dn.Obj) := .one (.a7 0 0 (an (aa l)).length, [.row 9 (strs (an (aa l)))])
def I4 (n : Nat) : ez := a8 Nv (Nt n) I5
noncomputable def yt (κ : Kp) (r : Nat) : Env := (QR κ).ar 84 fun args st K => ∃ m, m < r ∧ I4 m args st K
theorem YI (κ : Kp) (r : Nat) (l : List AV) (i : Int) (xs : List AV) (k : Nat) (I : Nat → S → Prop) (n : Nat) (K : Exit → S → Prop) : (vc (yt κ r) 12 84 none 0 (ag (Pr κ).toProgram 84 3) (sp 27 [(3, .a7 0 0 k), (6, .ae 52 l), (7, .int l.length), (8, .int i)] [.row 9 xs]) (bC (yt κ r) 84 3 0 I n K)) = (
 letI z1 := IntKind.wrap IntKind.i64 (i + (1 : Int))
 letI z2 := nth l i.toNat
 ax (decide (i < (↑(l.length) : Int))) (aZ (decide ((0 : Int) ≤ i) && decide (i < (↑(l.length) : Int))) (ax (toInt (ad z2 0) == (1 : Int)) (aZ (decide ((k + 1 +
 1) * 17 ≤ 70368744177664)) (∃ (m : Nat), m < r ∧ ∃ (a : List AV), ([AV.ae 52 (ah (ad z2 3))], az) = ([AV.ae 52 a], az) ∧ (aH (aa a) = m ∧ m ≤ 100000) ∧ aZ
 (decide ((k + 1 + List.length (List.take (List.length (an (aa a))) (List.drop 0 (strs (an (aa a))))) + 1) * 17 ≤ 70368744177664)) (∃ (m : Nat), m < n ∧ I m (sp
 27 [(3, AV.a7 0 0 (k + 1 + List.length (List.take (List.length (an (aa a))) (List.drop 0 (strs (an (aa a))))))), (6, AV.ae 52 l), (7, AV.int (↑(l.length) :
 Int)), (8, AV.int z1)] [Obj.row 9 (List.take (k + 1) (List.take k xs ++ [AV.str (toStr (ad z2 1))]) ++ List.take (List.length (an (aa a))) (List.drop 0 (strs
 (an (aa a)))))])))) (∃ (m : Nat), m < r ∧ ∃ (a : List AV), ([AV.ae 52 (ah (ad z2 3))], az) = ([AV.ae 52 a], az) ∧ (aH (aa a) = m ∧ m ≤ 100000) ∧ aZ (decide ((k
 + List.length (List.take (List.length (an (aa a))) (List.drop 0 (strs (an (aa a))))) + 1) * 17 ≤ 70368744177664)) (∃ (m : Nat), m < n ∧ I m (sp 27 [(3, AV.a7 0
 0 (k + List.length (List.take (List.length (an (aa a))) (List.drop 0 (strs (an (aa a))))))), (6, AV.ae 52 l), (7, AV.int (↑(l.length) : Int)), (8, AV.int z1)]
 [Obj.row 9 (List.take k xs ++ List.take (List.length (an (aa a))) (List.drop 0 (strs (an (aa a)))))]))))) (K (Exit.exit 0) (sp 27 [(3, AV.a7 0 0 k)] [Obj.row 9
 xs]))) := by kernel_rfl
abbrev D4 (a : List AV × Int × List ByteArray) : S := sp 27 [(3, .a7 0 0 a.2.2.length), (6, .ae 52 a.1), (7, .int a.1.length), (8, .int a.2.1)] [.row 9 (strs a.2.2)]
def Dq (r : Nat) (a : List AV × Int × List ByteArray) : Prop := a.1.length ≤ aI ∧ 0 ≤ a.2.1 ∧ a.2.1 ≤ a.1.length ∧ aH (aa (a.1.drop a.2.1.toNat)) ≤ r ∧ a.2.2.length + aH (aa (a.1.drop a.2.1.toNat)) ≤ 100000
def tI (a : List AV × Int × List ByteArray) : Out (Exit × S) := .one (.exit 0, sp 27 [(3, .a7 0 0 (a.2.2 ++ an (aa (a.1.drop a.2.1.toNat))).length)] [.row 9 (strs (a.2.2 ++ an (aa (a.1.drop a.2.1.toNat))))])
theorem K0 (l : List AV) (i : Nat) (h : i < l.length) : aH (aa (l.drop i)) = 1 + aH (aa (ah (ad (nth l i) 3))) + aH (aa (l.drop (i + 1))) := by
 rw [cy l i h, aH, bX, Tm.gF]
theorem Hw (l : List AV) (i : Nat) (h : i < l.length) : an (aa (l.drop i)) = (bif decide (toInt (ad (nth l i) 0) = 1) then [toStr (ad (nth l i) 1)] else []) ++ an (aa (ah (ad (nth l i) 3))) ++ an (aa (l.drop (i + 1))) := by
 rw [cy l i h, an, bX, Tm.vars]
theorem l31 (κ : Kp) (r : Nat) : bg (yt κ r) 12 84 3 (aK 0 D4 (Dq r) tI) := by
 refine aO (fun a => a.1.length - a.2.1.toNat) ?_
 rintro ⟨l, i, vs⟩ K ⟨h1, h2, h3, h4, h5⟩ ho
 simp only at h1 h2 h3 h4 h5
 rw [show (yt κ r).P = Pr κ from rfl]
 refine Eq.mpr (YI κ r l i (strs vs) vs.length _ _ K) ?_
 simp only [ab0, cB]
 simp only [aI] at h1
 simp only [af, aq, aa0, aa2, aa1, beq_iff_eq, beq_eq_false_iff_ne]
 refine ⟨fun hi => ⟨⟨h2, hi⟩, ?_⟩, fun hi => ?_⟩
 ·have hc := K0 l i.toNat (by omega)
  have hv := Hw l i.toNat (by omega)
  have hle := cq (aa (ah (ad (nth l i.toNat) 3)))
  rw [aU (n := i + 1) (by omega) (by omega)]
  refine ⟨fun e1 => ⟨by omega, _, ?_, ah (ad (nth l i.toNat) 3), rfl, ⟨rfl, by omega⟩, ?_, _, ?_, (l, i + 1, vs ++ [toStr (ad (nth l i.toNat) 1)] ++ an (aa (ah (ad (nth l i.toNat) 3)))), ?_, ⟨by simpa [aI] using h1, by simp only; omega, by simp only; omega, ?_, ?_⟩, rfl, ?_⟩,
   fun e1 => ⟨_, ?_, ah (ad (nth l i.toNat) 3), rfl, ⟨rfl, by omega⟩, ?_, _, ?_, (l, i + 1, vs ++ an (aa (ah (ad (nth l i.toNat) 3)))), ?_, ⟨by simpa [aI] using h1, by simp only; omega, by simp only; omega, ?_, ?_⟩, rfl, ?_⟩⟩
  all_goals first
   | omega
   | (simp only [aM]; omega)
   | (simp only [show (i + 1).toNat = i.toNat + 1 by omega, ab9, List.length_cons, List.length_nil]; omega)
   | skip
  ·simp only [D4, gn, aM, ab9, List.length_cons, List.length_nil]
   rw [List.take_of_length_le (by simp [aM])]
   rfl
  ·simp only [tI, Out.run, show (i + 1).toNat = i.toNat + 1 by omega] at ho ⊢
   rw [hv, aa6 e1] at ho
   simpa [List.append_assoc] using ho
  ·simp only [D4, gn, aM, ab9]
  ·simp only [tI, Out.run, show (i + 1).toNat = i.toNat + 1 by omega] at ho ⊢
   rw [hv, aa4 e1] at ho
   simpa [List.append_assoc] using ho
 ·simp only [tI, Out.run] at ho
  rw [aa8 (by omega)] at ho
  simpa [aa, an] using ho
noncomputable def F1 (κ : Kp) (r : Nat) : Env := (yt κ r).aj 84 3 (aK 0 D4 (Dq r) tI)
theorem ZN (κ : Kp) (r : Nat) (l : List AV) (K : AV → List Dn.Obj → Prop) : (a9 (F1 κ r) 12 84 [.ae 52 l] [] K) = (
 letI z1 := Pg.toProgram (Env.P (yt κ r))
 ag z1 84 3 = ag z1 84 3 ∧ ∃ (a : List AV × Int × List ByteArray), sp 27 [(3, AV.a7 0 0 0), (6, AV.ae 52 l), (7, AV.int (↑(l.length) : Int)), (8, AV.int 0)]
 [Obj.row 9 []] = sp 27 [(3, AV.a7 0 0 (List.length (a.2.2))), (6, AV.ae 52 a.1), (7, AV.int (↑(a.1.length) : Int)), (8, AV.int a.2.1)] [Obj.row 9 (strs
 (a.2.2))] ∧ (a.1.length ≤ 9223372036854775807 ∧ (0 : Int) ≤ a.2.1 ∧ a.2.1 ≤ (↑(a.1.length) : Int) ∧ aH (aa (List.drop a.2.1.toNat a.1)) ≤ r ∧ List.length
 (a.2.2) + aH (aa (List.drop a.2.1.toNat a.1)) ≤ 100000) ∧ K (AV.a7 0 0 (List.length (a.2.2 ++ an (aa (List.drop a.2.1.toNat a.1))))) [Obj.row 9 (strs (a.2.2 ++
 an (aa (List.drop a.2.1.toNat a.1))))]) := by kernel_rfl
theorem Gw (n : Nat) : (I4 n).ot := aJ
theorem RT (κ : Kp) (r : Nat) (hp : ∀ args st K, (∃ m, m < r ∧ I4 m args st K) → dz (Pr κ) 84 args st K) : aw (F1 κ r) ∧ ai (F1 κ r) ∧ (F1 κ r).P = Pr κ :=
 have h : aw (yt κ r) := (TB κ).iN hp
 have hm : ai (yt κ r) := (Tz κ).ar (fun _ _ _ _ hK ⟨m, h1, h2⟩ => ⟨m, h1, Gw m _ _ _ _ hK h2⟩)
 ⟨h.aj hm (l31 κ r), hm.aj aE, rfl⟩
theorem Zi (κ : Kp) (r : Nat) : bJ (F1 κ r) 12 84 (I4 r) := by
 refine bh ?_
 rintro l K ⟨h1, h2⟩ ho
 refine Eq.mpr (ZN κ r l K) ?_
 have := dh (aa l)
 rw [cL] at this
 refine ⟨rfl, (l, 0, []), rfl, ⟨by simp only; omega, by simp only; omega, by simp only; omega, ?_, ?_⟩, ?_⟩
 ·simp only [ab8, ab0]; omega
 ·simp only [ab8, ab0, List.length_nil]; omega
 ·simp only [ab8, ab0, List.nil_append]
  exact ho
def bu (l : List AV) : Prop := aH (aa l) ≤ 100000
theorem We (κ : Kp) : ∀ args st K, a8 Nv bu I5 args st K → dz (Pr κ) 84 args st K := by
 rintro args st K ⟨l, h1, h2, h3⟩
 exact aw.qH I4 (F1 κ) (RT κ) (Zi κ) (aH (aa l)) args st K ⟨l, h1, ⟨rfl, h2⟩, h3⟩
noncomputable def K7 (κ : Kp) : Env := (QR κ).ar 84 (a8 Nv bu I5)
theorem e31 (κ : Kp) : aw (K7 κ) := (TB κ).iN (We κ)
theorem UC (κ : Kp) : ai (K7 κ) := (Tz κ).ar aJ
theorem x23 (κ : Kp) (l : List AV) (i : Int) (es : List (Value × AV)) (I : Nat → S → Prop) (n : Nat) (K : Exit → S → Prop) : (vc (K7 κ) 12 81 none 1 (ag (Pr κ).toProgram 81 1) (sp 15 [(0, .mp 0), (6, .ae 9 l), (7, .int l.length), (8, .int i)] [.map 9 4 es]) (bC (K7 κ) 81 1 1 I n K)) = (
 ax (decide (i < (↑(l.length) : Int))) (aZ (decide ((0 : Int) ≤ i) && decide (i < (↑(l.length) : Int))) (∃ (m : Nat), m < n ∧ I m (sp 15 [(0, AV.mp 0), (6,
 AV.ae 9 l), (7, AV.int (↑(l.length) : Int)), (8, AV.int (IntKind.wrap IntKind.i64 (i + (1 : Int))))] [Dn.Obj.map 9 4 (ft es (Value.string (toStr (nth l
 i.toNat))) (AV.bool true))]))) (K (Exit.exit 0) (sp 15 [] [Dn.Obj.map 9 4 es]))) := by kernel_rfl
abbrev Mh (a : List AV × Int × List (Value × AV)) : S := sp 15 [(0, .mp 0), (6, .ae 9 a.1), (7, .int a.1.length), (8, .int a.2.1)] [.map 9 4 a.2.2]
def sU (a : List AV × Int × List (Value × AV)) : Prop := a.1.length ≤ aI ∧ 0 ≤ a.2.1 ∧ a.2.1 ≤ a.1.length
def xO (a : List AV × Int × List (Value × AV)) : Out (Exit × S) := .one (.exit 0, sp 15 [] [.map 9 4 (gK a.2.2 (a.1.drop a.2.1.toNat))])
theorem V1 (κ : Kp) : bg (K7 κ) 12 81 1 (aK 1 Mh sU xO) := by
 refine aO (fun a => a.1.length - a.2.1.toNat) ?_
 rintro ⟨l, i, es⟩ K ⟨h1, h2, h3⟩ ho
 simp only at h1 h2 h3
 rw [show (K7 κ).P = Pr κ from rfl]
 refine Eq.mpr (x23 κ l i es _ _ K) ?_
 simp only [aI] at h1
 simp only [af, aq, aa0, aa2, aa1]
 refine ⟨fun hi => ⟨⟨h2, hi⟩, ?_⟩, fun hi => ?_⟩
 ·rw [aU (n := i + 1) (by omega) (by omega)]
  refine ⟨_, ?_, (l, i + 1, ft es (.string (toStr (nth l i.toNat))) (.lit (.bool true))), rfl, ⟨by simpa [aI] using h1, by simp only; omega, by simp only; omega⟩, rfl, ?_⟩
  ·simp only; omega
  ·simp only [xO, Out.run] at ho ⊢
   rw [ab1 (show i.toNat < l.length by omega), gK, ← bx l i.toNat (by omega)] at ho
   rw [show (i + 1).toNat = i.toNat + 1 by omega]
   exact ho
 ·simp only [xO, Out.run] at ho
  rw [aa8 (by omega)] at ho
  exact ho
noncomputable def HM (κ : Kp) : Env := (K7 κ).aj 81 1 (aK 1 Mh sU xO)
theorem RL (κ : Kp) : aw (HM κ) := (e31 κ).aj (UC κ) (V1 κ)
theorem OR (κ : Kp) : ai (HM κ) := (UC κ).aj aE
theorem W4 (κ : Kp) (l : List AV) (es : List (Value × AV)) (K : AV → List Dn.Obj → Prop) : (a9 (HM κ) 12 81 [.mp 0, .ae 9 l] [.map 9 4 es] K) = (
 letI z1 := Pg.toProgram (Env.P (K7 κ))
 ag z1 81 1 = ag z1 81 1 ∧ ∃ (a : List AV × Int × List (Value × AV)), sp 15 [(0, AV.mp 0), (6, AV.ae 9 l), (7, AV.int (↑(l.length) : Int)), (8, AV.int 0)]
 [Dn.Obj.map 9 4 es] = sp 15 [(0, AV.mp 0), (6, AV.ae 9 a.1), (7, AV.int (↑(a.1.length) : Int)), (8, AV.int a.2.1)] [Dn.Obj.map 9 4 (a.2.2)] ∧ (a.1.length ≤
 9223372036854775807 ∧ (0 : Int) ≤ a.2.1 ∧ a.2.1 ≤ (↑(a.1.length) : Int)) ∧ K (AV.bR []) [Dn.Obj.map 9 4 (gK (a.2.2) (List.drop a.2.1.toNat a.1))]) := by kernel_rfl
def Lq (a : List AV × List (Value × AV)) : List AV × List Dn.Obj := ([.mp 0, .ae 9 a.1], [.map 9 4 a.2])
def br (a : List AV × List (Value × AV)) : Prop := a.1.length ≤ aI
def LV (a : List AV × List (Value × AV)) : Out (AV × List Dn.Obj) := .one (.bR [], [.map 9 4 (gK a.2 a.1)])
theorem Wo (κ : Kp) : bJ (HM κ) 12 81 (a8 Lq br LV) := by
 refine bh ?_
 rintro ⟨l, es⟩ K h1 ho
 refine Eq.mpr (W4 κ l es K) ?_
 exact ⟨rfl, (l, 0, es), rfl, ⟨h1, by simp only; omega, by simp only; omega⟩, ho⟩
noncomputable def Kn (κ : Kp) : Env := (HM κ).ar 81 (a8 Lq br LV)
theorem Zm (κ : Kp) : aw (Kn κ) := (RL κ).ar (OR κ) (Wo κ)
theorem Vb (κ : Kp) : ai (Kn κ) := (OR κ).ar aJ
theorem ZK (κ : Kp) (l : List AV) (i : Int) (es : List (Value × AV)) (I : Nat → S → Prop) (n : Nat) (K : Exit → S → Prop) : (vc (Kn κ) 12 155 none 2 (ag (Pr κ).toProgram 155 2) (sp 19 [(0, .ae 9 l), (1, .dq 130 [.ptr 1 0 [] 0]), (7, .int l.length), (8, .int i)] [.map 9 4 es, .box 114 (.mp 0)]) (bC (Kn κ) 155 2 2 I n K)) = (
 ax (decide (i < (↑(l.length) : Int))) (aZ (decide ((0 : Int) ≤ i) && decide (i < (↑(l.length) : Int))) (ax (!Dn.toBool (eg es (Value.string (toStr (nth l
 i.toNat))) (AV.bool false))) (K Exit.ret (sp 19 [(4, AV.int i)] [Dn.Obj.map 9 4 es, Obj.box 114 (AV.mp 0)])) (∃ (m : Nat), m < n ∧ I m (sp 19 [(0, AV.ae 9 l),
 (1, AV.dq 130 [AV.ptr 1 0 [] 0]), (7, AV.int (↑(l.length) : Int)), (8, AV.int (IntKind.wrap IntKind.i64 (i + (1 : Int))))] [Dn.Obj.map 9 4 es, Obj.box 114
 (AV.mp 0)])))) (K (Exit.exit 0) (sp 19 [] [Dn.Obj.map 9 4 es, Obj.box 114 (AV.mp 0)]))) := by kernel_rfl
abbrev I9 (es : List (Value × AV)) : List Dn.Obj := [.map 9 4 es, .box 114 (.mp 0)]
abbrev Ma (a : List AV × Int × List (Value × AV)) : S := sp 19 [(0, .ae 9 a.1), (1, .dq 130 [.ptr 1 0 [] 0]), (7, .int a.1.length), (8, .int a.2.1)] (I9 a.2.2)
def yQ (a : List AV × Int × List (Value × AV)) : Out (Exit × S) :=
 .ax (gm a.2.2 (a.1.drop a.2.1.toNat)) (.one (.exit 0, sp 19 [] (I9 a.2.2))) (.all (fun j : Int => 0 ≤ j) fun j => .one (.ret, sp 19 [(4, .int j)] (I9 a.2.2)))
theorem Y2 (κ : Kp) : bg (Kn κ) 12 155 2 (aK 2 Ma sU yQ) := by
 refine aO (fun a => a.1.length - a.2.1.toNat) ?_
 rintro ⟨l, i, es⟩ K ⟨h1, h2, h3⟩ ho
 simp only at h1 h2 h3
 rw [show (Kn κ).P = Pr κ from rfl]
 refine Eq.mpr (ZK κ l i es _ _ K) ?_
 simp only [aI] at h1
 simp only [yQ, Out.run, af] at ho
 simp only [af, aq, aa0, aa2, aa1, Bool.not_eq_true', ab2]
 refine ⟨fun hi => ⟨⟨h2, hi⟩, ?_⟩, fun hi => ?_⟩
 ·rw [ab1 (show i.toNat < l.length by omega), ← bx l i.toNat (by omega)] at ho
  simp only [gm, ac1] at ho
  refine ⟨fun e => ?_, fun e => ?_⟩
  ·have e' : sV es (toStr (nth l i.toNat)) = false := e
   exact ho.2 (by rw [e']; rfl) i h2
  ·have e' : sV es (toStr (nth l i.toNat)) = true := e
   rw [e', ac0] at ho
   rw [aU (n := i + 1) (by omega) (by omega)]
   refine ⟨_, ?_, (l, i + 1, es), rfl, ⟨by simpa [aI] using h1, by simp only; omega, by simp only; omega⟩, rfl, ?_⟩
   ·simp only; omega
   ·simp only [yQ, Out.run, af, show (i + 1).toNat = i.toNat + 1 by omega]
    exact ho
 ·rw [aa8 (by omega)] at ho
  exact ho.1 rfl
noncomputable def IF (κ : Kp) : Env := (Kn κ).aj 155 2 (aK 2 Ma sU yQ)
theorem Su (κ : Kp) : aw (IF κ) := (Zm κ).aj (Vb κ) (Y2 κ)
theorem PL (κ : Kp) : ai (IF κ) := (Vb κ).aj aE
theorem ZH (κ : Kp) (l : List AV) (es : List (Value × AV)) (K : AV → List Dn.Obj → Prop) : (a9 (IF κ) 12 83 [.mp 0, .ae 9 l] [.map 9 4 es] K) = (
 letI z1 := Pg.toProgram (Env.P (Kn κ))
 ag z1 155 2 = ag z1 155 2 ∧ ∃ (a : List AV × Int × List (Value × AV)), sp 19 [(0, AV.ae 9 l), (1, AV.dq 130 [AV.ptr 1 0 [] 0]), (7, AV.int (↑(l.length) : Int)),
 (8, AV.int 0)] [Dn.Obj.map 9 4 es, Obj.box 114 (AV.mp 0)] = sp 19 [(0, AV.ae 9 a.1), (1, AV.dq 130 [AV.ptr 1 0 [] 0]), (7, AV.int (↑(a.1.length) : Int)), (8,
 AV.int a.2.1)] [Dn.Obj.map 9 4 (a.2.2), Obj.box 114 (AV.mp 0)] ∧ (a.1.length ≤ 9223372036854775807 ∧ (0 : Int) ≤ a.2.1 ∧ a.2.1 ≤ (↑(a.1.length) : Int)) ∧ ax (gm
 (a.2.2) (List.drop a.2.1.toNat a.1)) (K (AV.bool true) [Dn.Obj.map 9 4 (a.2.2)]) (∀ (y : Int), (0 : Int) ≤ y → K (AV.lit (Value.bool !decide (y ≥ (0 : Int))))
 [Dn.Obj.map 9 4 (a.2.2)])) := by kernel_rfl
def IN (a : List AV × List (Value × AV)) : Out (AV × List Dn.Obj) := .one (.bool (gm a.2 a.1), [.map 9 4 a.2])
theorem XQ (κ : Kp) : bJ (IF κ) 12 83 (a8 Lq br IN) := by
 refine bh ?_
 rintro ⟨l, es⟩ K h1 ho
 refine Eq.mpr (ZH κ l es K) ?_
 refine ⟨rfl, (l, 0, es), rfl, ⟨h1, by simp only; omega, by simp only; omega⟩, ?_⟩
 simp only [IN, Out.run] at ho
 simp only [ab8, ab0]
 rw [af]
 refine ⟨fun e => by rw [e] at ho; exact ho, fun e j hj => ?_⟩
 rw [e] at ho
 rw [aa6 (show j ≥ 0 from hj)]
 exact ho
noncomputable def Ki (κ : Kp) : Env := (IF κ).ar 83 (a8 Lq br IN)
theorem Xp (κ : Kp) : aw (Ki κ) := (Su κ).ar (PL κ) (XQ κ)
theorem Uw (κ : Kp) : ai (Ki κ) := (PL κ).ar aJ
theorem Z3 (κ : Kp) (l : List AV) (i : Int) (vs : List ByteArray) (I : Nat → S → Prop) (n : Nat) (K : Exit → S → Prop) : (vc (Ki κ) 12 168 none 0 (ag (Pr κ).toProgram 168 3) (sp 23 [(3, .a7 0 0 vs.length), (7, .ae 52 l), (8, .int l.length), (9, .int i)] [.row 9 (strs vs)]) (bC (Ki κ) 168 3 0 I n K)) = (
 letI z1 := nth l i.toNat
 letI z2 := IntKind.wrap IntKind.i64 (i + (1 : Int))
 ax (decide (i < (↑(l.length) : Int))) (aZ (decide ((0 : Int) ≤ i) && decide (i < (↑(l.length) : Int))) (ax (decide (toInt (ad z1 0) ≥ (5 : Int))) (∃ (a : List
 AV), ([AV.ae 52 [AV.agg [AV.int (toInt (ad z1 0)), AV.str (toStr (ad z1 1)), AV.int (toInt (ad z1 2)), AV.ae 52 (ah (ad z1 3))]]], az) = ([AV.ae 52 a], az) ∧ bu
 a ∧ aZ (decide ((vs.length + List.length (List.take (List.length (an (aa a))) (List.drop 0 (strs (an (aa a))))) + 1) * 17 ≤ 70368744177664)) (∃ (m : Nat), m < n
 ∧ I m (sp 23 [(3, AV.a7 0 0 (vs.length + List.length (List.take (List.length (an (aa a))) (List.drop 0 (strs (an (aa a))))))), (7, AV.ae 52 l), (8, AV.int
 (↑(l.length) : Int)), (9, AV.int z2)] [Obj.row 9 (List.take vs.length (strs vs) ++ List.take (List.length (an (aa a))) (List.drop 0 (strs (an (aa a)))))]))) (∃
 (m : Nat), m < n ∧ I m (sp 23 [(3, AV.a7 0 0 vs.length), (7, AV.ae 52 l), (8, AV.int (↑(l.length) : Int)), (9, AV.int z2)] [Obj.row 9 (strs vs)])))) (K
 (Exit.exit 0) (sp 23 [(3, AV.a7 0 0 vs.length)] [Obj.row 9 (strs vs)]))) := by kernel_rfl
abbrev IM (a : List AV × Int × List ByteArray) : S := sp 23 [(3, .a7 0 0 a.2.2.length), (7, .ae 52 a.1), (8, .int a.1.length), (9, .int a.2.1)] [.row 9 (strs a.2.2)]
def Ev (a : List AV × Int × List ByteArray) : Prop := a.1.length ≤ aI ∧ 0 ≤ a.2.1 ∧ a.2.1 ≤ a.1.length ∧ a.2.2.length + aH (aa (a.1.drop a.2.1.toNat)) ≤ 100000
def vr (a : List AV × Int × List ByteArray) : Out (Exit × S) := .one (.exit 0, sp 23 [(3, .a7 0 0 (a.2.2 ++ cZ (aa (a.1.drop a.2.1.toNat))).length)] [.row 9 (strs (a.2.2 ++ cZ (aa (a.1.drop a.2.1.toNat))))])
theorem W1 (κ : Kp) : bg (Ki κ) 12 168 3 (aK 0 IM Ev vr) := by
 refine aO (fun a => a.1.length - a.2.1.toNat) ?_
 rintro ⟨l, i, vs⟩ K ⟨h1, h2, h3, h5⟩ ho
 simp only at h1 h2 h3 h5
 rw [show (Ki κ).P = Pr κ from rfl]
 refine Eq.mpr (Z3 κ l i vs _ _ K) ?_
 simp only [ab0, cB]
 simp only [aI] at h1
 simp only [af, aq, aa0, aa2, aa1]
 refine ⟨fun hi => ⟨⟨h2, hi⟩, ?_⟩, fun hi => ?_⟩
 ·have hv := Jv l i.toNat (by omega)
  have hc : aH (aa (l.drop i.toNat)) = aH [bI (nth l i.toNat)] + aH (aa (l.drop (i.toNat + 1))) := by
   rw [cy l i.toNat (by omega)]; simp only [aH, Nat.add_zero]
  have hle := cq [bI (nth l i.toNat)]
  have ht : aa [.agg [.int (toInt (ad (nth l i.toNat) 0)), .lit (.string (toStr (ad (nth l i.toNat) 1))), .int (toInt (ad (nth l i.toNat) 2)), .ae 52 (ah (ad (nth l i.toNat) 3))]] = [bI (nth l i.toNat)] := by
   simp only [aa, ac2, ac3]
   rw [kU, ← bX]
  rw [aU (n := i + 1) (by omega) (by omega)]
  refine ⟨fun e1 => ⟨_, rfl, ?_, ?_, _, ?_, (l, i + 1, vs ++ an [bI (nth l i.toNat)]), ?_, ⟨by simpa [aI] using h1, by simp only; omega, by simp only; omega, ?_⟩, rfl, ?_⟩, fun e1 => ⟨_, ?_, (l, i + 1, vs), rfl, ⟨by simpa [aI] using h1, by simp only; omega, by simp only; omega, ?_⟩, rfl, ?_⟩⟩
  ·simp only [bu, ht]; omega
  ·rw [ht, aM]; omega
  ·simp only; omega
  ·rw [ht]; simp only [IM, gn, aM, ab9]
  ·simp only [show (i + 1).toNat = i.toNat + 1 by omega, ab9]; omega
  ·simp only [vr, Out.run, show (i + 1).toNat = i.toNat + 1 by omega] at ho ⊢
   rw [hv, aa6 (show 5 ≤ toInt (ad (nth l i.toNat) 0) from e1)] at ho
   simpa [List.append_assoc] using ho
  ·simp only; omega
  ·simp only [show (i + 1).toNat = i.toNat + 1 by omega]; omega
  ·simp only [vr, Out.run, show (i + 1).toNat = i.toNat + 1 by omega] at ho ⊢
   rw [hv, aa4 (show ¬ 5 ≤ toInt (ad (nth l i.toNat) 0) from e1)] at ho
   simpa [List.append_assoc] using ho
 ·simp only [vr, Out.run] at ho
  rw [aa8 (by omega)] at ho
  simpa [aa, cZ] using ho
noncomputable def Hx (κ : Kp) : Env := (Ki κ).aj 168 3 (aK 0 IM Ev vr)
theorem Rm (κ : Kp) : aw (Hx κ) := (Xp κ).aj (Uw κ) (W1 κ)
theorem PN (κ : Kp) : ai (Hx κ) := (Uw κ).aj aE
theorem y62 (κ : Kp) (s : ByteArray) (l : List AV) (K : AV → List Dn.Obj → Prop) : (a9 (Hx κ) 12 168 [.agg [.lit (.string s), .ae 52 l]] [] K) = (
 letI z1 := Pg.toProgram (Env.P (Ki κ))
 ag z1 168 3 = ag z1 168 3 ∧ ∃ (a : List AV × Int × List ByteArray), sp 23 [(3, AV.a7 0 0 0), (7, AV.ae 52 l), (8, AV.int (↑(l.length) : Int)), (9, AV.int 0)]
 [Obj.row 9 []] = sp 23 [(3, AV.a7 0 0 (List.length (a.2.2))), (7, AV.ae 52 a.1), (8, AV.int (↑(a.1.length) : Int)), (9, AV.int a.2.1)] [Obj.row 9 (strs
 (a.2.2))] ∧ (a.1.length ≤ 9223372036854775807 ∧ (0 : Int) ≤ a.2.1 ∧ a.2.1 ≤ (↑(a.1.length) : Int) ∧ List.length (a.2.2) + aH (aa (List.drop a.2.1.toNat a.1)) ≤
 100000) ∧ K (AV.a7 0 0 (List.length (a.2.2 ++ cZ (aa (List.drop a.2.1.toNat a.1))))) [Obj.row 9 (strs (a.2.2 ++ cZ (aa (List.drop a.2.1.toNat a.1))))]) := by kernel_rfl
def Qs (a : ByteArray × List AV) : List AV × List Dn.Obj := ([.agg [.lit (.string a.1), .ae 52 a.2]], [])
def jz (a : ByteArray × List AV) : Prop := aH (aa a.2) ≤ 100000
def Mf (a : ByteArray × List AV) : Out (AV × List Dn.Obj) := .one (.a7 0 0 (cZ (aa a.2)).length, [.row 9 (strs (cZ (aa a.2)))])
theorem Yf (κ : Kp) : bJ (Hx κ) 12 168 (a8 Qs jz Mf) := by
 refine bh ?_
 rintro ⟨s, l⟩ K h1 ho
 simp only [jz] at h1
 refine Eq.mpr (y62 κ s l K) ?_
 have := dh (aa l)
 rw [cL] at this
 refine ⟨rfl, (l, 0, []), rfl, ⟨by simp only; omega, by simp only; omega, by simp only; omega, ?_⟩, ?_⟩
 ·simp only [ab8, ab0, List.length_nil]; omega
 ·simp only [ab8, ab0, List.nil_append]
  exact ho
noncomputable def OD (κ : Kp) : Env := (Hx κ).ar 168 (a8 Qs jz Mf)
theorem e62 (κ : Kp) : aw (OD κ) := (Rm κ).ar (PN κ) (Yf κ)
theorem Uq (κ : Kp) : ai (OD κ) := (PN κ).ar aJ
structure LA where
 op : Int
 s : ByteArray
 l : List AV
 o1 : Int
 s1 : ByteArray
 n1 : Int
 l1 : List AV
 o2 : Int
 s2 : ByteArray
 n2 : Int
 l2 : List AV
abbrev LA.av (a : LA) : AV := .agg [.int a.op, .agg [.lit (.string a.s), .ae 52 a.l], .agg [.int a.o1, .lit (.string a.s1), .int a.n1, .ae 52 a.l1], .agg [.int a.o2, .lit (.string a.s2), .int a.n2, .ae 52 a.l2]]
theorem y21 (κ : Kp) (a : LA) (K : AV → List Dn.Obj → Prop) : (a9 (OD κ) 12 117 [a.av] [] K) = (
 K (AV.bool (decide (a.op ≥ (7 : Int)))) []) := by kernel_rfl
def RS : List AV → Option (Bool × AV)
 | [.agg [.lit (.int .i64 op), .agg [.lit (.string _), .ae 52 _], .agg [.lit (.int .i64 _), .lit (.string _), .lit (.int .i64 _), .ae 52 _], .agg [.lit (.int .i64 _), .lit (.string _), .lit (.int .i64 _), .ae 52 _]]] => some (true, .bool (decide (7 ≤ op)))
 | _ => none
theorem V6 (κ : Kp) : bM (OD κ) 12 117 RS := by
 intro args x hh
 unfold RS at hh
 split at hh
 ·rename_i op s l o1 s1 n1 l1 o2 s2 n2 l2
  simp only [aa3, aa9, true_and] at hh
  subst hh
  exact ⟨_, rfl, rfl, Eq.mpr (y21 κ ⟨op, s, l, o1, s1, n1, l1, o2, s2, n2, l2⟩ _) rfl⟩
 ·cases hh
noncomputable def Qr (κ : Kp) : Env := (OD κ).au 117 RS
theorem WQ (κ : Kp) : aw (Qr κ) := (e62 κ).au (Uq κ) (V6 κ)
theorem Tn (κ : Kp) : ai (Qr κ) := (Uq κ).au
theorem Yd (κ : Kp) (a : LA) (K : AV → List Dn.Obj → Prop) : (a9 (Qr κ) 12 128 [a.av] [] K) = (
 ((∃ (a_1 : List AV), ([AV.ae 52 [AV.agg [AV.int a.o1, AV.str a.s1, AV.int a.n1, AV.ae 52 a.l1], AV.agg [AV.int a.o2, AV.str a.s2, AV.int a.n2, AV.ae 52
 a.l2]]], az) = ([AV.ae 52 a_1], az) ∧ bu a_1 ∧ ∃ (a_2 : List AV), ([AV.ae 52 a.l], az) = ([AV.ae 52 a_2], az) ∧ bu a_2 ∧ aZ (decide
 ((List.length (an (aa a_1)) + List.length (List.take (List.length (an (aa a_2))) (List.drop 0 (strs (an (aa a_2))))) + 1) * 17 ≤
 70368744177664)) (K (AV.a7 0 0 (List.length (an (aa a_1)) + List.length (List.take (List.length (an (aa a_2))) (List.drop 0 (strs (an (aa
 a_2))))))) [Obj.row 9 (List.take (List.length (an (aa a_1))) (strs (an (aa a_1))) ++ List.take (List.length (an (aa a_2))) (List.drop 0 (strs
 (an (aa a_2)))))])) ∧ (∃ (a_1 : List AV), ([AV.ae 52 [AV.agg [AV.int a.o1, AV.str a.s1, AV.int a.n1, AV.ae 52 a.l1], AV.agg [AV.int a.o2, AV.str a.s2,
 AV.int a.n2, AV.ae 52 a.l2]]], az) = ([AV.ae 52 a_1], az) ∧ bu a_1 ∧ ∃ (a_2 : List AV), ([AV.ae 52 a.l], az) = ([AV.ae 52 a_2], az) ∧ bu
 a_2 ∧ aZ (decide ((List.length (an (aa a_1)) + List.length (List.take (List.length (an (aa a_2))) (List.drop 0 (strs (an (aa a_2))))) + 1) *
 17 ≤ 70368744177664)) (K (AV.a7 0 0 (List.length (an (aa a_1)) + List.length (List.take (List.length (an (aa a_2))) (List.drop 0 (strs (an
 (aa a_2))))))) [Obj.row 9 (List.take (List.length (an (aa a_1))) (strs (an (aa a_1))) ++ List.take (List.length (an (aa a_2))) (List.drop
 0 (strs (an (aa a_2)))))])) ∧ (∃ (a_1 : List AV), ([AV.ae 52 [AV.agg [AV.int a.o1, AV.str a.s1, AV.int a.n1, AV.ae 52 a.l1], AV.agg [AV.int a.o2,
 AV.str a.s2, AV.int a.n2, AV.ae 52 a.l2]]], az) = ([AV.ae 52 a_1], az) ∧ bu a_1 ∧ ∃ (a_2 : List AV), ([AV.ae 52 a.l], az) = ([AV.ae 52 a_2],
 az) ∧ bu a_2 ∧ aZ (decide ((List.length (an (aa a_1)) + List.length (List.take (List.length (an (aa a_2))) (List.drop 0 (strs (an (aa
 a_2))))) + 1) * 17 ≤ 70368744177664)) (K (AV.a7 0 0 (List.length (an (aa a_1)) + List.length (List.take (List.length (an (aa a_2))) (List.drop 0
 (strs (an (aa a_2))))))) [Obj.row 9 (List.take (List.length (an (aa a_1))) (strs (an (aa a_1))) ++ List.take (List.length (an (aa
 a_2))) (List.drop 0 (strs (an (aa a_2)))))])) ∧ ∃ (a_1 : List AV), ([AV.ae 52 [AV.agg [AV.int a.o1, AV.str a.s1, AV.int a.n1, AV.ae 52 a.l1], AV.agg
 [AV.int a.o2, AV.str a.s2, AV.int a.n2, AV.ae 52 a.l2]]], az) = ([AV.ae 52 a_1], az) ∧ bu a_1 ∧ ∃ (a_2 : List AV), ([AV.ae 52 a.l], az) =
 ([AV.ae 52 a_2], az) ∧ bu a_2 ∧ aZ (decide ((List.length (an (aa a_1)) + List.length (List.take (List.length (an (aa a_2))) (List.drop 0
 (strs (an (aa a_2))))) + 1) * 17 ≤ 70368744177664)) (K (AV.a7 0 0 (List.length (an (aa a_1)) + List.length (List.take (List.length (an (aa
 a_2))) (List.drop 0 (strs (an (aa a_2))))))) [Obj.row 9 (List.take (List.length (an (aa a_1))) (strs (an (aa a_1))) ++ List.take (List.length
 (an (aa a_2))) (List.drop 0 (strs (an (aa a_2)))))])) ∧ ((∃ (a_1 : List AV), ([AV.ae 52 [AV.agg [AV.int a.o1, AV.str a.s1, AV.int a.n1, AV.ae 52
 a.l1], AV.agg [AV.int a.o2, AV.str a.s2, AV.int a.n2, AV.ae 52 a.l2]]], az) = ([AV.ae 52 a_1], az) ∧ bu a_1 ∧ ∃ (a_2 : List AV), ([AV.ae 52 a.l],
 az) = ([AV.ae 52 a_2], az) ∧ bu a_2 ∧ aZ (decide ((List.length (an (aa a_1)) + List.length (List.take (List.length (an (aa a_2)))
 (List.drop 0 (strs (an (aa a_2))))) + 1) * 17 ≤ 70368744177664)) (K (AV.a7 0 0 (List.length (an (aa a_1)) + List.length (List.take (List.length
 (an (aa a_2))) (List.drop 0 (strs (an (aa a_2))))))) [Obj.row 9 (List.take (List.length (an (aa a_1))) (strs (an (aa a_1))) ++
 List.take (List.length (an (aa a_2))) (List.drop 0 (strs (an (aa a_2)))))])) ∧ (∃ (a_1 : List AV), ([AV.ae 52 [AV.agg [AV.int a.o1, AV.str a.s1,
 AV.int a.n1, AV.ae 52 a.l1], AV.agg [AV.int a.o2, AV.str a.s2, AV.int a.n2, AV.ae 52 a.l2]]], az) = ([AV.ae 52 a_1], az) ∧ bu a_1 ∧ ∃ (a_2 : List
 AV), ([AV.ae 52 a.l], az) = ([AV.ae 52 a_2], az) ∧ bu a_2 ∧ aZ (decide ((List.length (an (aa a_1)) + List.length (List.take (List.length
 (an (aa a_2))) (List.drop 0 (strs (an (aa a_2))))) + 1) * 17 ≤ 70368744177664)) (K (AV.a7 0 0 (List.length (an (aa a_1)) + List.length
 (List.take (List.length (an (aa a_2))) (List.drop 0 (strs (an (aa a_2))))))) [Obj.row 9 (List.take (List.length (an (aa a_1))) (strs (an
 (aa a_1))) ++ List.take (List.length (an (aa a_2))) (List.drop 0 (strs (an (aa a_2)))))])) ∧ ∃ (a_1 : List AV), ([AV.ae 52 [AV.agg [AV.int
 a.o1, AV.str a.s1, AV.int a.n1, AV.ae 52 a.l1], AV.agg [AV.int a.o2, AV.str a.s2, AV.int a.n2, AV.ae 52 a.l2]]], az) = ([AV.ae 52 a_1], az) ∧ bu
 a_1 ∧ ∃ (a_2 : List AV), ([AV.ae 52 a.l], az) = ([AV.ae 52 a_2], az) ∧ bu a_2 ∧ aZ (decide ((List.length (an (aa a_1)) + List.length
 (List.take (List.length (an (aa a_2))) (List.drop 0 (strs (an (aa a_2))))) + 1) * 17 ≤ 70368744177664)) (K (AV.a7 0 0 (List.length (an (aa
 a_1)) + List.length (List.take (List.length (an (aa a_2))) (List.drop 0 (strs (an (aa a_2))))))) [Obj.row 9 (List.take (List.length (an (aa
 a_1))) (strs (an (aa a_1))) ++ List.take (List.length (an (aa a_2))) (List.drop 0 (strs (an (aa a_2)))))])) ∧ ((∃ (a_1 : List AV), ([AV.ae
 52 [AV.agg [AV.int a.o1, AV.str a.s1, AV.int a.n1, AV.ae 52 a.l1], AV.agg [AV.int a.o2, AV.str a.s2, AV.int a.n2, AV.ae 52 a.l2]]], az) = ([AV.ae 52 a_1],
 az) ∧ bu a_1 ∧ ∃ (a_2 : List AV), ([AV.ae 52 a.l], az) = ([AV.ae 52 a_2], az) ∧ bu a_2 ∧ aZ (decide ((List.length (an (aa a_1)) +
 List.length (List.take (List.length (an (aa a_2))) (List.drop 0 (strs (an (aa a_2))))) + 1) * 17 ≤ 70368744177664)) (K (AV.a7 0 0 (List.length
 (an (aa a_1)) + List.length (List.take (List.length (an (aa a_2))) (List.drop 0 (strs (an (aa a_2))))))) [Obj.row 9 (List.take (List.length
 (an (aa a_1))) (strs (an (aa a_1))) ++ List.take (List.length (an (aa a_2))) (List.drop 0 (strs (an (aa a_2)))))])) ∧ ∃ (a_1 : List
 AV), ([AV.ae 52 [AV.agg [AV.int a.o1, AV.str a.s1, AV.int a.n1, AV.ae 52 a.l1], AV.agg [AV.int a.o2, AV.str a.s2, AV.int a.n2, AV.ae 52 a.l2]]], az) =
 ([AV.ae 52 a_1], az) ∧ bu a_1 ∧ ∃ (a_2 : List AV), ([AV.ae 52 a.l], az) = ([AV.ae 52 a_2], az) ∧ bu a_2 ∧ aZ (decide ((List.length (an
 (aa a_1)) + List.length (List.take (List.length (an (aa a_2))) (List.drop 0 (strs (an (aa a_2))))) + 1) * 17 ≤ 70368744177664)) (K (AV.a7 0 0
 (List.length (an (aa a_1)) + List.length (List.take (List.length (an (aa a_2))) (List.drop 0 (strs (an (aa a_2))))))) [Obj.row 9 (List.take
 (List.length (an (aa a_1))) (strs (an (aa a_1))) ++ List.take (List.length (an (aa a_2))) (List.drop 0 (strs (an (aa a_2)))))])) ∧ ∃
 (a_1 : List AV), ([AV.ae 52 [AV.agg [AV.int a.o1, AV.str a.s1, AV.int a.n1, AV.ae 52 a.l1], AV.agg [AV.int a.o2, AV.str a.s2, AV.int a.n2, AV.ae 52 a.l2]]],
 az) = ([AV.ae 52 a_1], az) ∧ bu a_1 ∧ ∃ (a_2 : List AV), ([AV.ae 52 a.l], az) = ([AV.ae 52 a_2], az) ∧ bu a_2 ∧ aZ (decide ((List.length
 (an (aa a_1)) + List.length (List.take (List.length (an (aa a_2))) (List.drop 0 (strs (an (aa a_2))))) + 1) * 17 ≤ 70368744177664)) (K
 (AV.a7 0 0 (List.length (an (aa a_1)) + List.length (List.take (List.length (an (aa a_2))) (List.drop 0 (strs (an (aa a_2))))))) [Obj.row 9
 (List.take (List.length (an (aa a_1))) (strs (an (aa a_1))) ++ List.take (List.length (an (aa a_2))) (List.drop 0 (strs (an (aa
 a_2)))))])) := by kernel_rfl
def LA.lt (a : LA) : Lt := ⟨a.op, ⟨a.s, aa a.l⟩, .mk a.o1 a.s1 a.n1 (aa a.l1), .mk a.o2 a.s2 a.n2 (aa a.l2)⟩
def O5 (a : LA) : List AV × List Dn.Obj := ([a.av], [])
def fP (a : LA) : Prop := dC a.lt ≤ 100000
def IT (a : LA) : Out (AV × List Dn.Obj) := .one (.a7 0 0 (cx a.lt).length, [.row 9 (strs (cx a.lt))])
theorem Wt (κ : Kp) : bJ (Qr κ) 12 128 (a8 O5 fP IT) := by
 refine bh ?_
 rintro a K h1 ho
 refine Eq.mpr (Yd κ a K) ?_
 simp only [and_self]
 simp only [fP, dC, LA.lt] at h1
 have ht : aa [.agg [.int a.o1, .lit (.string a.s1), .int a.n1, .ae 52 a.l1], .agg [.int a.o2, .lit (.string a.s2), .int a.n2, .ae 52 a.l2]] = [.mk a.o1 a.s1 a.n1 (aa a.l1), .mk a.o2 a.s2 a.n2 (aa a.l2)] := by
  simp only [aa, ac2, ac3]
  rw [kU, kU]; rfl
 have e1 := cq (aa a.l)
 have e2 := cq [.mk a.o1 a.s1 a.n1 (aa a.l1), .mk a.o2 a.s2 a.n2 (aa a.l2)]
 refine ⟨_, rfl, ?_, _, rfl, ?_, ?_⟩
 ·simp only [bu, ht]; omega
 ·simp only [bu]; omega
 ·simp only [ab0, cB, ht, aM]
  rw [aq, aa0]
  refine ⟨by omega, ?_⟩
  simp only [IT, Out.run, cx, LA.lt, gn, ab9] at ho
  exact ho
noncomputable def Py (κ : Kp) : Env := (Qr κ).ar 128 (a8 O5 fP IT)
theorem e40 (κ : Kp) : aw (Py κ) := (WQ κ).ar (Tn κ) (Wt κ)
theorem U4 (κ : Kp) : ai (Py κ) := (Tn κ).ar aJ
structure TA where
 o1 : Int
 s1 : ByteArray
 n1 : Int
 l1 : List AV
 o2 : Int
 s2 : ByteArray
 n2 : Int
 l2 : List AV
 es : List (Value × AV)
theorem VS (κ : Kp) (a : TA) (K : AV → List Dn.Obj → Prop) : (a9 (Py κ) 12 116 [.mp 0, .agg [.int a.o1, .lit (.string a.s1), .int a.n1, .ae 52 a.l1], .agg [.int a.o2, .lit (.string a.s2), .int a.n2, .ae 52 a.l2]] [.map 9 4 a.es] K) = (
 letI z1 := K (AV.bool false) [Dn.Obj.map 9 4 a.es]
 ax (a.o1 == (1 : Int)) (ax (!Dn.toBool (eg a.es (Value.string a.s1) (AV.bool false))) (∃ (a_1 : List AV), ([AV.ae 52 [AV.agg [AV.int a.o2, AV.str a.s2, AV.int
 a.n2, AV.ae 52 a.l2]]], az) = ([AV.ae 52 a_1], az) ∧ bu a_1 ∧ ∃ (a_2 : List AV × List (Value × AV)), ([AV.mp 0, AV.ae 9 (List.take (List.length (an (aa a_1)))
 (List.drop 0 (strs (an (aa a_1)))))], [Dn.Obj.map 9 4 a.es]) = ([AV.mp 0, AV.ae 9 a_2.1], [Dn.Obj.map 9 4 a_2.2]) ∧ br a_2 ∧ K (AV.bool (gm a_2.2 a_2.1))
 [Dn.Obj.map 9 4 a_2.2]) z1) z1) := by kernel_rfl
def TA.x (a : TA) : Tm := .mk a.o1 a.s1 a.n1 (aa a.l1)
def TA.y (a : TA) : Tm := .mk a.o2 a.s2 a.n2 (aa a.l2)
def Ol (a : TA) : List AV × List Dn.Obj := ([.mp 0, .agg [.int a.o1, .lit (.string a.s1), .int a.n1, .ae 52 a.l1], .agg [.int a.o2, .lit (.string a.s2), .int a.n2, .ae 52 a.l2]], [.map 9 4 a.es])
def pb (a : TA) : Prop := aH [a.y] ≤ 100000
def Mb (a : TA) : Out (AV × List Dn.Obj) := .one (.bool (uY a.es a.x a.y), [.map 9 4 a.es])
theorem c20 (κ : Kp) : bJ (Py κ) 12 116 (a8 Ol pb Mb) := by
 refine bh ?_
 rintro a K h1 ho
 refine Eq.mpr (VS κ a K) ?_
 have ht : aa [.agg [.int a.o2, .lit (.string a.s2), .int a.n2, .ae 52 a.l2]] = [a.y] := by
  simp only [aa, ac2, ac3]
  rw [kU]; rfl
 have hle := cq [a.y]
 have ho' : K (.bool (decide (a.o1 = 1) && (!sV a.es a.s1 && gm a.es (strs (an [a.y]))))) [.map 9 4 a.es] := ho
 simp only [pb] at h1
 simp only [af, beq_iff_eq, beq_eq_false_iff_ne, Bool.not_eq_true', ab2]
 refine ⟨fun e1 => ⟨fun e2 => ?_, fun e2 => ?_⟩, fun e1 => ?_⟩
 ·have e2' : sV a.es a.s1 = false := e2
  rw [aa6 e1, e2'] at ho'
  refine ⟨_, rfl, by simp only [bu, ht]; exact h1, (strs (an [a.y]), a.es), ?_, ?_, ho'⟩
  ·simp only [ab0, cB, ht]
  ·simp only [br, aM, aI]; omega
 ·have e2' : sV a.es a.s1 = true := e2
  rw [aa6 e1, e2'] at ho'
  exact ho'
 ·rw [aa4 e1] at ho'
  exact ho'
noncomputable def QW (κ : Kp) : Env := (Py κ).ar 116 (a8 Ol pb Mb)
theorem QU (κ : Kp) : aw (QW κ) := (e40 κ).ar (U4 κ) (c20 κ)
theorem Ux (κ : Kp) : ai (QW κ) := (U4 κ).ar aJ
end Go.Proofs.YtdpmikfheebicaaGreatDoor
