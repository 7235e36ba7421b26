import Derived.Test.YtioeffnadipbaaaGreatDoorDeM1
import Derived.Test.YtioeffnadipbaaaGreatDoorProg
import Derived.Test.YtioeffnadipbaaaGreatDoorChecked
import Derived.WalkKit
import Derived.LaidEql
import Derived.Stop.Asserts
import Derived.RowKitTokens
namespace Go.Proofs.YtioeffnadipbaaaGreatDoor
open Go Go.Dn Go.Rl Go.Proofs
attribute [local irreducible] ba vc
set_option maxRecDepth 20000
def Su:List (Nat×List (Nat×List (Nat×Option Nat))):=[
 (3,[(17,[(1,none),(2,none),(5,none),(6,none),(8,none),(10,none),(11,none),(12,none)]),(18004,[(1,none),(2,none),(5,none),(6,none),(8,none)]),(18001,[(4,none)]),(8,[(1,none),(2,none),(5,none),(6,none),(8,none)]),(9002,[(1,none),(2,none),(5,none),(6,none)]),(9001,[(4,none)])]),
 (6,[(10,[(2,none),(7,none),(8,none),(10,none),(11,none),(12,none),(13,none)]),(11002,[(2,none),(7,none),(8,none),(10,none),(11,none),(12,none)])]),
 (7,[(13,[(7,none),(9,none),(11,none),(13,none)]),(14002,[(7,none)]),(14001,[(6,none)])]),
 (8,[(17,[(2,none),(5,none),(6,none),(13,none)]),(18004,[(5,none)]),(18001,[(4,none)]),(11,[(1,none),(2,none),(5,none),(6,none),(10,none)]),(12002,[(2,none),(5,none),(6,none)]),(12001,[(4,none)])]),
 (10,[(6,[(1,none),(2,none),(3,none),(7,none),(8,none),(9,none)]),(7002,[(1,none),(2,none),(3,none),(7,none),(8,none)])]),
 (12,[(22,[(1,none),(8,none),(9,none),(10,none)]),(23008,[(1,none),(8,none),(9,none)]),(23001,[(4,none)]),(16,[(1,none),(8,none),(9,none)]),(17006,[]),(17001,[(4,none)]),(8,[(1,none),(2,none),(5,none),(6,none),(7,none)]),(9004,[(1,none),(2,none),(5,none),(6,none)]),(4,[(1,none),(2,none),(5,none)]),(5002,[(1,none)]),(5001,[(4,none)])]),
 (16,[(9,[(0,none),(1,none),(5,none),(6,none)]),(10004,[(0,none),(1,none),(5,none)]),(10001,[(4,none)]),(4,[(0,none),(1,none),(5,none)]),(5002,[]),(5001,[(4,none)])]),
 (18,[(15,[(7,none),(10,none),(11,none),(13,none),(49,none),(50,none),(51,none)]),(16004,[(7,none),(10,none),(11,none),(13,none)]),(11,[(7,none),(10,some 35),(11,none),(12,none)]),(12002,[(10,none)])]),
 (19,[(17,[(2,none),(3,none),(11,none),(15,none),(50,none),(51,none),(52,none)]),(18007,[(2,none),(3,none),(11,none),(50,none),(51,none),(52,none)]),(15,[(2,none),(3,none),(11,none),(50,none),(51,none),(52,none)]),(16005,[(2,none),(11,none)]),(10,[(2,none),(3,none),(8,none),(11,some 51),(38,none),(39,none),(40,none)]),(11003,[(2,none),(3,none),(8,none),(11,none)])]),
 (20,[(4,[(0,none),(1,none),(5,none)]),(5002,[]),(5001,[(4,none)])]),
 (21,[(5,[(1,none),(3,none),(4,none)]),(6004,[(1,none),(3,none)]),(6001,[(2,none)]),(2,[(1,none),(3,none)]),(3002,[]),(3001,[(2,none)])]),
 (23,[(4,[(2,none),(18,none),(19,none),(20,none)]),(5002,[]),(5001,[(4,none)])]),
 (25,[(2,[(0,none),(1,none),(6,none)]),(3002,[]),(3001,[(4,none),(5,none)])]),
 (26,[(10,[(1,none),(2,none),(6,none),(7,none)]),(11004,[(1,none),(2,none),(6,none)]),(11001,[(4,none)]),(5,[(1,none),(2,none),(6,none)]),(6002,[]),(6001,[(4,none)])]),
 (29,[(8,[(1,none),(3,none),(5,none)]),(9004,[(1,none),(3,none)]),(3,[(1,none),(3,none),(4,none)]),(4002,[(1,none),(3,none)]),(4001,[(2,none)])]),
 (30,[(2,[(0,none),(3,none)]),(3002,[]),(3001,[(2,none)])]),
 (31,[(5,[(20,none),(21,none),(22,none)]),(6002,[]),(6001,[(2,none),(3,none)])]),
 (32,[(5,[(2,none),(3,none),(4,none),(7,none),(35,none),(36,none),(37,none)]),(6002,[(4,none),(7,none)])]),
 (35,[(4,[(2,none),(3,none),(6,some 72),(26,none),(27,none),(28,none)]),(5002,[(3,none),(6,none)])]),
 (37,[(2,[(0,none),(3,none)]),(3002,[]),(3001,[(2,none)])]),
 (42,[(8,[(3,none),(45,none),(46,none)]),(9004,[(3,none)])]),
 (43,[(2,[(0,none),(3,none),(11,none),(12,none),(13,none)]),(3002,[]),(3001,[(4,none),(5,none)])]),
 (44,[(6,[(0,none),(1,none),(5,none),(11,none),(12,none),(25,none)]),(7004,[(5,none)]),(7003,[(0,none),(1,none),(11,none),(12,none)]),(2,[(0,none),(1,none),(11,none),(12,none)]),(3002,[]),(3001,[(4,none)])]),
 (45,[(3,[(0,none),(1,none),(5,some 3),(11,none),(12,none)]),(4002,[(5,none)])]),
 (46,[(3,[(1,none),(2,none),(3,none),(4,none),(9,none),(16,none),(17,none),(18,none)]),(4002,[(9,none)]),(4001,[(8,none)])]),
 (47,[(3,[(3,none),(6,none),(7,none),(8,none)]),(4002,[(3,none)])]),
 (49,[(7,[(1,none),(2,none),(9,none),(10,none),(11,none),(21,none),(22,none),(23,none)]),(8004,[(1,none),(2,none),(9,none),(10,none),(11,none)]),(8001,[(4,none)]),(2,[(1,none),(2,none),(9,none),(10,none),(11,none)]),(3002,[(1,none)]),(3001,[(4,none)])]),
 (51,[(2,[(0,none),(3,none)]),(3002,[]),(3001,[(2,none)])]),
 (53,[(3,[(0,none),(1,none),(2,none),(8,none),(9,none),(10,none)]),(4002,[(0,none),(1,none),(2,none),(8,none),(9,none)])]),
 (55,[(3,[(3,some 70),(6,none),(7,none),(8,none)]),(4002,[(3,none)])]),
 (59,[(2,[(0,none),(3,none)]),(3002,[]),(3001,[(2,none)])]),
 (60,[(3,[(1,none),(2,none),(5,none)]),(4002,[(1,none)])]),
 (61,[(11,[(1,none),(38,none),(39,none),(40,none)]),(12004,[]),(12001,[(2,none),(3,none)]),(4,[(1,none),(16,none),(17,none),(18,none)]),(5002,[(1,none)]),(5001,[(2,none),(3,none)])]),
 (64,[(3,[(3,some 38),(6,none),(7,none),(8,none)]),(4002,[(3,none)])]),
 (65,[(8,[(2,none),(8,none),(32,none),(33,none),(34,none)]),(9003,[(2,none),(8,none)])]),
 (69,[(4,[(1,none),(2,none),(15,none),(16,none),(17,none)]),(5002,[]),(5001,[(6,none)])]),
 (71,[(4,[(1,none),(2,none),(15,none),(16,none),(17,none)]),(5002,[]),(5001,[(6,none)])]),
 (80,[(9,[(0,none),(1,none),(5,none),(6,none),(7,none)]),(10004,[(0,none),(5,none)]),(4,[(0,none),(1,none),(5,none)]),(5002,[(0,none)]),(5001,[(4,none)])]),
 (82,[(0,[(0,none),(1,none),(2,none)]),(1002,[]),(1001,[])]),
 (86,[(3,[(0,none),(5,none),(6,some 3)]),(4002,[(5,none)])]),
 (94,[(4,[(1,none),(31,none),(32,none),(33,none)]),(5002,[]),(5001,[(2,none)])]),
 (98,[(4,[(2,none),(3,none),(6,some 72),(26,none),(27,none),(28,none)]),(5002,[(3,none),(6,none)])]),
 (99,[(2,[(0,none),(1,none),(5,none)]),(3002,[(0,none),(1,none)]),(3001,[(4,none)])]),
 (100,[(2,[(0,none),(1,none),(2,none),(11,none),(12,none),(13,none)]),(3002,[(0,none),(1,none)]),(3001,[(6,none)])]),
 (104,[(4,[(1,none),(2,none),(5,none)]),(5002,[(1,none)])]),
 (105,[(5,[(1,none),(2,none),(5,none)]),(6002,[(1,none)])]),
 (106,[(11,[(6,none),(8,some 3),(36,none),(37,none),(38,none)]),(12004,[(8,none)]),(12001,[(4,none),(5,none)]),(4,[(3,none),(6,none)]),(5002,[(3,none),(6,none)]),(5001,[(4,none),(5,none)])]),
 (109,[(2,[(0,none),(1,none),(7,none),(8,none)]),(3002,[]),(3001,[(4,none)])]),
 (112,[(1,[(0,none),(6,none),(7,none),(8,none)]),(2002,[])]),
 (114,[(5,[(0,none),(1,none),(5,none),(6,none)]),(6002,[(0,none),(5,none)])]),
 (119,[(2,[(0,none),(1,none),(7,none),(8,none)]),(3002,[]),(3001,[(4,none)])]),
 (120,[(4,[(0,none),(1,none),(12,none),(13,none)]),(5002,[]),(5001,[(4,none)])]),
 (121,[(4,[(0,none),(1,none),(12,none),(13,none)]),(5002,[]),(5001,[(4,none)])]),
 (122,[(17,[(0,none),(3,none),(5,none),(10,none),(11,none),(44,none),(45,none),(46,none),(72,none),(73,none),(74,none)]),(18008,[(0,none),(3,none),(5,none),(11,none),(44,none),(45,none),(46,none)]),(18005,[(0,none),(3,none),(5,none),(44,none),(45,none),(46,none)]),(12,[(0,none),(3,none),(5,none),(10,none),(11,none),(44,none),(45,none),(46,none),(52,none),(53,none),(54,none)]),(13006,[(0,none),(3,none),(5,none),(10,none),(11,none),(44,none),(45,none),(46,none)]),(8,[(0,none),(3,none),(5,none),(44,none),(45,none),(46,none)]),(9004,[]),(9001,[]),(3,[(0,none),(1,none),(2,none),(3,none),(5,none),(6,some 72),(25,none),(26,none),(27,none)]),(4002,[(0,none),(1,none),(2,none),(3,none),(5,none),(6,none)])]),
 (123,[(7,[(1,none),(2,none),(7,none),(8,none),(10,none),(18,none),(19,none),(20,none),(26,none),(27,none),(28,none)]),(8004,[(1,none),(2,none),(7,none),(8,none),(10,none),(18,none),(19,none),(20,none)]),(8003,[(1,none),(2,none),(7,none),(8,none),(18,none),(19,none),(20,none)]),(4,[(1,none),(2,none),(7,none),(8,some 70),(18,none),(19,none),(20,none)]),(5002,[(8,none)])]),
 (126,[(5,[(0,none),(3,none),(4,none)]),(6002,[(3,none)])]),
 (127,[(5,[(0,none),(3,none),(4,none)]),(6002,[(3,none)])]),
 (128,[(9,[(0,none),(1,none),(2,none),(6,none),(7,none),(8,none)]),(10006,[(0,none),(1,none),(2,none),(6,none),(7,none)]),(7,[(0,none),(1,none),(2,none),(6,none)]),(8004,[]),(2,[(0,none),(1,none),(2,none),(6,none),(7,none),(8,none)]),(3002,[(0,none),(1,none),(2,none),(6,none),(7,none)])]),
 (129,[(5,[(0,none),(1,none),(5,none),(12,none),(13,none),(14,none),(28,none),(29,none),(30,none)]),(6004,[(0,none),(1,none),(12,none),(13,none),(14,none)]),(6001,[]),(1,[(0,none),(1,none),(12,none),(13,none),(14,none)]),(2002,[]),(2001,[])]),
 (131,[(2,[(0,none),(1,none),(7,none),(8,none)]),(3002,[]),(3001,[(4,none)])]),
 (138,[(4,[(18,none)]),(5002,[]),(5001,[(2,none)])]),
 (147,[(13,[(11,none),(45,none),(46,none),(47,none)]),(14005,[(11,none)])]),
 (152,[(3,[(0,none),(5,none),(14,none),(15,none),(16,none)]),(4002,[(5,none)]),(4001,[(4,none)])]),
 (155,[(3,[(3,some 9),(6,none),(7,none),(8,none)]),(4002,[(3,none)])]),
 (156,[(12,[(6,none),(26,none),(27,none),(28,none)]),(13004,[(6,none)]),(3,[(0,none),(3,none),(9,none),(10,none),(11,none)]),(4002,[(0,none),(3,none)])]),
 (158,[(17,[(1,none),(2,none),(43,none),(44,none),(45,none)]),(18005,[]),(18001,[(6,none)]),(1,[(0,none),(1,none),(2,none)]),(2001,[(6,none)])]),
 (159,[(4,[(1,none),(2,none),(5,none),(17,none),(18,none),(19,none)]),(5002,[(1,none),(2,none),(5,none)])]),
 (161,[(2,[(0,none),(1,none),(7,none),(8,none)]),(3002,[]),(3001,[(4,none)])]),
 (166,[(4,[(0,none),(1,none),(2,none),(3,none),(8,none),(9,none)]),(5004,[(0,none),(1,none),(2,none),(3,none),(8,none)]),(1,[(0,none),(1,none),(2,none),(3,none),(8,none)]),(2002,[])]),
 (167,[(33,[(0,none),(1,none),(2,none),(3,none),(4,none),(18,none),(19,none),(20,none),(21,none),(22,none)]),(34010,[(0,none),(1,none),(2,none),(3,none),(4,none),(18,none),(19,none),(20,none)]),(21,[(0,none),(14,none),(17,none)]),(22008,[]),(15,[(0,none),(2,none),(4,none),(14,none),(15,none)]),(16006,[(0,none),(2,none),(14,none)]),(9,[(0,none),(10,none),(13,none)]),(10004,[]),(3,[(0,none),(1,none),(4,none),(10,none),(11,none)]),(4002,[(0,none),(1,none),(10,none)])]),
 (168,[(2,[(0,none),(1,none),(7,none),(8,none)]),(3002,[]),(3001,[(4,none)])]),
 (169,[(3,[(0,none),(1,none),(3,none),(4,none),(13,none),(14,none)]),(4002,[]),(4001,[])]),
 (170,[(3,[(1,none),(2,none),(3,none),(7,none),(11,none),(12,none),(13,none)]),(4002,[(7,none)]),(4001,[(6,none)])]),
 (171,[(7,[(0,none),(57,none),(58,none),(59,none)]),(8004,[]),(8001,[]),(2,[(0,none),(1,none),(25,none),(26,none),(27,none)]),(3002,[(0,none),(1,none)]),(3001,[])]),
 (172,[(4,[(24,none),(25,none),(26,none)]),(5002,[]),(5001,[(2,none)])]),
 (176,[(5,[(0,none),(2,none),(3,none),(6,none),(7,none),(10,none),(11,none),(12,none),(18,none),(19,none),(20,none)]),(6004,[(0,none),(2,none),(3,none),(7,none),(10,none),(11,none),(12,none)]),(6003,[(0,none),(2,none),(3,none),(10,none),(11,none),(12,none)]),(1,[(0,none),(2,none),(3,none),(10,none),(11,none),(12,none)]),(2002,[]),(2001,[])]),
 (178,[(2,[(0,none),(1,none),(5,none)]),(3002,[(0,none),(1,none)]),(3001,[(4,none)])]),
 (179,[(1,[(0,none),(2,none),(3,none)]),(2002,[])]),
 (180,[(7,[(0,none),(5,none),(40,none),(41,none),(42,none)]),(8003,[]),(8001,[(4,none)])]),
 (185,[(8,[(2,none),(32,none),(33,none),(34,none)]),(9004,[]),(9001,[]),(3,[(2,none),(3,some 38),(14,none),(15,none),(16,none)]),(4002,[(2,none),(3,none)])]),
 (188,[(1,[(0,none),(6,none),(7,none),(8,none)]),(2002,[]),(2001,[])]),
 (189,[(2,[(0,none),(1,none),(7,none),(8,none)]),(3002,[]),(3001,[(4,none)])]),
 (190,[(2,[(0,none),(2,none),(4,none),(10,none),(11,none)]),(3002,[(0,none),(2,none),(4,none),(10,none)])]),
 (192,[(10,[(1,none),(49,none),(50,none),(51,none)]),(11003,[]),(11001,[(4,none)])]),
 (193,[(2,[(5,none),(6,none),(7,none)]),(3002,[]),(3001,[(2,none)])]),
 (196,[(2,[(0,none),(2,none),(4,none),(12,none),(13,none),(14,none)]),(3002,[(0,none),(2,none),(4,none)]),(3001,[(6,none)])]),
 (198,[(3,[(2,none),(11,none),(12,none),(13,none)]),(4002,[]),(4001,[])]),
 (199,[(1,[(0,none),(1,none),(2,none),(3,none),(10,none)]),(2002,[])]),
 (200,[(3,[(3,some 9),(7,none),(8,none),(9,none)]),(4002,[(3,none)])])
 ]
def Ym(k:Nat):List (Nat×List (Nat×Option Nat))->List (Nat×Option Nat)
 |[]=>[]
 |(j,l)::r=>bif Nat.beq j k then l else Ym k r
def XR(f k:Nat):List (Nat×List (Nat×List (Nat×Option Nat)))->List (Nat×Option Nat)
 |[]=>[]
 |(g,l)::r=>bif Nat.beq g f then Ym k l else XR f k r
def live(f k:Nat):List (Nat×Option TypeId):=XR f k Su
structure Kp where
 tree:Addr
 stuck:Addr
 T1:TypeId
 T2:TypeId
 z1:Nat×Nat
 z2:Nat×Nat
 ft:Addr
 arity:Addr
 type:Addr
 T3:TypeId
 T4:TypeId
 T5:TypeId
 z3:Nat×Nat
 z4:Nat×Nat
 z5:Nat×Nat
 c3:Array Value
 c4:Array Value
 c5:Array Value
 t3:TypeId
 t4:TypeId
 t5:TypeId
 d1:ft≠arity
 d2:ft≠type
 d3:arity≠type
 n3: ∀g,g∈[1,0,3,4,2]->ft.block≠g
 n4: ∀g,g∈[1,0,3,4,2]->arity.block≠g
 n5: ∀g,g∈[1,0,3,4,2]->type.block≠g
def UT(κ:Kp):Value:= .iface 273 (.pointer (some κ.tree))
def lO(κ:Kp):Value:= .iface 273 (.pointer (some κ.stuck))
def xz(κ:Kp)(b:Nat):Option Go.Obj:=
 bif Nat.beq b 1 then some (.cells #[.iface 273 (.pointer (some κ.tree))] κ.T1 κ.z1)
 else bif Nat.beq b 0 then some (.cells #[.iface 273 (.pointer (some κ.stuck))] κ.T2 κ.z2)
 else bif Nat.beq b 3 then some (.cells #[.iface 273 (.pointer (some κ.ft))] κ.T3 κ.z3)
 else bif Nat.beq b 4 then some (.cells #[.iface 273 (.pointer (some κ.arity))] κ.T4 κ.z4)
 else bif Nat.beq b 2 then some (.cells #[.iface 273 (.pointer (some κ.type))] κ.T5 κ.z5)
 else bif Nat.beq b κ.ft.block then some (.cells κ.c3 κ.t3 (0,0))
 else bif Nat.beq b κ.arity.block then some (.cells κ.c4 κ.t4 (0,0))
 else bif Nat.beq b κ.type.block then some (.cells κ.c5 κ.t5 (0,0))
 else none
def ax(κ:Kp)(ok:Bool):Value:=bif ok then .nilIface else .iface 273 (.pointer (some κ.tree))
theorem mf(κ:Kp)(b:Bool):ay (ax κ b)=true:=by cases b<;>rfl
theorem pq(κ:Kp)(b:Bool):bI (ax κ b)=b:=by cases b<;>rfl
theorem ng(κ:Kp)(b:Bool):a9 (ax κ b)=true:=by cases b<;>rfl
noncomputable abbrev Pr(κ:Kp):Pg:={toProgram:=Tryz.prog,kept:=xz κ}
theorem xI:pQ Tryz.prog:=Ma (by kernel_rfl)
def U1:List Nat:=[139,182,161,183,187,162,186,135,184,116,92,109,93,67,119,95,110,133,168,134,84,132,111,163,118,999999,999999]
def Xd:List Nat:=[114,170,999999,999999,999999,999999,999999]
def Pv:List Nat:=[174,138,201,194,195,173,192,172,175,193,96,164,189,137,999999,999999,999999,29,105,104,60,59,999999,999999,999999,999999,999999,999999,999999,999999,999999,999999,999999,999999,999999,999999,999999,999999,999999,999999,94,48,999999,999999,999999,999999,999999,999999,999999,153,130,90,88,85,131,999999,999999,999999,999999,999999,999999]
def Pk:List Nat:=[155,200,160,115,106,999999]
def Ro:List Nat:=[86]
noncomputable def E0(κ:Kp):Env:=((Env.none (Pr κ) live (fun f=>gL f U1) (fun f=>gL f Xd) (fun f=>gL f Pv)).jb (fun f=>gL f Pk)).iB (fun f=>gL f Ro)
theorem e0(κ:Kp):aE (E0 κ):=((aE.none xI).jb _).iB _
theorem m0(κ:Kp):aj (E0 κ):=(aj.none.jb _).iB _
theorem y48(κ:Kp)(op:Int)(K:AV->List Dn.Obj->Prop):(ba (E0 κ) 12 174 [.int op] [] K)=(
 aw (op==(5:Int)) (K (AV.bool true) []) (aw (op==(6:Int)) (K (AV.bool true) []) (K (AV.bool (op==(7:Int))) []))):=by kernel_rfl
def Xq:List AV->Option (Bool×AV)
 |[.lit (.int .i64 op)]=>some (true, .bool (lM op))
 |_=>none
theorem p48(κ:Kp):cj (E0 κ) 12 174 Xq:=by
 intro args x h
 unfold Xq at h
 split at h
 ·rename_i op
  simp only[aa3,aa9,true_and] at h
  subst h
  refine⟨_,rfl,rfl,?_⟩
  rw[y48]
  unfold lM
  by_cases h1:op=5<;>by_cases h2:op=6<;>by_cases h3:op=7<;>simp[ae,h1,h2,h3]<;>omega
 ·cases h
noncomputable def LQ(κ:Kp):Env:=(E0 κ).aK 174 Xq
theorem ZX(κ:Kp):aE (LQ κ):=(e0 κ).aK (m0 κ) (p48 κ)
theorem YA(κ:Kp):aj (LQ κ):=(m0 κ).aK
theorem x57(κ:Kp)(s:ByteArray)(p:Nat)(I:Nat->S->Prop)(n:Nat)(K:Exit->S->Prop):(vc (LQ κ) 12 138 none 0 (ag (Pr κ).toProgram 138 4) (sp 55 [(18, .ptr 0 0 [] 0)] [.dq s p]) (bB (LQ κ) 138 4 0 I n K))=(
 letI z2:=∃(e0:Nat),e0<n/\I e0 (sp 55 [(18,AV.ptr 0 0 [] 0)] [Obj.dq s (p+Prod.snd (Utf8.decode s p))])
 letI z3:=Prod.fst (Utf8.decode s p)
 letI z5:=K Exit.ret (sp 55 [(2,AV.bool false)] [])
 letI z1:=aw (!(↑z3:Int)==(95:Int)) (aw ((↑p:Int)==(0:Int)) z5 (aw (decide ((↑z3:Int)<(48:Int))) z5 (aw (decide ((↑z3:Int)>(57:Int)))
  z5 z2))) z2
 letI z4:=aw (decide ((↑z3:Int)>=(65:Int))) (aw (decide ((↑z3:Int)<=(90:Int))) z2 z1) z1
 aw (Nat.blt p (ByteArray.size s)) (aw (decide ((↑z3:Int)>=(97:Int))) (aw (decide ((↑z3:Int)<=(122:Int))) z2 z4) z4) (K (Exit.exit 0) (sp 55 [] []))):=by kernel_rfl
abbrev P1(a:ByteArray×Nat):S:=sp 55 [(18, .ptr 0 0 [] 0)] [.dq a.1 a.2]
noncomputable def BT(a:ByteArray×Nat):Out (Exit×S):=
 .aw (nameAt a.1 a.2) (.one (.exit 0,sp 55 [] [])) (.one (.ret,sp 55 [(2, .bool false)] []))
theorem l57(κ:Kp):bf (LQ κ) 12 138 4 (aR 0 P1 (fun _=>True) BT):=by
 refine aG (fun a=>a.1.size - a.2) ?_
 rintro⟨s,p⟩ K - ho
 rw[show(LQ κ).P=Pr κ from rfl,x57]
 simp only[BT,Out.run,ae] at ho
 have hgo: ∀c:Int,c=(Utf8.decode s p).1->p<s.size->(letter c||(!(decide ((p:Int)=0)||decide (c<48)||decide ((57:Int)<c))))=true->
   ∃m,m<s.size - p/\ig P1 (fun _=>True) BT (fun a=>a.1.size - a.2) K m (sp 55 [(18, .ptr 0 0 [] 0)] [.dq s (p+(Utf8.decode s p).2)]):=by
  rintro c rfl hp hc
  have:=xb s p
  refine⟨s.size - (p+(Utf8.decode s p).2),by omega,(s,p+(Utf8.decode s p).2),rfl,trivial,rfl,?_⟩
  rw[nameAt,dif_pos hp,hc,ab9] at ho
  simpa only[BT,Out.run,ae] using ho
 have hno: ∀c:Int,c=(Utf8.decode s p).1->p<s.size->(letter c||(!(decide ((p:Int)=0)||decide (c<48)||decide ((57:Int)<c))))=false->K Exit.ret (sp 55 [(2, .bool false)] []):=by
  rintro c rfl hp hc
  rw[nameAt,dif_pos hp,hc,Bool.false_and] at ho
  exact ho.2 rfl
 have hgo:=hgo _ rfl
 have hno:=hno _ rfl
 generalize ((Utf8.decode s p).1:Int)=c at*
 simp only[ae,Nat.blt_eq,aa0,aa2,beq_iff_eq,beq_eq_false_iff_ne,Bool.not_eq_true',ab2,bne_iff_ne]
 refine⟨fun hp=>?_,fun hp=>ho.1 ?_⟩
 ·have hgo:=hgo hp
  have hno:=hno hp
  simp only[letter,ab5,aa1,Bool.not_eq_true',Bool.or_eq_false_iff,Bool.and_eq_false_iff,ab2,aa0,aa2] at hgo hno
  repeat' (first|apply And.intro|intro _)
  all_goals first|(refine hgo ?_;omega)|(refine hno ?_;omega)
 ·have hp: ¬ p<s.size:=fun h=>by rw[show Nat.blt p s.size=true from by rw[Nat.blt_eq];exact h] at hp;cases hp
  rw[nameAt,dif_neg hp]
noncomputable def Jx(κ:Kp):Env:=(LQ κ).ar 138 4 (aR 0 P1 (fun _=>True) BT)
theorem Vm(κ:Kp):aE (Jx κ):=(ZX κ).ar (YA κ) (l57 κ)
theorem Qw(κ:Kp):aj (Jx κ):=(YA κ).ar aW
theorem ZL(κ:Kp)(s:ByteArray)(K:AV->List Dn.Obj->Prop):(ba (Jx κ) 12 138 [.lit (.string s)] [] K)=(
 letI z1:=K (AV.bool false) []
 letI z2:=Pg.toProgram (Env.P (LQ κ))
 aw (ByteArray.toList s==ByteArray.toList {data:= #[]}) z1 (aw (ByteArray.toList s==ByteArray.toList {data:= #[OfNat.ofNat 95]}) z1 (aw (decide ((↑(ByteArray.size s):Int)>(40:Int))) z1 (ag z2 138 4=ag z2 138 4/\∃(e0:ByteArray×Nat),sp 55 [(18,AV.ptr 0 0 [] 0)] [Obj.dq s 0]=sp 55 [(18,AV.ptr 0 0 [] 0)] [Obj.dq e0.1 e0.2]/\True/\aw (nameAt e0.1 e0.2) (K (AV.bool true) []) z1)))):=by kernel_rfl
def Wr:List AV->Option (Bool×AV)
 |[.lit (.string s)]=>some (true, .bool (isName s))
 |_=>none
theorem p57(κ:Kp):cj (Jx κ) 12 138 Wr:=by
 intro args x h
 unfold Wr at h
 split at h
 ·rename_i s
  simp only[aa3,aa9,true_and] at h
  subst h
  refine⟨_,rfl,rfl,?_⟩
  rw[ZL]
  unfold isName ma
  simp only[ae,aa0,aa2]
  refine⟨fun h1=>by rw[h1];rfl,fun h1=>⟨fun h2=>by rw[h1,h2];rfl,fun h2=>⟨fun h3=>?_,fun h3=>⟨trivial,⟨s,0⟩,rfl,trivial,fun h4=>?_,fun h4=>?_⟩⟩⟩⟩
  ·rw[h1,h2,aa6 (show(40:Int)<s.size from h3)];rfl
  ·rw[h1,h2,aa4 (show ¬ (40:Int)<s.size from h3),h4];rfl
  ·rw[h1,h2,aa4 (show ¬ (40:Int)<s.size from h3),h4];rfl
 ·cases h
noncomputable def Sf(κ:Kp):Env:=(Jx κ).aK 138 Wr
theorem e57(κ:Kp):aE (Sf κ):=(Vm κ).aK (Qw κ) (p57 κ)
theorem YR(κ:Kp):aj (Sf κ):=(Qw κ).aK
theorem y64(κ:Kp)(op:Int)(s:ByteArray)(n:Int)(l:List AV)(K:AV->List Dn.Obj->Prop):(ba (Sf κ) 12 201 [.agg [.int op, .lit (.string s), .int n, .ad 38 l]] [] K)=(
 letI z1:=K (AV.bool (n==(0:Int))) []
 letI z2:=K (AV.bool false) []
 letI z3:=ByteArray.toList s==ByteArray.toList {data:= #[]}
 aw (op==(1:Int)) (aw (isName s) z1 z2) (aw (op==(2:Int)) (K (AV.bool z3) []) (aw (op==(3:Int)) z1 (aw (op==(4:Int)) (aw z3 z1 z2) (aw (op==(0:Int)) (aw (ByteArray.toList s==ByteArray.toList {data:= #[]}) z1 z2) z2))))):=by kernel_rfl
def V6:List AV->Option (Bool×AV)
 |[.agg [.lit (.int .i64 op), .lit (.string s), .lit (.int .i64 n), .ad 38 _]]=>some (true, .bool (bare op s n))
 |_=>none
theorem p64(κ:Kp):cj (Sf κ) 12 201 V6:=by
 intro args x h
 unfold V6 at h
 split at h
 ·rename_i op s n l
  simp only[aa3,aa9,true_and] at h
  subst h
  refine⟨_,rfl,rfl,?_⟩
  rw[y64]
  have e: ∀k:Int,(op==k)=decide (op=k):=fun k=>by by_cases h:op=k<;>simp[h]
  simp only[e]
  cases h5:isName s<;>cases h6:(ByteArray.toList s==ByteArray.toList (ByteArray.mk #[]))<;>
  by_cases h1:op=1<;>by_cases h2:op=2<;>by_cases h3:op=3<;>by_cases h4:op=4<;>by_cases h0:op=0<;>
  first|omega|(simp only[aw,bare,ma,h5,h6,h1,h2,h3,h4,h0];rfl)|(simp[aw,bare,ma,h5,h6,h1,h2,h3,h4,h0];done)|(simp[aw,bare,ma,h5,h6,h1,h2,h3,h4,h0];rfl)|skip
 ·cases h
noncomputable def MU(κ:Kp):Env:=(Sf κ).aK 201 V6
theorem UQ(κ:Kp):aE (MU κ):=(e57 κ).aK (YR κ) (p64 κ)
theorem m64(κ:Kp):aj (MU κ):=(YR κ).aK
theorem Sy(l:List AV):((l.length:Int)==0)=decide ((l.length:Int)=0):=by
 cases h:decide ((l.length:Int)=0) with
 |true=>rw[aa0] at h;rw[h];rfl
 |false=>rw[aa2] at h;exact beq_eq_false_iff_ne.2 h
theorem y60(κ:Kp)(op:Int)(s:ByteArray)(n:Int)(l:List AV)(K:AV->List Dn.Obj->Prop):(ba (MU κ) 12 194 [.agg [.int op, .lit (.string s), .int n, .ad 38 l]] [] K)=(
 aw (op==(0:Int)) (aw (bare op s n) (K (AV.bool ((↑(l.length):Int)==(0:Int))) []) (K (AV.bool false) [])) (K (AV.bool false) [])):=by kernel_rfl
theorem y61(κ:Kp)(s:ByteArray)(l:List AV)(K:AV->List Dn.Obj->Prop):(ba (MU κ) 12 195 [.agg [.lit (.string s), .ad 38 l]] [] K)=(
 aw (ByteArray.toList s==ByteArray.toList {data:= #[]}) (K (AV.bool ((↑(l.length):Int)==(0:Int))) []) (K (AV.bool false) [])):=by kernel_rfl
theorem y47(κ:Kp)(b:Bool)(K:AV->List Dn.Obj->Prop):(ba (MU κ) 12 173 [.bool b] [] K)=(
 aw b (K (AV.lit Value.nilIface) []) (K (AV.lit (Value.iface 273 (Value.pointer (some (Kp.tree κ))))) [])):=by kernel_rfl
def Xc:List AV->Option (Bool×AV)
 |[.agg [.lit (.int .i64 op), .lit (.string s), .lit (.int .i64 n), .ad 38 l]]=>some (true, .bool (decide (op=0)&&bare op s n&&decide ((l.length:Int)=0)))
 |_=>none
theorem Zz(κ:Kp):cj (MU κ) 12 194 Xc:=by
 intro args x h
 unfold Xc at h
 split at h
 ·rename_i op s n l
  simp only[aa3,aa9,true_and] at h
  subst h
  refine⟨_,rfl,rfl,?_⟩
  rw[y60]
  rw[Sy]
  cases h5:bare op s n<;>by_cases h0:op=0<;>simp[ae,h5,h0]<;>first|rfl|skip
 ·cases h
def VK:List AV->Option (Bool×AV)
 |[.agg [.lit (.string s), .ad 38 l]]=>some (true, .bool (ma s (ByteArray.mk #[])&&decide ((l.length:Int)=0)))
 |_=>none
theorem Zs(κ:Kp):cj (MU κ) 12 195 VK:=by
 intro args x h
 unfold VK at h
 split at h
 ·rename_i s l
  simp only[aa3,aa9,true_and] at h
  subst h
  refine⟨_,rfl,rfl,?_⟩
  rw[y61]
  unfold ma
  rw[Sy]
  cases h5:(ByteArray.toList s==ByteArray.toList (ByteArray.mk #[]))<;>simp[ae]<;>first|rfl|skip
 ·cases h
def WU(κ:Kp):List AV->Option (Bool×AV)
 |[.lit (.bool b)]=>some (true, .lit (ax κ b))
 |_=>none
theorem Z0(κ:Kp):cj (MU κ) 12 173 (WU κ):=by
 intro args x h
 unfold WU at h
 split at h
 ·rename_i b
  simp only[aa3,aa9,true_and] at h
  subst h
  refine⟨_,rfl,ng κ b,?_⟩
  rw[y47]
  cases b<;>rfl
 ·cases h
noncomputable def Uu(κ:Kp):Env:=(((MU κ).aK 194 Xc).aK 195 VK).aK 173 (WU κ)
theorem XZ(κ:Kp):aE (Uu κ):=(((UQ κ).dZ (kB (UQ κ) (m64 κ) (Zz κ))).dZ (kB (UQ κ) (m64 κ) (Zs κ))).dZ (kB (UQ κ) (m64 κ) (Z0 κ))
theorem Y5(κ:Kp):aj (Uu κ):=(((m64 κ).aK).aK).aK
def PC(κ:Kp):List AV->Option (Bool×AV)
 |[.agg [.lit (.int .i64 op), .lit (.string s), .lit (.int .i64 n), .ad 38 l], .lit (.int .i64 h)]=>some (decide (0<=h)&&decide (h<=1000), .lit (ax κ (ak h.toNat (.mk op s n (aa l)))))
 |_=>none
def Cv:List AV->Nat
 |[_, .lit (.int .i64 h)]=>h.toNat
 |_=>0
noncomputable def yh(κ:Kp)(n:Nat):Env:=(Uu κ).aK 192 (below (PC κ) Cv n)
theorem ZM(κ:Kp)(r:Nat)(h:Int)(l:List AV)(i:Int)(I:Nat->S->Prop)(n:Nat)(K:Exit->S->Prop):(vc (yh κ r) 12 192 none 0 (ag (Pr κ).toProgram 192 10) (sp 72 [(1, .int h),(49, .ad 38 l),(50, .int l.length),(51, .int i)] []) (bB (yh κ r) 192 10 0 I n K))=(
 letI z2:=nth l i.toNat
 letI z3:=K Exit.ret (sp 72 [(4,AV.lit (Value.iface 273 (Value.pointer (some (Kp.tree κ)))))] [])
 letI z5:=i<(↑(l.length):Int)
 letI z6:=h - (1:Int)
 letI z4:=IntKind.wrap IntKind.i64 z6
 letI z1:=ax κ (ak (Int.toNat z4) (Tm.mk (toInt (af z2 0)) (toStr (af z2 1)) (toInt (af z2 2)) (aa (ah (af z2 3)))))
 aw (decide z5) (aP (decide ((0:Int)<=i)&&decide z5) (aw (toInt (af z2 0)==(3:Int)) z3 (aw (toInt (af z2 0)==(4:Int)) z3 (aP (decide ((0:Int)<=
 IntKind.wrap IntKind.i64 z6)&&decide (IntKind.wrap IntKind.i64 z6<=(1000:Int))&&Nat.blt (Cv [AV.agg [AV.int (toInt (af z2 0)),AV.str (toStr (af z2 1)),
 AV.int (toInt (af z2 2)),AV.ad 38 (ah (af z2 3))],AV.int z4]) r) (aP (ay z1) (aw (!bI z1) (K Exit.ret (sp 72 [(4,AV.lit z1)] [])) (∃(e0:Nat),e0<n/\I
 e0 (sp 72 [(1,AV.int h),(49,AV.ad 38 l),(50,AV.int (↑(l.length):Int)),(51,AV.int (IntKind.wrap IntKind.i64 (i+(1:Int))))] [])))))))) (K (Exit.exit
 1) (sp 72 [] []))):=by kernel_rfl
abbrev Ua(a:Int×List AV×Int):S:=sp 72 [(1, .int a.1),(49, .ad 38 a.2.1),(50, .int a.2.1.length),(51, .int a.2.2)] []
def KS(r:Nat)(a:Int×List AV×Int):Prop:=1<=a.1/\a.1<=1000/\a.1.toNat<=r/\a.2.1.length<=aL/\0<=a.2.2/\a.2.2<=a.2.1.length
noncomputable def Ft(κ:Kp)(a:Int×List AV×Int):Out (Exit×S):=
 .aw (lS (a.1 - 1).toNat (aa (a.2.1.drop a.2.2.toNat))) (.one (.exit 1,sp 72 [] [])) (.one (.ret,sp 72 [(4, .lit (ax κ false))] []))
theorem l58(κ:Kp)(r:Nat):bf (yh κ r) 12 192 10 (aR 0 Ua (KS r) (Ft κ)):=by
 refine aG (fun a=>a.2.1.length - a.2.2.toNat) ?_
 rintro⟨h,l,i⟩ K ⟨h1,h2,h3,h4,h5,h6⟩ ho
 simp only at h1 h2 h3 h4 h5 h6
 rw[show(yh κ r).P=Pr κ from rfl,ZM]
 simp only[Ft,Out.run,ae] at ho
 rw[aC (n:=h - 1) (by omega) (by omega)]
 simp only[aL] at h4
 simp only[mf,pq]
 simp only[←cP]
 simp only[ae,ai,aa0,aa2,aa1,beq_iff_eq,beq_eq_false_iff_ne,Bool.not_eq_true',ab2,Cv,Nat.blt_eq]
 refine⟨fun hi=>⟨⟨h5,hi⟩,?_⟩,fun hi=>ho.1 ?_⟩
 ·have e:=dR l i.toNat (by omega)
  rw[e] at ho
  have hop:(cI (nth l i.toNat)).op=toInt (af (nth l i.toNat) 0):=by rw[cP];rfl
  simp only[lS,List.all_cons,hop] at ho
  refine⟨fun ha=>ho.2 (by simp[ha]),fun ha=>⟨fun hb=>ho.2 (by simp[hb]),fun hb=>⟨⟨⟨by omega,by omega⟩,by omega⟩,trivial,fun hc=>?_,fun hc=>?_⟩⟩⟩
  ·rw[hc];exact ho.2 (by rw[hc];simp)
  ·rw[aC (n:=i+1) (by omega) (by omega)]
   refine⟨_,?_,(h,l,i+1),rfl,⟨h1,h2,h3,by simpa[aL] using h4,by simp only;omega,by simp only;omega⟩,rfl,?_⟩
   ·simp only;omega
   ·rw[hc] at ho
    simp only[Ft,Out.run,ae,lS]
    rw[show(i+1).toNat=i.toNat+1 by omega]
    simpa[ha,hb] using ho
 ·rw[aa8 (by omega)];rfl
noncomputable def HH(κ:Kp)(r:Nat):Env:=(yh κ r).ar 192 10 (aR 0 Ua (KS r) (Ft κ))
theorem y58(κ:Kp)(r:Nat)(op:Int)(s:ByteArray)(n:Int)(l:List AV)(h:Int)(K:AV->List Dn.Obj->Prop):(ba (HH κ r) 12 192 [.agg [.int op, .lit (.string s), .int n, .ad 38 l], .int h] [] K)=(
 letI z1:=K (AV.lit (Value.iface 273 (Value.pointer (some (Kp.tree κ))))) []
 letI z2:=Pg.toProgram (Env.P (yh κ r))
 letI z3:=K (AV.lit Value.nilIface) []
 aw (h==(0:Int)) z1 (aw (op==(0:Int)) z1 (aw (!lM op) (aw (!bare op s n) z1 (aw (decide ((↑(l.length):Int)>(0:Int))) z1 z3)) (aw (!ByteArray.toList s==ByteArray.toList {data:= #[]}) z1 (aw (n != (0:Int)) z1 (aw ((↑(l.length):Int) != (2:Int)) z1 (ag z2 192 10=ag z2 192 10/\∃(e0:Int×List AV×Int),sp 72 [(1,AV.int h),(49,AV.ad 38 l),(50,AV.int (↑(l.length):Int)),(51,AV.int 0)] []=sp 72 [(1,AV.int e0.1),(49,AV.ad 38 e0.2.1),(50,AV.int (↑(e0.2.1.length):Int)),(51,AV.int e0.2.2)] []/\((1:Int)<=e0.1/\e0.1<=(1000:Int)/\e0.1.toNat<=r/\e0.2.1.length<=9223372036854775807/\(0:Int)<=e0.2.2/\e0.2.2<=(↑(e0.2.1.length):Int))/\aw (lS (Int.toNat (e0.1 - (1:Int))) (aa (List.drop (Int.toNat e0.2.2) e0.2.1))) z3 z1))))))):=by kernel_rfl
theorem WA(κ:Kp)(r:Nat)(hp:fg (Pr κ) 192 (below (PC κ) Cv r)):aE (HH κ r)/\aj (HH κ r)/\(HH κ r).P=Pr κ:=
 have h:aE (yh κ r):=(XZ κ).dZ hp
 have hm:aj (yh κ r):=(Y5 κ).aK
 ⟨h.ar hm (l58 κ r),hm.ar aW,rfl⟩
theorem p58(κ:Kp)(r:Nat):cj (HH κ r) 12 192 (fun xs=>bif Nat.beq (Cv xs) r then PC κ xs else none):=by
 intro args x hh
 cases hb:Nat.beq (Cv args) r with
 |false=>simp only[hb] at hh;cases hh
 | true=>
  simp only[hb,aa7] at hh
  unfold PC at hh
  split at hh
  ·rename_i op s n l h
   simp only[aa3,aa9,aa1,aa0] at hh
   obtain⟨⟨h1,h2⟩,rfl⟩:=hh
   have hr:h.toNat=r:=Nat.eq_of_beq_eq_true hb
   refine⟨_,rfl,ng κ _,?_⟩
   rw[y58]
   have ef:AV.lit (.iface 273 (.pointer (some κ.tree)))= .lit (ax κ false):=rfl
   have et:AV.lit .nilIface= .lit (ax κ true):=rfl
   rw[ef,et]
   by_cases h0:h=0
   ·subst h0;rfl
   ·obtain⟨m,hm⟩: ∃m,h.toNat=m+1:=⟨h.toNat - 1,by omega⟩
    rw[hm,x6,du]
    unfold ma
    generalize (ByteArray.toList s==ByteArray.toList (ByteArray.mk #[]))=z
    simp only[ae,beq_iff_eq,beq_eq_false_iff_ne,Bool.not_eq_true',ab2,aa0,aa2,bne_iff_ne,bne_eq_false_iff_eq]
    refine⟨fun e=>absurd e h0,fun _=>⟨fun e=>by rw[aa6 e];rfl,fun e=>?_⟩⟩
    rw[aa4 e,aa5]
    refine⟨fun e2=>?_,fun e2=>?_⟩
    ·rw[e2,aa5]
     refine⟨fun e3=>by rw[e3];rfl,fun e3=>⟨fun e4=>?_,fun e4=>?_⟩⟩
     ·rw[aa4 (show ¬ l.length=0 by omega),Bool.and_false]
     ·rw[e3,aa6 (show l.length=0 by omega)];rfl
    ·rw[e2,aa7]
     refine⟨fun e3=>by rw[e3];rfl,fun e3=>⟨fun e4=>by rw[e3,aa4 e4];rfl,fun e4=>⟨fun e5=>?_,fun e5=>?_⟩⟩⟩
     ·rw[aa4 (show ¬ l.length=2 by omega)];simp
     ·refine⟨trivial,(h,l,0),rfl,⟨by simp only;omega,h2,by simp only;omega,by simp only;omega,by simp only;omega,by simp only;omega⟩,?_⟩
      rw[e3,aa6 e4,aa6 (show l.length=2 by omega)]
      simp only[show(h - 1).toNat=m by omega,ab7,ab0,ab9]
      exact⟨fun e=>by rw[e],fun e=>by rw[e]⟩
  ·cases hh
theorem q58(κ:Kp):fg (Pr κ) 192 (PC κ):=aE.pT (PC κ) Cv (HH κ) (WA κ) (p58 κ)
noncomputable def Mp(κ:Kp):Env:=(Uu κ).aK 192 (PC κ)
theorem e58(κ:Kp):aE (Mp κ):=(XZ κ).dZ (q58 κ)
theorem Yi(κ:Kp):aj (Mp κ):=(Y5 κ).aK
theorem x46(κ:Kp)(l:List AV)(i:Int)(I:Nat->S->Prop)(n:Nat)(K:Exit->S->Prop):(vc (Mp κ) 12 172 none 0 (ag (Pr κ).toProgram 172 4) (sp 36 [(24, .ad 38 l),(25, .int l.length),(26, .int i)] []) (bB (Mp κ) 172 4 0 I n K))=(
 letI z2:=nth l i.toNat
 letI z1:=ax κ (ak 20 (Tm.mk (toInt (af z2 0)) (toStr (af z2 1)) (toInt (af z2 2)) (aa (ah (af z2 3)))))
 letI z3:=i<(↑(l.length):Int)
 aw (decide z3) (aP (decide ((0:Int)<=i)&&decide z3) (aP (ay z1) (aw (!bI z1) (K Exit.ret (sp 36 [(2,AV.lit z1)] [])) (∃(e0:Nat),e0<n/\I e0 (sp 36
 [(24,AV.ad 38 l),(25,AV.int (↑(l.length):Int)),(26,AV.int (IntKind.wrap IntKind.i64 (i+(1:Int))))] []))))) (K (Exit.exit 0) (sp 36 [] []))):=by kernel_rfl
abbrev S5(a:List AV×Int):S:=sp 36 [(24, .ad 38 a.1),(25, .int a.1.length),(26, .int a.2)] []
def Jv(a:List AV×Int):Prop:=a.1.length<=aL/\0<=a.2/\a.2<=a.1.length
noncomputable def Em(κ:Kp)(a:List AV×Int):Out (Exit×S):=
 .aw ((aa (a.1.drop a.2.toNat)).all (ak 20)) (.one (.exit 0,sp 36 [] [])) (.one (.ret,sp 36 [(2, .lit (ax κ false))] []))
theorem l46(κ:Kp):bf (Mp κ) 12 172 4 (aR 0 S5 Jv (Em κ)):=by
 refine aG (fun a=>a.1.length - a.2.toNat) ?_
 rintro⟨l,i⟩ K ⟨h4,h5,h6⟩ ho
 simp only at h4 h5 h6
 rw[show(Mp κ).P=Pr κ from rfl,x46]
 simp only[Em,Out.run,ae] at ho
 simp only[aL] at h4
 simp only[mf,pq,←cP]
 simp only[ae,ai,aa0,aa2,aa1,beq_iff_eq,beq_eq_false_iff_ne,Bool.not_eq_true',ab2]
 refine⟨fun hi=>⟨⟨h5,hi⟩,trivial,fun hc=>?_,fun hc=>?_⟩,fun hi=>ho.1 ?_⟩
 ·rw[hc]
  rw[dR l i.toNat (by omega),List.all_cons,hc,Bool.false_and] at ho
  exact ho.2 rfl
 ·rw[aC (n:=i+1) (by omega) (by omega)]
  refine⟨_,?_,(l,i+1),rfl,⟨by simpa[aL] using h4,by simp only;omega,by simp only;omega⟩,rfl,?_⟩
  ·simp only;omega
  ·rw[dR l i.toNat (by omega),List.all_cons,hc,ab9] at ho
   simp only[Em,Out.run,ae,show(i+1).toNat=i.toNat+1 by omega]
   exact ho
 ·rw[aa8 (by omega)];rfl
noncomputable def K4(κ:Kp):Env:=(Mp κ).ar 172 4 (aR 0 S5 Jv (Em κ))
theorem VH(κ:Kp):aE (K4 κ):=(e58 κ).ar (Yi κ) (l46 κ)
theorem Rf(κ:Kp):aj (K4 κ):=(Yi κ).ar aW
theorem y46(κ:Kp)(s:ByteArray)(l:List AV)(K:AV->List Dn.Obj->Prop):(ba (K4 κ) 12 172 [.agg [.lit (.string s), .ad 38 l]] [] K)=(
 letI z1:=K (AV.lit (Value.iface 273 (Value.pointer (some (Kp.tree κ))))) []
 letI z2:=Pg.toProgram (Env.P (Mp κ))
 aw (!isName s) z1 (aw ((↑(l.length):Int)==(0:Int)) z1 (aw (decide ((↑(l.length):Int)>(8:Int))) z1 (ag z2 172 4=ag z2 172 4/\∃(e0:List AV×
 Int),sp 36 [(24,AV.ad 38 l),(25,AV.int (↑(l.length):Int)),(26,AV.int 0)] []=sp 36 [(24,AV.ad 38 e0.1),(25,AV.int (↑(e0.1.length):Int)),(26,
 AV.int e0.2)] []/\(e0.1.length<=9223372036854775807/\(0:Int)<=e0.2/\e0.2<=(↑(e0.1.length):Int))/\aw (List.all (aa (List.drop e0.2.toNat e0.1)) (ak
 20)) (K (AV.lit Value.nilIface) []) z1)))):=by kernel_rfl
def Vo(κ:Kp):List AV->Option (Bool×AV)
 |[.agg [.lit (.string s), .ad 38 l]]=>some (true, .lit (ax κ (bk ⟨s,aa l⟩)))
 |_=>none
theorem p46(κ:Kp):cj (K4 κ) 12 172 (Vo κ):=by
 intro args x hh
 unfold Vo at hh
 split at hh
 ·rename_i s l
  simp only[aa3,aa9,true_and] at hh
  subst hh
  refine⟨_,rfl,ng κ _,?_⟩
  rw[y46]
  have ef:AV.lit (.iface 273 (.pointer (some κ.tree)))= .lit (ax κ false):=rfl
  have et:AV.lit .nilIface= .lit (ax κ true):=rfl
  rw[ef,et]
  simp only[bk,du]
  simp only[ae,beq_iff_eq,beq_eq_false_iff_ne,Bool.not_eq_true',ab2,aa0,aa2]
  refine⟨fun e=>by rw[e];rfl,fun e=>⟨fun e1=>by rw[aa6 (show l.length=0 by omega)];simp,fun e1=>⟨fun e2=>by rw[aa4 (show ¬ l.length<=8 by omega)];simp,fun e2=>⟨trivial,(l,0),rfl,⟨by simp only;omega,by simp only;omega,by simp only;omega⟩,?_⟩⟩⟩⟩
  rw[e,aa4 (show ¬ l.length=0 by omega),aa6 (show l.length<=8 by omega)]
  simp only[ab7,ab0,ab9,Bool.not_false]
  exact⟨fun e=>by rw[e],fun e=>by rw[e]⟩
 ·cases hh
noncomputable def Lq(κ:Kp):Env:=(K4 κ).aK 172 (Vo κ)
theorem e46(κ:Kp):aE (Lq κ):=(VH κ).aK (Rf κ) (p46 κ)
theorem Uj(κ:Kp):aj (Lq κ):=(Rf κ).aK
noncomputable def DG(κ:Kp):Env:=(Lq κ).ar 193 2 (km (Lq κ) 12 193 2 5)
theorem Wg(κ:Kp):aE (DG κ):=(e46 κ).ar (Uj κ) (rO (Uj κ) 5)
theorem SN(κ:Kp):aj (DG κ):=(Uj κ).ar (kO (Uj κ) 5)
theorem W2(κ:Kp)(u1 u2:Value)(K:AV->List Dn.Obj->Prop):(ba (DG κ) 12 193 [.ad 171 [.lit u1, .lit u2]] [] K)=(
 letI z1:=Pg.toProgram (Env.P (Lq κ))
 ag z1 193 2=ag z1 193 2/\aP (ay u1) (aw (!bI u1) (K (AV.lit u1) []) (aP (ay u2) (aw (!bI u2) (K (AV.lit u2) []) (K (AV.lit Value.nilIface) []))))):=by kernel_rfl
theorem Wh(κ:Kp)(u1 u2 u3:Value)(K:AV->List Dn.Obj->Prop):(ba (DG κ) 12 193 [.ad 171 [.lit u1, .lit u2, .lit u3]] [] K)=(
 letI z1:=Pg.toProgram (Env.P (Lq κ))
 ag z1 193 2=ag z1 193 2/\aP (ay u1) (aw (!bI u1) (K (AV.lit u1) []) (aP (ay u2) (aw (!bI u2) (K (AV.lit u2) []) (aP (ay u3) (aw (!bI u3) (K (AV.lit u3) [])
 (K (AV.lit Value.nilIface) []))))))):=by kernel_rfl
theorem U5(κ:Kp)(u1 u2 u3 u4:Value)(K:AV->List Dn.Obj->Prop):(ba (DG κ) 12 193 [.ad 171 [.lit u1, .lit u2, .lit u3, .lit u4]] [] K)=(
 letI z1:=Pg.toProgram (Env.P (Lq κ))
 ag z1 193 2=ag z1 193 2/\aP (ay u1) (aw (!bI u1) (K (AV.lit u1) []) (aP (ay u2) (aw (!bI u2) (K (AV.lit u2) []) (aP (ay u3) (aw (!bI u3) (K (AV.lit u3) [])
 (aP (ay u4) (aw (!bI u4) (K (AV.lit u4) []) (K (AV.lit Value.nilIface) []))))))))):=by kernel_rfl
def bu(u v:Value):Value:=bif bI u then v else u
theorem CR(κ:Kp)(a b:Bool):bu (ax κ a) (ax κ b)=ax κ (a&&b):=by cases a<;>rfl
theorem Dv{u:Value}(h:ay u=true)(h2:bI u=true):u= .nilIface:=by cases u<;>simp_all[bI,ay]
def Wm:List AV->Option (Bool×AV)
 |[.ad 171 [.lit u1, .lit u2]]=>some ((ay u1&&ay u2)&&(a9 u1&&a9 u2), .lit (bu u1 u2))
 |[.ad 171 [.lit u1, .lit u2, .lit u3]]=>some ((ay u1&&(ay u2&&ay u3))&&(a9 u1&&(a9 u2&&a9 u3)), .lit (bu u1 (bu u2 u3)))
 |[.ad 171 [.lit u1, .lit u2, .lit u3, .lit u4]]=>some ((ay u1&&(ay u2&&(ay u3&&ay u4)))&&(a9 u1&&(a9 u2&&(a9 u3&&a9 u4))), .lit (bu u1 (bu u2 (bu u3 u4))))
 |_=>none
theorem p59(κ:Kp):cj (DG κ) 12 193 Wm:=by
 intro args x hh
 unfold Wm at hh
 split at hh
 ·rename_i u1 u2
  simp only[aa3,aa9,aa1] at hh
  obtain⟨⟨⟨h1,h2⟩,h3,h4⟩,rfl⟩:=hh
  refine⟨_,rfl,by unfold bu;cases bI u1<;>assumption,?_⟩
  rw[W2,h1,h2]
  refine⟨rfl,?_⟩
  unfold bu
  cases e1:bI u1
  ·rfl
  ·cases e2:bI u2
   ·rfl
   ·rw[Dv h2 e2];rfl
 ·rename_i u1 u2 u3
  simp only[aa3,aa9,aa1] at hh
  obtain⟨⟨⟨h1,h2,h3⟩,h4,h5,h6⟩,rfl⟩:=hh
  refine⟨_,rfl,by unfold bu;cases bI u1<;>cases bI u2<;>assumption,?_⟩
  rw[Wh,h1,h2,h3]
  refine⟨rfl,?_⟩
  unfold bu
  cases e1:bI u1
  ·rfl
  ·cases e2:bI u2
   ·rfl
   ·cases e3:bI u3
    ·rfl
    ·rw[Dv h3 e3];rfl
 ·rename_i u1 u2 u3 u4
  simp only[aa3,aa9,aa1] at hh
  obtain⟨⟨⟨h1,h2,h3,k1⟩,h4,h5,h6,k2⟩,rfl⟩:=hh
  refine⟨_,rfl,by unfold bu;cases bI u1<;>cases bI u2<;>cases bI u3<;>assumption,?_⟩
  rw[U5,h1,h2,h3,k1]
  refine⟨rfl,?_⟩
  unfold bu
  cases e1:bI u1
  ·rfl
  ·cases e2:bI u2
   ·rfl
   ·cases e3:bI u3
    ·rfl
    ·cases e4:bI u4
     ·rfl
     ·rw[Dv k1 e4];rfl
 ·cases hh
noncomputable def Tn(κ:Kp):Env:=(DG κ).aK 193 Wm
theorem e59(κ:Kp):aE (Tn κ):=(Wg κ).aK (SN κ) (p59 κ)
theorem YE(κ:Kp):aj (Tn κ):=(SN κ).aK
theorem y49(κ:Kp)(op:Int)(s:ByteArray)(l:List AV)(o1:Int)(s1:ByteArray)(n1:Int)(l1:List AV)(o2:Int)(s2:ByteArray)(n2:Int)(l2:List AV)(K:AV->List Dn.Obj->Prop):(ba (Tn κ) 12 175 [.agg [.int op, .agg [.lit (.string s), .ad 38 l], .agg [.int o1, .lit (.string s1), .int n1, .ad 38 l1], .agg [.int o2, .lit (.string s2), .int n2, .ad 38 l2]]] [] K)=(
 letI z3:=ax κ (ak 20 (Tm.mk o1 s1 n1 (aa l1)))
 letI z4:=ax κ (ak 20 (Tm.mk o2 s2 n2 (aa l2)))
 letI z5:=ax κ (bk {rel:=s,l:=aa l})
 letI z6:=ax κ (decide (o2=(0:Int))&&bare o2 s2 n2&&decide ((↑(l2.length):Int)=(0:Int)))
 letI z7:=Value.iface 273 (Value.pointer (some (Kp.tree κ)))
 letI z8:=ax κ (o2==(1:Int))
 letI z10:=ax κ (bk {rel:=s,l:=aa l})
 letI z11:=K (AV.lit (bu z5 (bu z8 (bu z3 z4)))) []
 letI z13:=ay z3&&ay z4
 letI z14:=a9 z3&&a9 z4
 letI z17:=K (AV.lit (bu z5 z7)) []
 letI z2:=aw (decide (o1=(0:Int))&&bare o1 s1 n1&&decide ((↑(l1.length):Int)=(0:Int))) (aP (ay z5&&ay z6&&(a9 z5&&a9 z6)) (K (AV.lit (bu z5
  z6)) [])) (aP (ay z5&&true&&(a9 z5&&true)) z17)
 letI z12:=aP (ay z5&&(true&&z13)&&(a9 z5&&(true&&z14))) z17
 letI z18:=ax κ (o2 != (4:Int))
 letI z19:=o1==(2:Int)
 letI z20:=K (AV.lit z7) []
 letI z15:=aP (true&&z13&&(true&&z14)) z20
 letI z1:=aw (ma s {data:= #[]}&&decide ((↑(l.length):Int)=(0:Int))) (aw (o1 != (4:Int)) (aP (ay z18&&z13&&(a9 z18&&z14)) (K (AV.lit (bu z18 (bu z3 z4))) [])) z15) z15
 letI z21:=a9 z5&&(a9 z6&&a9 z3)
 letI z22:=ay z8&&z13
 letI z23:=a9 z8&&z14
 letI z9:=ay z5&&z22&&(a9 z5&&z23)
 letI z16:=aP z9 (K (AV.lit (bu z10 (bu z8 (bu z3 z4)))) [])
 aw (o1==(1:Int)) (aw (op==(1:Int)) z2 (aw (op==(2:Int)) z2 (aw (op==(3:Int)) z1 (aw (op==(4:Int)) z1 (aw (op==(5:Int)) z1 (aw (op==(6
 :Int)) z1 (aw (op==(7:Int)) (aP (ay z5&&(ay z6&&ay z3)&&z21) (K (AV.lit (bu z5 (bu z6 z3))) [])) (aw (op==(8:Int)) (aP z9 z11) (aw (op==(9:
 Int)) (aP (ay z10&&z22&&(a9 z5&&z23)) z11) (aw (op==(10:Int)) z16 z20)))))))))) (aw (op==(1:Int)) z2 (aw (op==(2:Int)) z2 (aw (op==(3:
 Int)) z1 (aw (op==(4:Int)) z1 (aw (op==(5:Int)) z1 (aw (op==(6:Int)) z1 (aw (op==(7:Int)) (aw z19 (aP (ay z10&&(ay z6&&ay z3)&&z21) (K
 (AV.lit (bu z10 (bu z6 z3))) [])) (aP (ay z5&&(true&&ay z3)&&(a9 z5&&(true&&a9 z3))) (K (AV.lit (bu z10 z7)) []))) (aw (op==(8:Int)) (aw z19 (aP
 z9 z11) z12) (aw (op==(9:Int)) (aw z19 (aP (ay z5&&z22&&(a9 z10&&z23)) z11) (aP (ay z5&&(true&&z13)&&(a9 z10&&(true&&z14))) z17)) (aw (op==
 (10:Int)) (aw z19 z16 z12) z20))))))))))):=by kernel_rfl
theorem Md(κ:Kp)(b x y r:Bool):aw b (AV.lit (ax κ x)=AV.lit (ax κ r)) (AV.lit (ax κ y)=AV.lit (ax κ r))↔(AV.lit (ax κ (bif b then x else y))=AV.lit (ax κ r)):=by
 cases b<;>rfl
theorem MA(a b:Int):(a==b)=decide (a=b):=by by_cases h:a=b<;>simp[h]
theorem EY(a b:Int):(a != b)= !decide (a=b):=by by_cases h:a=b<;>simp[h]
def XB(κ:Kp):List AV->Option (Bool×AV)
 |[.agg [.lit (.int .i64 op), .agg [.lit (.string s), .ad 38 l], .agg [.lit (.int .i64 o1), .lit (.string s1), .lit (.int .i64 n1), .ad 38 l1], .agg [.lit (.int .i64 o2), .lit (.string s2), .lit (.int .i64 n2), .ad 38 l2]]]=>
  some (true, .lit (ax κ (lq ⟨op,⟨s,aa l⟩, .mk o1 s1 n1 (aa l1), .mk o2 s2 n2 (aa l2)⟩)))
 |_=>none
theorem p49(κ:Kp):cj (Tn κ) 12 175 (XB κ):=by
 intro args x hh
 unfold XB at hh
 split at hh
 ·rename_i op s l o1 s1 n1 l1 o2 s2 n2 l2
  simp only[aa3,aa9,true_and] at hh
  subst hh
  refine⟨_,rfl,ng κ _,?_⟩
  rw[y49]
  have ef:Value.iface 273 (.pointer (some κ.tree))=ax κ false:=rfl
  rw[ef]
  simp only[mf,ng,CR,Bool.and_true,Bool.and_self,aP]
  simp only[←O1,←O8,MA,EY,Md]
  refine congrArg (fun b=>AV.lit (ax κ b)) ?_
  have ix:Sp (.mk o1 s1 n1 (aa l1))=(decide (o1=1)||decide (o1=2)):=rfl
  rw[Hz,ix]
  generalize bk ⟨s,aa l⟩=A
  generalize Qg ⟨s,aa l⟩=N0
  generalize H3 (.mk o1 s1 n1 (aa l1))=N1
  generalize H3 (.mk o2 s2 n2 (aa l2))=N2
  generalize ak 20 (.mk o1 s1 n1 (aa l1))=R1
  generalize ak 20 (.mk o2 s2 n2 (aa l2))=R2
  generalize decide (o1=1)=a1
  generalize decide (o1=2)=a2
  generalize decide (o1=4)=a4
  generalize decide (o2=4)=b4
  generalize decide (o2=1)=b1
  generalize decide (op=1)=p1
  generalize decide (op=2)=p2
  generalize decide (op=3)=p3
  generalize decide (op=4)=p4
  generalize decide (op=5)=p5
  generalize decide (op=6)=p6
  generalize decide (op=7)=p7
  generalize decide (op=8)=p8
  generalize decide (op=9)=p9
  generalize decide (op=10)=p10
  cases p1
  case true=>cases a1<;>cases N1<;>cases A<;>cases N2<;>rfl
  cases p2
  case true=>cases a1<;>cases N1<;>cases A<;>cases N2<;>rfl
  cases p3
  case true=>cases a1<;>cases N0<;>cases a4<;>cases b4<;>cases R1<;>cases R2<;>rfl
  cases p4
  case true=>cases a1<;>cases N0<;>cases a4<;>cases b4<;>cases R1<;>cases R2<;>rfl
  cases p5
  case true=>cases a1<;>cases N0<;>cases a4<;>cases b4<;>cases R1<;>cases R2<;>rfl
  cases p6
  case true=>cases a1<;>cases N0<;>cases a4<;>cases b4<;>cases R1<;>cases R2<;>rfl
  cases p7
  case true=>cases a1<;>cases a2<;>cases A<;>cases N2<;>cases R1<;>rfl
  cases p8
  case true=>cases a1<;>cases a2<;>cases A<;>cases b1<;>cases R1<;>cases R2<;>rfl
  cases p9
  case true=>cases a1<;>cases a2<;>cases A<;>cases b1<;>cases R1<;>cases R2<;>rfl
  cases p10
  case true=>cases a1<;>cases a2<;>cases A<;>cases b1<;>cases R1<;>cases R2<;>rfl
  cases a1<;>rfl
 ·cases hh
noncomputable def L6(κ:Kp):Env:=(Tn κ).aK 175 (XB κ)
theorem ZK(κ:Kp):aE (L6 κ):=(e59 κ).aK (YE κ) (p49 κ)
theorem Zj(κ:Kp):aj (L6 κ):=(YE κ).aK
structure cf where
 xs:List AV
 more:List AV
 rel:ByteArray
 hl:List AV
 bl:List AV
 line:Int
 i:Int
abbrev au(a:cf):AV:= .agg [.agg [.lit (.string a.rel), .ad 38 a.hl], .ad 80 a.bl, .int a.line]
abbrev Ao(a:cf):S:=sp 69 [(0, .de 0),(1, .ptr 1 0 [] 0),(25, .ad 38 a.hl),(26, .int a.hl.length),(27, .int a.i)] [.ext (some a.xs), .box 48 (au a)]
abbrev Ky(a:cf):S:=sp 69 [(0, .de 0),(57, .ad 80 a.bl),(58, .int a.bl.length),(59, .int a.i)] [.ext (some a.xs), .box 48 (au a)]
def my(κ:Kp)(l:List Bool):List AV:=l.map fun b=> .aX [.lit (ax κ b)]
def zO(κ:Kp)(a:cf):Prop:=a.hl.length<=aL/\0<=a.i/\a.i<=a.hl.length/\a.xs=my κ ((aa (a.hl.drop a.i.toNat)).map (vz a.bl.length))++a.more
def En(κ:Kp)(a:cf):Prop:=a.bl.length<=aL/\0<=a.i/\a.i<=a.bl.length/\a.xs=my κ ((dh (a.bl.drop a.i.toNat)).map lq)
def Cn(a:cf):Out (Exit×S):= .all (fun _:Bool=>True) fun b=> .aw b (.one (.exit 0,sp 69 [(0, .de 0),(1, .ptr 1 0 [] 0)] [.ext (some a.more), .box 48 (au a)]))
 (.one (.ret,sp 69 [] [.ext none, .box 48 (au a)]))
def IY(a:cf):Out (Exit×S):= .all (fun _:Bool=>True) fun b=> .aw b (.one (.exit 2,sp 69 [] [.ext (some []), .box 48 (au a)]))
 (.one (.ret,sp 69 [] [.ext none, .box 48 (au a)]))
theorem Vh(κ:Kp)(a:cf)(I:Nat->S->Prop)(n:Nat)(K:Exit->S->Prop):(vc (L6 κ) 12 171 none 2 (ag (Pr κ).toProgram 171 2) (Ao a) (bB (L6 κ) 171 2 2 I n K))=(
 letI z2:=IntKind.wrap IntKind.i64 (a.i+(1:Int))
 letI z3:=sp 69 [] [Obj.ext none,Obj.box 48 (au a)]
 letI z4:=af (nth a.hl a.i.toNat) 0
 letI z5:=a.hl.length
 letI z1:=∃(e1:List AV),a.xs=AV.aX [AV.lit (Value.iface 273 (Value.pointer (some (Kp.tree κ))))]::e1/\(∃(e0:Nat),e0<n/\I e0 (sp 69 [(0,AV.de
  0),(1,AV.ptr 1 0 [] 0),(25,AV.ad 38 a.hl),(26,AV.int (↑z5:Int)),(27,AV.int z2)] [Obj.ext (some e1),Obj.box 48 (au a)]))/\K Exit.ret z3
 aw (decide (a.i<(↑z5:Int))) (aP (decide ((0:Int)<=a.i)&&decide (a.i<(↑z5:Int))) (aw (toInt z4 != (4:Int)) (aw (!lM (toInt z4)) (aw (toInt z4 !=
 (1:Int)) (∃(e1:List AV),a.xs=AV.aX [AV.lit Value.nilIface]::e1/\(∃(e0:Nat),e0<n/\I e0 (sp 69 [(0,AV.de 0),(1,AV.ptr 1 0 [] 0),(25,AV.ad
 38 a.hl),(26,AV.int (↑z5:Int)),(27,AV.int z2)] [Obj.ext (some e1),Obj.box 48 (au a)]))/\K Exit.ret z3) (∃(e1:List AV),a.xs=AV.aX [AV.lit (ax κ
 (decide ((↑(a.bl.length):Int)>(0:Int))))]::e1/\(∃(e0:Nat),e0<n/\I e0 (sp 69 [(0,AV.de 0),(1,AV.ptr 1 0 [] 0),(25,AV.ad 38 a.hl),(26,
 AV.int (↑z5:Int)),(27,AV.int z2)] [Obj.ext (some e1),Obj.box 48 (au a)]))/\K Exit.ret z3)) z1) z1)) (K (Exit.exit 0) (sp 69 [(0,AV.de 0),(1,AV.ptr 1 0
 [] 0)] [Obj.ext (some a.xs),Obj.box 48 (au a)]))):=by kernel_rfl
theorem V1(κ:Kp):bf (L6 κ) 12 171 2 (aR 2 Ao (zO κ) Cn):=by
 refine aG (fun a=>a.hl.length - a.i.toNat) ?_
 rintro⟨xs,more,rel,hl,bl,line,i⟩ K ⟨h1,h2,h3,h4⟩ ho
 simp only at h1 h2 h3 h4
 rw[show(L6 κ).P=Pr κ from rfl,Vh]
 have ef:Value.iface 273 (.pointer (some κ.tree))=ax κ false:=rfl
 have et:Value.nilIface=ax κ true:=rfl
 have ho1:=ho true trivial
 have ho2:=ho false trivial
 simp only[Out.run,aw] at ho1 ho2
 simp only[ef,et]
 simp only[aL] at h1
 simp only[ae,ai,aa0,aa2,aa1]
 refine⟨fun hi=>⟨⟨h2,hi⟩,?_⟩,fun hi=>?_⟩
 ·rw[dR hl i.toNat (by omega)] at h4
  have hop:(cI (nth hl i.toNat)).op=toInt (af (nth hl i.toNat) 0):=by rw[cP];rfl
  simp only[ac0,my,vz,hop,List.cons_append] at h4
  rw[aC (n:=i+1) (by omega) (by omega)]
  have go: ∀b,b=(!decide (toInt (af (nth hl i.toNat) 0)=4)&& !lM (toInt (af (nth hl i.toNat) 0))&&(!decide (toInt (af (nth hl i.toNat) 0)=1)||decide (0<bl.length)))->
    ∃rest,xs=AV.aX [AV.lit (ax κ b)]::rest/\(∃m,m<hl.length - i.toNat/\ig Ao (zO κ) Cn (fun a=>a.hl.length - a.i.toNat) K m (Ao ⟨rest,more,rel,hl,bl,line,i+1⟩))/\K Exit.ret (sp 69 [] [.ext none, .box 48 (au ⟨xs,more,rel,hl,bl,line,i⟩)]):=by
   rintro b rfl
   refine⟨_,h4,⟨_,?_,⟨_,more,rel,hl,bl,line,i+1⟩,rfl,⟨by simpa[aL] using h1,by simp only;omega,by simp only;omega,?_⟩,rfl,ho⟩,ho2⟩
   ·simp only;omega
   ·simp only[my,show(i+1).toNat=i.toNat+1 by omega]
  simp only[EY,Bool.not_eq_true',ab2,aa0,aa2]
  refine⟨fun e1=>⟨fun e2=>⟨fun e3=>go _ ?_,fun e3=>go _ ?_⟩,fun e2=>go _ ?_⟩,fun e1=>go _ ?_⟩
  ·simp[e1,e2,e3]
  ·have e4:decide ((bl.length:Int)>0)=decide (0<bl.length):=by
    by_cases h:0<bl.length
    ·rw[aa6 h,aa6 (by omega)]
    ·rw[aa4 h,aa4 (by omega)]
   rw[e4]
   simp[e2,e3]
   intro _;rfl
  ·simp[e2]
  ·simp[e1]
 ·rw[aa8 (by omega)] at h4
  simp only[aa,my,List.map_nil,List.nil_append] at h4
  subst h4
  exact ho1
noncomputable def zc(κ:Kp):Env:=(L6 κ).ar 171 2 (aR 2 Ao (zO κ) Cn)
theorem VC(κ:Kp):aE (zc κ):=(ZK κ).ar (Zj κ) (V1 κ)
theorem SX(κ:Kp):aj (zc κ):=(Zj κ).ar aW
theorem Xv(κ:Kp)(a:cf)(I:Nat->S->Prop)(n:Nat)(K:Exit->S->Prop):(vc (zc κ) 12 171 none 2 (ag (Pr κ).toProgram 171 7) (Ky a) (bB (zc κ) 171 7 2 I n K))=(
 letI z1:=nth a.bl a.i.toNat
 letI z2:=AV.agg [AV.agg [AV.str a.rel,AV.ad 38 a.hl],AV.ad 80 a.bl,AV.int a.line]
 letI z3:=a.i<(↑(a.bl.length):Int)
 aw (decide z3) (aP (decide ((0:Int)<=a.i)&&decide z3) (∃(e1:List AV),a.xs=AV.aX [AV.lit (ax κ (lq {op:=toInt (af z1 0),a:={rel:=toStr (af (af z1 1) 0),l:=aa (ah (af (af z1 1) 1))},x:=Tm.mk (toInt (af (af z1 2) 0)) (toStr (af (af z1 2) 1)) (toInt (af (af z1 2) 2)) (aa (ah (af (af z1 2) 3))),y:=Tm.mk (toInt (af (af z1 3) 0)) (toStr (af (af z1 3) 1)) (toInt (af (af z1 3) 2)) (aa (ah (af (af z1 3) 3)))}))]::e1/\(∃(e0:Nat),e0<n/\I e0 (sp 69 [(0,AV.de 0),(57,AV.ad 80 a.bl),(58,AV.int (↑(a.bl.length):Int)),(59,AV.int (IntKind.wrap IntKind.i64 (a.i+(1:Int))))] [Obj.ext (some e1),Obj.box 48 z2]))/\K Exit.ret (sp 69 [] [Obj.ext none,Obj.box 48 z2]))) (K (Exit.exit 2) (sp 69 [] [Obj.ext (some a.xs),Obj.box 48 z2]))):=by kernel_rfl
theorem VV(κ:Kp):bf (zc κ) 12 171 7 (aR 2 Ky (En κ) IY):=by
 refine aG (fun a=>a.bl.length - a.i.toNat) ?_
 rintro⟨xs,more,rel,hl,bl,line,i⟩ K ⟨h1,h2,h3,h4⟩ ho
 simp only at h1 h2 h3 h4
 rw[show(zc κ).P=Pr κ from rfl,Xv]
 have ho1:=ho true trivial
 have ho2:=ho false trivial
 simp only[Out.run,aw] at ho1 ho2
 simp only[aL] at h1
 simp only[ae,ai,aa0,aa2,aa1,←lt_eq]
 refine⟨fun hi=>⟨⟨h2,hi⟩,?_⟩,fun hi=>?_⟩
 ·rw[nO bl i.toNat (by omega)] at h4
  simp only[ac0,my] at h4
  rw[aC (n:=i+1) (by omega) (by omega)]
  refine⟨_,h4,⟨_,?_,⟨_,more,rel,hl,bl,line,i+1⟩,rfl,⟨by simpa[aL] using h1,by simp only;omega,by simp only;omega,?_⟩,rfl,ho⟩,ho2⟩
  ·simp only;omega
  ·simp only[my,show(i+1).toNat=i.toNat+1 by omega]
 ·rw[aa8 (by omega)] at h4
  simp only[dh,my,List.map_nil] at h4
  subst h4
  exact ho1
noncomputable def J6(κ:Kp):Env:=(zc κ).ar 171 7 (aR 2 Ky (En κ) IY)
theorem VX(κ:Kp):aE (J6 κ):=(VC κ).ar (SX κ) (VV κ)
theorem TU(κ:Kp):aj (J6 κ):=(SX κ).ar aW
theorem y45(κ:Kp)(a:cf)(K:AV->List Dn.Obj->Prop):(ba (J6 κ) 12 171 [.de 0, .ptr 1 0 [] 0] [.ext (some a.xs), .box 48 (au a)] K)=(
 letI z1:=AV.agg [AV.agg [AV.str a.rel,AV.ad 38 a.hl],AV.ad 80 a.bl,AV.int a.line]
 letI z2:=Pg.toProgram (Env.P (L6 κ))
 letI z3:=Pg.toProgram (Env.P (zc κ))
 ∃(e5:List AV),a.xs=AV.aX [AV.lit (ax κ (bk {rel:=a.rel,l:=aa a.hl}))]::e5/\(∃(e4:List AV),e5=AV.aX [AV.lit (ax κ (decide ((↑(a.bl.length):Int)<=(20:Int))))]::e4/\(ag z2 171 2=ag z2 171 2/\∃(e3:cf),sp 69 [(0,AV.de 0),(1,AV.ptr 1 0 [] 0),(25,AV.ad 38 a.hl),(26,AV.int (↑(a.hl.length):Int)),(27,AV.int 0)] [Obj.ext (some e4),Obj.box 48 z1]=sp 69 [(0,AV.de 0),(1,AV.ptr 1 0 [] 0),(25,AV.ad 38 e3.hl),(26,AV.int (↑(e3.hl.length):Int)),(27,AV.int e3.i)] [Obj.ext (some e3.xs),Obj.box 48 (AV.agg [AV.agg [AV.str e3.rel,AV.ad 38 e3.hl],AV.ad 80 e3.bl,AV.int e3.line])]/\(e3.hl.length<=9223372036854775807/\(0:Int)<=e3.i/\e3.i<=(↑(e3.hl.length):Int)/\e3.xs=my κ (List.map (vz e3.bl.length) (aa (List.drop e3.i.toNat e3.hl)))++e3.more)/\∀(e2:Bool),True->aw e2 (ag z3 171 7=ag z3 171 7/\∃(e1:cf),sp 69 [(0,AV.de 0),(57,AV.ad 80 e3.bl),(58,AV.int (↑(e3.bl.length):Int)),(59,AV.int 0)] [Obj.ext (some e3.more),Obj.box 48 (AV.agg [AV.agg [AV.str e3.rel,AV.ad 38 e3.hl],AV.ad 80 e3.bl,AV.int e3.line])]=sp 69 [(0,AV.de 0),(57,AV.ad 80 e1.bl),(58,AV.int (↑(e1.bl.length):Int)),(59,AV.int e1.i)] [Obj.ext (some e1.xs),Obj.box 48 (AV.agg [AV.agg [AV.str e1.rel,AV.ad 38 e1.hl],AV.ad 80 e1.bl,AV.int e1.line])]/\(e1.bl.length<=9223372036854775807/\(0:Int)<=e1.i/\e1.i<=(↑(e1.bl.length):Int)/\e1.xs=my κ (List.map lq (dh (List.drop e1.i.toNat e1.bl))))/\∀(e0:Bool),True->aw e0 (K (AV.aX []) [Obj.ext (some []),Obj.box 48 (AV.agg [AV.agg [AV.str e1.rel,AV.ad 38 e1.hl],AV.ad 80 e1.bl,AV.int e1.line])]) (K (AV.aX []) [Obj.ext none,Obj.box 48 (AV.agg [AV.agg [AV.str e1.rel,AV.ad 38 e1.hl],AV.ad 80 e1.bl,AV.int e1.line])])) (K (AV.aX []) [Obj.ext none,Obj.box 48 (AV.agg [AV.agg [AV.str e3.rel,AV.ad 38 e3.hl],AV.ad 80 e3.bl,AV.int e3.line])]))/\K (AV.aX []) [Obj.ext none,Obj.box 48 z1])/\K (AV.aX []) [Obj.ext none,Obj.box 48 z1]):=by kernel_rfl
def Kw(a:cf):List AV×List Dn.Obj:=([.de 0, .ptr 1 0 [] 0],[.ext (some a.xs), .box 48 (au a)])
def Cb(κ:Kp)(a:cf):Prop:=a.hl.length<=aL/\a.bl.length<=aL/\a.xs=my κ (rD ⟨⟨a.rel,aa a.hl⟩,dh a.bl⟩)
def Ju:cf->Out (AV×List Dn.Obj):=fun _=> .all (fun st'=>vh st') fun st'=> .one (.aX [],st')
theorem c45(κ:Kp):bG (J6 κ) 12 171 (a0 Kw (Cb κ) Ju):=by
 refine bc ?_
 rintro⟨xs,more,rel,hl,bl,line,i⟩ K ⟨h1,h2,h3⟩ ho
 simp only at h1 h2 h3
 simp only[Kw]
 rw[y45 κ ⟨xs,more,rel,hl,bl,line,i⟩]
 simp only
 have hn: ∀b,K (.aX []) [.ext none,b]:=fun b=>ho _ trivial
 have h0: ∀b,K (.aX []) [.ext (some []),b]:=fun b=>ho _ trivial
 subst h3
 have UH:decide ((bl.length:Int)<=20)=decide (bl.length<=20):=by
  by_cases h:bl.length<=20
  ·rw[aa6 h,aa6 (by omega)]
  ·rw[aa4 h,aa4 (by omega)]
 rw[UH]
 simp only[rD,my,ac0,zm]
 refine⟨_,rfl,⟨_,rfl,⟨trivial,⟨_,my κ ((dh bl).map lq),rel,hl,bl,line,0⟩,rfl,⟨h1,by simp only;omega,by simp only;omega,?_⟩,?_⟩,hn _⟩,hn _⟩
 ·simp[my,zm]
 ·intro y _
  cases y
  ·exact hn _
  ·refine⟨trivial,⟨_,[],rel,hl,bl,line,0⟩,rfl,⟨h2,by simp only;omega,by simp only;omega,by simp[my]⟩,?_⟩
   intro y _
   cases y
   ·exact hn _
   ·exact h0 _
set_option maxRecDepth 20000 in
noncomputable def NM(κ:Kp):Env:=(J6 κ).az 171 (a0 Kw (Cb κ) Ju)
theorem e45(κ:Kp):aE (NM κ):=(VX κ).az (TU κ) (c45 κ)
theorem YT(κ:Kp):aj (NM κ):=(TU κ).az aZ
noncomputable abbrev Qd(κ:Kp)(a:cf)(st:LoopState)(p:Option Code):Dn.Obj:=
 .loop (iw (Pr κ).toProgram 96 3 st p (ic (bM 15) [(0,au a),(1, .ptr 0 0 [] 0),(2, .bool false),(3, .ptr 1 0 [] 0),(5,au a),(6, .bq 171 [.ptr 2 0 [] 0])]))
noncomputable abbrev o9(κ:Kp)(a:cf):List Dn.Obj:=[.box 48 (au a), .box 171 (.lit .nilIface), .box 48 (au a),Qd κ a .ready none]
noncomputable abbrev CX(κ:Kp)(a:cf):List Dn.Obj:=[.box 48 (au a), .box 171 (.lit .nilIface), .dead,Qd κ a .ready none]
theorem s16(κ:Kp)(a:cf)(Q:List Dn.Obj->Prop):(tidy (Pr κ).toProgram 4 (ez (o9 κ a) (dj (o9 κ a) [.ptr 2 0 [] 0])) Q)=(
 Q [Obj.box 48 (au a),Obj.box 171 (AV.lit Value.nilIface),Obj.dead,Dn.Obj.loop (iw Tryz.prog 96 3 LoopState.ready none (ic (bM 15) [(0,au a),(1,AV.ptr 0 0
 [] 0),(2,AV.bool false),(3,AV.ptr 1 0 [] 0),(5,au a),(6,AV.bq 171 [AV.ptr 2 0 [] 0])]))]):=by kernel_rfl
theorem r16(κ:Kp)(a:cf)(u:Value)(Q:List Dn.Obj->Prop)(K2:List Dn.Obj->Prop):(iS (vc (NM κ) 12) 3 [.lit u] (CX κ a) (fun r st''=>match r with| .lit (.bool true)=>tidy (Pr κ).toProgram 4 st'' Q| .lit (.bool false)=>K2 st''|_=>False))=(
 letI z1:=ic (bM 15) [(0,au a),(1,AV.ptr 0 0 [] 0),(2,AV.bool false),(3,AV.ptr 1 0 [] 0),(5,au a),(6,AV.bq 171 [AV.ptr 2 0 [] 0])]
 aP (ay u) (aw (!bI u) (K2 [Obj.box 48 (au a),Obj.box 171 (AV.lit u),Obj.dead,Dn.Obj.loop (iw Tryz.prog 96 3 LoopState.done (some (Code.exit 0)) z1)]) (Q
 [Obj.box 48 (au a),Obj.box 171 (AV.lit Value.nilIface),Obj.dead,Dn.Obj.loop (iw Tryz.prog 96 3 LoopState.ready none z1)]))):=by kernel_rfl
noncomputable abbrev PW(κ:Kp)(a:cf):List Dn.Obj:=[.box 48 (au a), .box 171 (.lit (ax κ false)), .dead,Qd κ a .done (some (.exit 0))]
def vQ(a:cf):Rl:=⟨⟨a.rel,aa a.hl⟩,dh a.bl⟩
theorem k16(κ:Kp)(a:cf)(xs:List AV):(AV.de 0::fY (kn (dj (o9 κ a) [.ptr 2 0 [] 0])) [.ptr 2 0 [] 0],Obj.ext (some xs)::gK (kn (dj (o9 κ a) [.ptr 2 0 [] 0])) (ik (o9 κ a) (dj (o9 κ a) [.ptr 2 0 [] 0])))=Kw {a with xs:=xs}:=by kernel_rfl
theorem o16(κ:Kp)(a:cf):qW (o9 κ a) [.ptr 2 0 [] 0]=true:=by kernel_rfl
noncomputable def Pq(κ:Kp):dJ:=fun caps st K=>∃a:cf,(caps,st)=([AV.ptr 2 0 [] 0],o9 κ a)/\(a.hl.length<=aL/\a.bl.length<=aL)/\aw (aV (vQ a)) (K (CX κ a)) (K (PW κ a))
theorem GC(κ:Kp):(Pq κ).ib:=by
 rintro caps st K K' hK ⟨a,h1,h2,h3⟩
 refine⟨a,h1,h2,?_⟩
 rw[ae] at h3⊢
 exact⟨fun e=>hK _ (h3.1 e),fun e=>hK _ (h3.2 e)⟩
theorem call45(κ:Kp)(args:List AV)(st:List Dn.Obj)(K:AV->List Dn.Obj->Prop)(h:a0 Kw (Cb κ) Ju args st K):(NM κ).call 171 args st K:=h
theorem WI(κ:Kp):ou (NM κ) 12 171 (Pq κ):=by
 rintro caps st K ⟨a,h1,h2,h3⟩
 obtain⟨rfl,rfl⟩:=Prod.mk.inj h1
 rw[ae] at h3
 refine⟨my κ (rD (vQ a)),fun items st'=>∃l,items=my κ l/\st'=CX κ a/\aV (vQ a)=l.all id,⟨o16 κ a,?_,?_,?_,?_⟩⟩
 ·refine call45 κ _ _ _ ?_
  refine⟨{a with xs:=my κ (rD (vQ a))},?_,⟨h2.1,h2.2,rfl⟩,fun st' h=>h⟩
  exact k16 κ a _
 ·rw[show(NM κ).P=Pr κ from rfl,show(o9 κ a).length=4 from rfl,s16]
  exact⟨_,rfl,rfl,C7 _⟩
 ·rintro us rest st' ⟨l,e1,rfl,e3⟩
  cases l with
  |nil=>cases e1
  |cons b l=>
   simp only[my,ac0,List.cons.injEq,AV.aX.injEq] at e1
   obtain⟨rfl,rfl⟩:=e1
   rw[show(NM κ).P=Pr κ from rfl,show(o9 κ a).length=4 from rfl]
   refine Eq.mpr (r16 κ a (ax κ b) _ _) ?_
   rw[mf,pq]
   cases b with
   |true=>exact⟨l,rfl,rfl,by rw[e3];rfl⟩
   |false=>exact h3.2 (by rw[e3];rfl)
 ·rintro st' ⟨l,e1,rfl,e3⟩
  cases l with
  |nil=>exact h3.1 (by rw[e3];rfl)
  |cons b l=>cases e1
def VT:List Nat:=[171]
noncomputable def OU(κ:Kp):Env:=((NM κ).addRange 96 3 171 (Pq κ)).dG (fun f=>gL f VT)
theorem Wk(κ:Kp):aE (OU κ):=((e45 κ).addRange (YT κ) (WI κ)).dG _
theorem XD(κ:Kp):aj (OU κ):=((YT κ).addRange (GC κ)).dG _
end Go.Proofs.YtioeffnadipbaaaGreatDoor
namespace Go.Proofs.YtioeffnadipbaaaGreatDoor
open Go Go.Dn Go.Rl Go.Proofs Go.RowKit Go.Extern.Stop Go.Stop Go.Extern
theorem uP(v:Value)(w:World):(Extern.ReflectliteType.typeOf #[.iface 273 v]).run Tryz.prog w= .ok (.iface 257 (.agg #[.pointer (some ⟨5,273,none⟩)])) w:=by kernel_rfl
theorem mB(w:World):((Extern.ReflectliteType.method fun t=>do Go.Extern.Rtype.noPackHeld "Comparable" t;(fun a=>Value.bool a.comparable)<$>typeInfo t) #[.agg #[.pointer (some ⟨5,273,none⟩)]]).run Tryz.prog w= .ok (.bool true) w:=by kernel_rfl
theorem ie(v:Value)(w:World):(Go.method 411 257 v "Comparable").run Tryz.prog w= .ok (222,v) w:=by kernel_rfl
theorem CI:(Tryz.prog.info? 273).map (·.comparable)=some true:=by kernel_rfl
theorem CS:(Tryz.prog.info? 299).map (·.size)=some 1:=by kernel_rfl
set_option maxRecDepth 4000 in
theorem ER(a:Addr)(w:World):
  Calls Tryz.prog 108 #[.iface 273 (.pointer (some a)), .iface 273 (.pointer (some a))] w fun e w'=>e= .returned (.bool true)/\w'=w:=by
 obtain⟨i,hi,hcmp⟩:=Option.map_eq_some_iff.1 CI
 obtain⟨j,hj,hjs⟩:=Option.map_eq_some_iff.1 CS
 have h8:= @run_callFunc_extern Tryz.prog 157 _ Extern.ReflectliteType.typeOf Tryz.func157 (by kernel_rfl) (by kernel_rfl) (by kernel_rfl) (by kernel_rfl)
 have h32:= @run_callFunc_extern Tryz.prog 222 _ (Extern.ReflectliteType.method fun t=>do Go.Extern.Rtype.noPackHeld "Comparable" t;pure (.bool (←typeInfo t).comparable)) Tryz.func222 (by kernel_rfl) (by kernel_rfl) (by kernel_rfl) (by kernel_rfl)
 have tT:=uP
 have cT:=mB
 have mR:=ie
 have heq:=run_eql_iface_ptr_same (P:=Tryz.prog) w a Tryz.underlying171 Tryz.underlying273 hi hcmp hj
 go_enter Tryz.func108,Tryz.ntmps108
 go_wp2
 refine wp_loop_rounds 1 ?_
 rw[rounds_succ]
 go_wp2
 go_ret
 exact⟨rfl,rfl⟩
theorem JG(b:Addr)(w:World):
  Calls Tryz.prog 108 #[.nilIface, .iface 273 (.pointer (some b))] w fun e w'=>e= .returned (.bool false)/\w'=w:=by
 have hn:=run_eql_iface_nil_left (P:=Tryz.prog) w 273 (.pointer (some b)) Tryz.underlying171
 go_enter Tryz.func108,Tryz.ntmps108
 go_wp2
 go_ret
 exact⟨rfl,rfl⟩
def V5:List AV->Option (Bool×AV)
 |[.lit .nilIface, .lit (.iface 273 (.pointer (some _)))]=>some (true, .bool false)
 |[.lit (.iface 273 (.pointer (some a))), .lit (.iface 273 (.pointer (some b)))]=>some (decide (a=b), .bool true)
 |_=>none
theorem tO{C:Ctx}{u v:Value}{vs:Array Value}(h:MT C [.lit u, .lit v] vs.toList):vs= #[u,v]:=by
 obtain⟨l⟩:=vs
 match l,h with
 |[a,b],h=>
  simp only[MT] at h
  have h1:Rel C (.lit u) a:=⟨h.1,h.2.1,h.2.2.1⟩
  have h2:Rel C (.lit v) b:=⟨h.2.2.2.1,h.2.2.2.2.1,h.2.2.2.2.2.1⟩
  rw[aH h1,aH h2]
 |[],h=>simp[MT] at h
 |[_],h=>simp[MT] at h
 |_::_::_::_,h=>simp[MT] at h
theorem qIs(κ:Kp):fg (Pr κ) 108 V5:=by
 intro args x hn hg
 unfold V5 at hg
 split at hg
 ·simp only[aa3,aa9,true_and] at hg
  subst hg
  refine⟨_,_,Tryz.func108,rfl,rfl,rfl,fun C vs hC hI hm=>?_⟩
  rw[tO hm]
  refine(callsIn_wide.2 (JG _ C.w)).mono ?_
  rintro e w' ⟨rfl,rfl⟩
  exact⟨rfl,gT.refl _⟩
 ·simp only[aa3,aa9,aa0] at hg
  obtain⟨rfl,rfl⟩:=hg
  refine⟨_,_,Tryz.func108,rfl,rfl,rfl,fun C vs hC hI hm=>?_⟩
  rw[tO hm]
  refine(callsIn_wide.2 (ER _ C.w)).mono ?_
  rintro e w' ⟨rfl,rfl⟩
  exact⟨rfl,gT.refl _⟩
 ·cases hg
end Go.Proofs.YtioeffnadipbaaaGreatDoor
namespace Go.Proofs.YtioeffnadipbaaaGreatDoor
open Go Go.Dn Go.Rl Go.Proofs
attribute [local irreducible] ba vc
set_option maxRecDepth 20000
noncomputable def Rn(κ:Kp):Env:=(OU κ).aK 108 V5
theorem eIs(κ:Kp):aE (Rn κ):=(Wk κ).dZ (qIs κ)
theorem XT(κ:Kp):aj (Rn κ):=(XD κ).aK
theorem y16(κ:Kp)(a:cf)(K:AV->List Dn.Obj->Prop):(ba (Rn κ) 12 96 [au a] [] K)=(
 ∃(e0:cf),([AV.ptr 2 0 [] 0],[Obj.box 48 (au a),Obj.box 171 (AV.lit Value.nilIface),Obj.box 48 (au a),Dn.Obj.loop (iw Tryz.prog 96 3 LoopState.ready none
 (ic (bM 15) [(0,au a),(1,AV.ptr 0 0 [] 0),(2,AV.bool false),(3,AV.ptr 1 0 [] 0),(5,au a),(6,AV.bq 171 [AV.ptr 2 0 [] 0])]))])=([AV.ptr 2 0 [] 0],
 [Obj.box 48 (au e0),Obj.box 171 (AV.lit Value.nilIface),Obj.box 48 (au e0),Dn.Obj.loop (iw Tryz.prog 96 3 LoopState.ready none (ic (bM 15) [(0,au e0),(1,
 AV.ptr 0 0 [] 0),(2,AV.bool false),(3,AV.ptr 1 0 [] 0),(5,au e0),(6,AV.bq 171 [AV.ptr 2 0 [] 0])]))])/\(e0.hl.length<=9223372036854775807/\
 e0.bl.length<=9223372036854775807)/\aw (aV (vQ e0)) (K (AV.bool true) []) (aP (decide (Kp.tree κ=Kp.tree κ)) (K (AV.bool false) []))):=by kernel_rfl
def Xx:List AV->Option (Bool×AV)
 |[.agg [.agg [.lit (.string rel), .ad 38 hl], .ad 80 bl, .lit (.int .i64 _)]]=>some (decide (hl.length<=aL)&&decide (bl.length<=aL), .bool (aV ⟨⟨rel,aa hl⟩,dh bl⟩))
 |_=>none
theorem p16(κ:Kp):cj (Rn κ) 12 96 Xx:=by
 intro args x hh
 unfold Xx at hh
 split at hh
 ·rename_i rel hl bl line
  simp only[aa3,aa9,aa1,aa0] at hh
  obtain⟨⟨h1,h2⟩,rfl⟩:=hh
  refine⟨_,rfl,rfl,?_⟩
  rw[y16 κ ⟨[],[],rel,hl,bl,line,0⟩]
  refine⟨⟨[],[],rel,hl,bl,line,0⟩,rfl,⟨h1,h2⟩,?_⟩
  rw[ae]
  refine⟨fun e=>?_,fun e=>?_⟩
  ·rw[show aV ⟨⟨rel,aa hl⟩,dh bl⟩=true from e]
  ·rw[show aV ⟨⟨rel,aa hl⟩,dh bl⟩=false from e]
   simp[aP]
 ·cases hh
noncomputable def Uz(κ:Kp):Env:=(Rn κ).aK 96 Xx
theorem YY(κ:Kp):aE (Uz κ):=(eIs κ).aK (XT κ) (p16 κ)
theorem YZ(κ:Kp):aj (Uz κ):=(XT κ).aK
def P5(l:List AV):List AV×List Dn.Obj:=([.ad 38 l],[])
def PL(n:Nat)(l:List AV):Prop:=aI (aa l)=n/\n<=100000
def IW(l:List AV):Out (AV×List Dn.Obj):= .one (.aB 0 0 (aq (aa l)).length,[.row 9 (strs (aq (aa l)))])
def I7(n:Nat):b7:=a0 P5 (PL n) IW
noncomputable def yK(κ:Kp)(r:Nat):Env:=(Uz κ).az 155 fun args st K=>∃m,m<r/\I7 m args st K
theorem x31(κ:Kp)(r:Nat)(l:List AV)(i:Int)(xs:List AV)(k:Nat)(I:Nat->S->Prop)(n:Nat)(K:Exit->S->Prop):(vc (yK κ r) 12 155 none 0 (ag (Pr κ).toProgram 155 3) (sp 27 [(3, .aB 0 0 k),(6, .ad 38 l),(7, .int l.length),(8, .int i)] [.row 9 xs]) (bB (yK κ r) 155 3 0 I n K))=(
 letI z1:=IntKind.wrap IntKind.i64 (i+(1:Int))
 letI z2:=nth l i.toNat
 letI z3:=i<(↑(l.length):Int)
 aw (decide z3) (aP (decide ((0:Int)<=i)&&decide z3) (aw (toInt (af z2 0)==(1:Int)) (aP (decide ((k+1+1)*17<=70368744177664)) (∃(e2:Nat),e2<
 r/\∃(e1:List AV),([AV.ad 38 (ah (af z2 3))],aJ)=([AV.ad 38 e1],aJ)/\(aI (aa e1)=e2/\e2<=100000)/\aP (decide ((k+1+List.length (List.take
 (List.length (aq (aa e1))) (List.drop 0 (strs (aq (aa e1)))))+1)*17<=70368744177664)) (∃(e0:Nat),e0<n/\I e0 (sp 27 [(3,AV.aB 0 0 (k+1+
 List.length (List.take (List.length (aq (aa e1))) (List.drop 0 (strs (aq (aa e1))))))),(6,AV.ad 38 l),(7,AV.int (↑(l.length):Int)),(8,AV.int z1)]
 [Obj.row 9 (List.take (k+1) (List.take k xs++[AV.str (toStr (af z2 1))])++List.take (List.length (aq (aa e1))) (List.drop 0 (strs (aq (aa e1)))))])))) (∃
 (e2:Nat),e2<r/\∃(e1:List AV),([AV.ad 38 (ah (af z2 3))],aJ)=([AV.ad 38 e1],aJ)/\(aI (aa e1)=e2/\e2<=100000)/\aP (decide ((k+List.length
 (List.take (List.length (aq (aa e1))) (List.drop 0 (strs (aq (aa e1)))))+1)*17<=70368744177664)) (∃(e0:Nat),e0<n/\I e0 (sp 27 [(3,AV.aB 0 0 (k+
 List.length (List.take (List.length (aq (aa e1))) (List.drop 0 (strs (aq (aa e1))))))),(6,AV.ad 38 l),(7,AV.int (↑(l.length):Int)),(8,AV.int z1)]
 [Obj.row 9 (List.take k xs++List.take (List.length (aq (aa e1))) (List.drop 0 (strs (aq (aa e1)))))]))))) (K (Exit.exit 0) (sp 27 [(3,AV.aB 0 0 k)] [Obj.row
 9 xs]))):=by kernel_rfl
abbrev FG(a:List AV×Int×List ByteArray):S:=sp 27 [(3, .aB 0 0 a.2.2.length),(6, .ad 38 a.1),(7, .int a.1.length),(8, .int a.2.1)] [.row 9 (strs a.2.2)]
def FY(r:Nat)(a:List AV×Int×List ByteArray):Prop:=a.1.length<=aL/\0<=a.2.1/\a.2.1<=a.1.length/\aI (aa (a.1.drop a.2.1.toNat))<=r/\a.2.2.length+aI (aa (a.1.drop a.2.1.toNat))<=100000
def vG(a:List AV×Int×List ByteArray):Out (Exit×S):= .one (.exit 0,sp 27 [(3, .aB 0 0 (a.2.2++aq (aa (a.1.drop a.2.1.toNat))).length)] [.row 9 (strs (a.2.2++aq (aa (a.1.drop a.2.1.toNat))))])
theorem EF(l:List AV)(i:Nat)(h:i<l.length):aI (aa (l.drop i))=1+aI (aa (ah (af (nth l i) 3)))+aI (aa (l.drop (i+1))):=by
 rw[dR l i h,aI,cP,Tm.fS]
theorem Kl(l:List AV)(i:Nat)(h:i<l.length):aq (aa (l.drop i))=(bif decide (toInt (af (nth l i) 0)=1) then[toStr (af (nth l i) 1)] else[])++aq (aa (ah (af (nth l i) 3)))++aq (aa (l.drop (i+1))):=by
 rw[dR l i h,aq,cP,Tm.vars]
theorem l31(κ:Kp)(r:Nat):bf (yK κ r) 12 155 3 (aR 0 FG (FY r) vG):=by
 refine aG (fun a=>a.1.length - a.2.1.toNat) ?_
 rintro⟨l,i,vs⟩ K ⟨h1,h2,h3,h4,h5⟩ ho
 simp only at h1 h2 h3 h4 h5
 rw[show(yK κ r).P=Pr κ from rfl]
 refine Eq.mpr (x31 κ r l i (strs vs) vs.length _ _ K) ?_
 simp only[ab0,cX]
 simp only[aL] at h1
 simp only[ae,ai,aa0,aa2,aa1,beq_iff_eq,beq_eq_false_iff_ne]
 refine⟨fun hi=>⟨⟨h2,hi⟩,?_⟩,fun hi=>?_⟩
 ·have hc:=EF l i.toNat (by omega)
  have hv:=Kl l i.toNat (by omega)
  have hle:=cy (aa (ah (af (nth l i.toNat) 3)))
  rw[aC (n:=i+1) (by omega) (by omega)]
  refine⟨fun e1=>⟨by omega,_,?_,ah (af (nth l i.toNat) 3),rfl,⟨rfl,by omega⟩,?_,_,?_,(l,i+1,vs++[toStr (af (nth l i.toNat) 1)]++aq (aa (ah (af (nth l i.toNat) 3)))),?_,⟨by simpa[aL] using h1,by simp only;omega,by simp only;omega,?_,?_⟩,rfl,?_⟩,
   fun e1=>⟨_,?_,ah (af (nth l i.toNat) 3),rfl,⟨rfl,by omega⟩,?_,_,?_,(l,i+1,vs++aq (aa (ah (af (nth l i.toNat) 3)))),?_,⟨by simpa[aL] using h1,by simp only;omega,by simp only;omega,?_,?_⟩,rfl,?_⟩⟩
  all_goals first
   |omega
   |(simp only[aO];omega)
   |(simp only[show(i+1).toNat=i.toNat+1 by omega,ab8,List.length_cons,List.length_nil];omega)
   |skip
  ·simp only[FG,gN,aO,ab8,List.length_cons,List.length_nil]
   rw[List.take_of_length_le (by simp[aO])]
   rfl
  ·simp only[vG,Out.run,show(i+1).toNat=i.toNat+1 by omega] at ho⊢
   rw[hv,aa6 e1] at ho
   simpa[List.append_assoc] using ho
  ·simp only[FG,gN,aO,ab8]
  ·simp only[vG,Out.run,show(i+1).toNat=i.toNat+1 by omega] at ho⊢
   rw[hv,aa4 e1] at ho
   simpa[List.append_assoc] using ho
 ·simp only[vG,Out.run] at ho
  rw[aa8 (by omega)] at ho
  simpa[aa,aq] using ho
noncomputable def HI(κ:Kp)(r:Nat):Env:=(yK κ r).ar 155 3 (aR 0 FG (FY r) vG)
theorem y31(κ:Kp)(r:Nat)(l:List AV)(K:AV->List Dn.Obj->Prop):(ba (HI κ r) 12 155 [.ad 38 l] [] K)=(
 ag (Pg.toProgram (Env.P (yK κ r))) 155 3=ag (Pg.toProgram (Env.P (yK κ r))) 155 3/\∃(a:List AV×Int×List ByteArray),sp 27 [(3,AV.aB 0
 0 0),(6,AV.ad 38 l),(7,AV.int (↑(l.length):Int)),(8,AV.int 0)] [Obj.row 9 []]=sp 27 [(3,AV.aB 0 0 (List.length a.2.2)),(6,AV.ad 38 a.1),(7,
 AV.int (↑(a.1.length):Int)),(8,AV.int a.2.1)] [Obj.row 9 (strs a.2.2)]/\(a.1.length<=9223372036854775807/\(0:Int)<=a.2.1/\a.2.1<=(↑(a.1.length):
 Int)/\aI (aa (List.drop a.2.1.toNat a.1))<=r/\List.length a.2.2+aI (aa (List.drop a.2.1.toNat a.1))<=100000)/\K (AV.aB 0 0 (List.length
 (a.2.2++aq (aa (List.drop a.2.1.toNat a.1))))) [Obj.row 9 (strs (a.2.2++aq (aa (List.drop a.2.1.toNat a.1))))]):=by kernel_rfl
theorem GJ(n:Nat):(I7 n).ib:=aZ
theorem VN(κ:Kp)(r:Nat)(hp: ∀args st K,(∃m,m<r/\I7 m args st K)->bD (Pr κ) 155 args st K):aE (HI κ r)/\aj (HI κ r)/\(HI κ r).P=Pr κ:=
 have h:aE (yK κ r):=(YY κ).fT hp
 have hm:aj (yK κ r):=(YZ κ).az (fun _ _ _ _ hK ⟨m,h1,h2⟩=>⟨m,h1,GJ m _ _ _ _ hK h2⟩)
 ⟨h.ar hm (l31 κ r),hm.ar aW,rfl⟩
theorem c31(κ:Kp)(r:Nat):bG (HI κ r) 12 155 (I7 r):=by
 refine bc ?_
 rintro l K ⟨h1,h2⟩ ho
 refine Eq.mpr (y31 κ r l K) ?_
 have:=ee (aa l)
 rw[du] at this
 refine⟨rfl,(l,0,[]),rfl,⟨by simp only;omega,by simp only;omega,by simp only;omega,?_,?_⟩,?_⟩
 ·simp only[ab7,ab0];omega
 ·simp only[ab7,ab0,List.length_nil];omega
 ·simp only[ab7,ab0,List.nil_append]
  exact ho
def bw(l:List AV):Prop:=aI (aa l)<=100000
theorem q31(κ:Kp): ∀args st K,a0 P5 bw IW args st K->bD (Pr κ) 155 args st K:=by
 rintro args st K ⟨l,h1,h2,h3⟩
 exact aE.q9 I7 (HI κ) (VN κ) (c31 κ) (aI (aa l)) args st K ⟨l,h1,⟨rfl,h2⟩,h3⟩
noncomputable def Lw(κ:Kp):Env:=(Uz κ).az 155 (a0 P5 bw IW)
theorem e31(κ:Kp):aE (Lw κ):=(YY κ).fT (q31 κ)
theorem XV(κ:Kp):aj (Lw κ):=(YZ κ).az aZ
theorem x23(κ:Kp)(l:List AV)(i:Int)(es:List (Value×AV))(I:Nat->S->Prop)(n:Nat)(K:Exit->S->Prop):(vc (Lw κ) 12 112 none 1 (ag (Pr κ).toProgram 112 1) (sp 15 [(0, .mp 0),(6, .ad 9 l),(7, .int l.length),(8, .int i)] [.map 9 4 es]) (bB (Lw κ) 112 1 1 I n K))=(
 letI z1:=i<(↑(l.length):Int)
 aw (decide z1) (aP (decide ((0:Int)<=i)&&decide z1) (∃(e0:Nat),e0<n/\I e0 (sp 15 [(0,AV.mp 0),(6,AV.ad 9 l),(7,AV.int (↑(l.length):Int)),(8,
 AV.int (IntKind.wrap IntKind.i64 (i+(1:Int))))] [Dn.Obj.map 9 4 (eX es (Value.string (toStr (nth l i.toNat))) (AV.bool true))]))) (K (Exit.exit 0) (sp 15 []
 [Dn.Obj.map 9 4 es]))):=by kernel_rfl
abbrev NF(a:List AV×Int×List (Value×AV)):S:=sp 15 [(0, .mp 0),(6, .ad 9 a.1),(7, .int a.1.length),(8, .int a.2.1)] [.map 9 4 a.2.2]
def tg(a:List AV×Int×List (Value×AV)):Prop:=a.1.length<=aL/\0<=a.2.1/\a.2.1<=a.1.length
def yl(a:List AV×Int×List (Value×AV)):Out (Exit×S):= .one (.exit 0,sp 15 [] [.map 9 4 (fo a.2.2 (a.1.drop a.2.1.toNat))])
theorem l23(κ:Kp):bf (Lw κ) 12 112 1 (aR 1 NF tg yl):=by
 refine aG (fun a=>a.1.length - a.2.1.toNat) ?_
 rintro⟨l,i,es⟩ K ⟨h1,h2,h3⟩ ho
 simp only at h1 h2 h3
 rw[show(Lw κ).P=Pr κ from rfl]
 refine Eq.mpr (x23 κ l i es _ _ K) ?_
 simp only[aL] at h1
 simp only[ae,ai,aa0,aa2,aa1]
 refine⟨fun hi=>⟨⟨h2,hi⟩,?_⟩,fun hi=>?_⟩
 ·rw[aC (n:=i+1) (by omega) (by omega)]
  refine⟨_,?_,(l,i+1,eX es (.string (toStr (nth l i.toNat))) (.lit (.bool true))),rfl,⟨by simpa[aL] using h1,by simp only;omega,by simp only;omega⟩,rfl,?_⟩
  ·simp only;omega
  ·simp only[yl,Out.run] at ho⊢
   rw[ab1 (show i.toNat<l.length by omega),fo,←a7 l i.toNat (by omega)] at ho
   rw[show(i+1).toNat=i.toNat+1 by omega]
   exact ho
 ·simp only[yl,Out.run] at ho
  rw[aa8 (by omega)] at ho
  exact ho
noncomputable def IC(κ:Kp):Env:=(Lw κ).ar 112 1 (aR 1 NF tg yl)
theorem Ws(κ:Kp):aE (IC κ):=(e31 κ).ar (XV κ) (l23 κ)
theorem Q7(κ:Kp):aj (IC κ):=(XV κ).ar aW
theorem y23(κ:Kp)(l:List AV)(es:List (Value×AV))(K:AV->List Dn.Obj->Prop):(ba (IC κ) 12 112 [.mp 0, .ad 9 l] [.map 9 4 es] K)=(
 letI z1:=Pg.toProgram (Env.P (Lw κ))
 ag z1 112 1=ag z1 112 1/\∃(e0:List AV×Int×List (Value×AV)),sp 15 [(0,AV.mp 0),(6,AV.ad 9 l),(7,AV.int (↑(l.length):Int)),(8,AV.int 0)]
 [Dn.Obj.map 9 4 es]=sp 15 [(0,AV.mp 0),(6,AV.ad 9 e0.1),(7,AV.int (↑(e0.1.length):Int)),(8,AV.int e0.2.1)] [Dn.Obj.map 9 4 e0.2.2]/\(e0.1.length<=
 9223372036854775807/\(0:Int)<=e0.2.1/\e0.2.1<=(↑(e0.1.length):Int))/\K (AV.aX []) [Dn.Obj.map 9 4 (fo e0.2.2 (List.drop e0.2.1.toNat e0.1))]):=by kernel_rfl
def MC(a:List AV×List (Value×AV)):List AV×List Dn.Obj:=([.mp 0, .ad 9 a.1],[.map 9 4 a.2])
def bj(a:List AV×List (Value×AV)):Prop:=a.1.length<=aL
def N9(a:List AV×List (Value×AV)):Out (AV×List Dn.Obj):= .one (.aX [],[.map 9 4 (fo a.2 a.1)])
theorem c23(κ:Kp):bG (IC κ) 12 112 (a0 MC bj N9):=by
 refine bc ?_
 rintro⟨l,es⟩ K h1 ho
 refine Eq.mpr (y23 κ l es K) ?_
 exact⟨rfl,(l,0,es),rfl,⟨h1,by simp only;omega,by simp only;omega⟩,ho⟩
noncomputable def LU(κ:Kp):Env:=(IC κ).az 112 (a0 MC bj N9)
theorem e23(κ:Kp):aE (LU κ):=(Ws κ).az (Q7 κ) (c23 κ)
theorem Y4(κ:Kp):aj (LU κ):=(Q7 κ).az aZ
theorem x41(κ:Kp)(l:List AV)(i:Int)(es:List (Value×AV))(I:Nat->S->Prop)(n:Nat)(K:Exit->S->Prop):(vc (LU κ) 12 161 none 2 (ag (Pr κ).toProgram 161 2) (sp 19 [(0, .ad 9 l),(1, .bq 183 [.ptr 1 0 [] 0]),(7, .int l.length),(8, .int i)] [.map 9 4 es, .box 178 (.mp 0)]) (bB (LU κ) 161 2 2 I n K))=(
 letI z1:=i<(↑(l.length):Int)
 aw (decide z1) (aP (decide ((0:Int)<=i)&&decide z1) (aw (!Dn.toBool (dO es (Value.string (toStr (nth l i.toNat))) (AV.bool false))) (K Exit.ret (sp 19 [(4,
 AV.int i)] [Dn.Obj.map 9 4 es,Obj.box 178 (AV.mp 0)])) (∃(e0:Nat),e0<n/\I e0 (sp 19 [(0,AV.ad 9 l),(1,AV.bq 183 [AV.ptr 1 0 [] 0]),(7,AV.int
 (↑(l.length):Int)),(8,AV.int (IntKind.wrap IntKind.i64 (i+(1:Int))))] [Dn.Obj.map 9 4 es,Obj.box 178 (AV.mp 0)])))) (K (Exit.exit 0) (sp 19 []
 [Dn.Obj.map 9 4 es,Obj.box 178 (AV.mp 0)]))):=by kernel_rfl
abbrev Iy(es:List (Value×AV)):List Dn.Obj:=[.map 9 4 es, .box 178 (.mp 0)]
abbrev Om(a:List AV×Int×List (Value×AV)):S:=sp 19 [(0, .ad 9 a.1),(1, .bq 183 [.ptr 1 0 [] 0]),(7, .int a.1.length),(8, .int a.2.1)] (Iy a.2.2)
def yr(a:List AV×Int×List (Value×AV)):Out (Exit×S):=
 .aw (gk a.2.2 (a.1.drop a.2.1.toNat)) (.one (.exit 0,sp 19 [] (Iy a.2.2))) (.all (fun j:Int=>0<=j) fun j=> .one (.ret,sp 19 [(4, .int j)] (Iy a.2.2)))
theorem l41(κ:Kp):bf (LU κ) 12 161 2 (aR 2 Om tg yr):=by
 refine aG (fun a=>a.1.length - a.2.1.toNat) ?_
 rintro⟨l,i,es⟩ K ⟨h1,h2,h3⟩ ho
 simp only at h1 h2 h3
 rw[show(LU κ).P=Pr κ from rfl]
 refine Eq.mpr (x41 κ l i es _ _ K) ?_
 simp only[aL] at h1
 simp only[yr,Out.run,ae] at ho
 simp only[ae,ai,aa0,aa2,aa1,Bool.not_eq_true',ab2]
 refine⟨fun hi=>⟨⟨h2,hi⟩,?_⟩,fun hi=>?_⟩
 ·rw[ab1 (show i.toNat<l.length by omega),←a7 l i.toNat (by omega)] at ho
  simp only[gk,List.all_cons] at ho
  refine⟨fun e=>?_,fun e=>?_⟩
  ·have e':kD es (toStr (nth l i.toNat))=false:=e
   exact ho.2 (by rw[e'];rfl) i h2
  ·have e':kD es (toStr (nth l i.toNat))=true:=e
   rw[e',ab9] at ho
   rw[aC (n:=i+1) (by omega) (by omega)]
   refine⟨_,?_,(l,i+1,es),rfl,⟨by simpa[aL] using h1,by simp only;omega,by simp only;omega⟩,rfl,?_⟩
   ·simp only;omega
   ·simp only[yr,Out.run,ae,show(i+1).toNat=i.toNat+1 by omega]
    exact ho
 ·rw[aa8 (by omega)] at ho
  exact ho.1 rfl
noncomputable def Lc(κ:Kp):Env:=(LU κ).ar 161 2 (aR 2 Om tg yr)
theorem U0(κ:Kp):aE (Lc κ):=(e23 κ).ar (Y4 κ) (l41 κ)
theorem Tw(κ:Kp):aj (Lc κ):=(Y4 κ).ar aW
theorem y30(κ:Kp)(l:List AV)(es:List (Value×AV))(K:AV->List Dn.Obj->Prop):(ba (Lc κ) 12 154 [.mp 0, .ad 9 l] [.map 9 4 es] K)=(
 ag (Pg.toProgram (Env.P (LU κ))) 161 2=ag (Pg.toProgram (Env.P (LU κ))) 161 2/\∃(a:List AV×Int×List (Value×AV)),sp 19 [(0,AV.ad 9
 l),(1,AV.bq 183 [AV.ptr 1 0 [] 0]),(7,AV.int (↑(l.length):Int)),(8,AV.int 0)] [Dn.Obj.map 9 4 es,Obj.box 178 (AV.mp 0)]=sp 19 [(0,AV.ad 9 a.1),
 (1,AV.bq 183 [AV.ptr 1 0 [] 0]),(7,AV.int (↑(a.1.length):Int)),(8,AV.int a.2.1)] [Dn.Obj.map 9 4 a.2.2,Obj.box 178 (AV.mp 0)]/\(a.1.length<=
 9223372036854775807/\(0:Int)<=a.2.1/\a.2.1<=(↑(a.1.length):Int))/\aw (gk a.2.2 (List.drop a.2.1.toNat a.1)) (K (AV.bool true) [Dn.Obj.map 9 4
 a.2.2]) (∀(y:Int),(0:Int)<=y->K (AV.lit (Value.bool !decide (y>=(0:Int)))) [Dn.Obj.map 9 4 a.2.2])):=by kernel_rfl
def Jh(a:List AV×List (Value×AV)):Out (AV×List Dn.Obj):= .one (.bool (gk a.2 a.1),[.map 9 4 a.2])
theorem c30(κ:Kp):bG (Lc κ) 12 154 (a0 MC bj Jh):=by
 refine bc ?_
 rintro⟨l,es⟩ K h1 ho
 refine Eq.mpr (y30 κ l es K) ?_
 refine⟨rfl,(l,0,es),rfl,⟨h1,by simp only;omega,by simp only;omega⟩,?_⟩
 simp only[Jh,Out.run] at ho
 simp only[ab7,ab0]
 rw[ae]
 refine⟨fun e=>by rw[e] at ho;exact ho,fun e j hj=>?_⟩
 rw[e] at ho
 rw[aa6 (show j>=0 from hj)]
 exact ho
noncomputable def Mx(κ:Kp):Env:=(Lc κ).az 154 (a0 MC bj Jh)
theorem Zm(κ:Kp):aE (Mx κ):=(U0 κ).az (Tw κ) (c30 κ)
theorem Yn(κ:Kp):aj (Mx κ):=(Tw κ).az aZ
theorem x62(κ:Kp)(l:List AV)(i:Int)(vs:List ByteArray)(I:Nat->S->Prop)(n:Nat)(K:Exit->S->Prop):(vc (Mx κ) 12 200 none 0 (ag (Pr κ).toProgram 200 3) (sp 23 [(3, .aB 0 0 vs.length),(7, .ad 38 l),(8, .int l.length),(9, .int i)] [.row 9 (strs vs)]) (bB (Mx κ) 200 3 0 I n K))=(
 letI z1:=nth l i.toNat
 letI z2:=IntKind.wrap IntKind.i64 (i+(1:Int))
 letI z3:=i<(↑(l.length):Int)
 aw (decide z3) (aP (decide ((0:Int)<=i)&&decide z3) (aw (decide (toInt (af z1 0)>=(5:Int))) (∃(e1:List AV),([AV.ad 38 [AV.agg [AV.int (toInt (af z1
 0)),AV.str (toStr (af z1 1)),AV.int (toInt (af z1 2)),AV.ad 38 (ah (af z1 3))]]],aJ)=([AV.ad 38 e1],aJ)/\bw e1/\aP (decide ((vs.length+List.length
 (List.take (List.length (aq (aa e1))) (List.drop 0 (strs (aq (aa e1)))))+1)*17<=70368744177664)) (∃(e0:Nat),e0<n/\I e0 (sp 23 [(3,AV.aB 0 0
 (vs.length+List.length (List.take (List.length (aq (aa e1))) (List.drop 0 (strs (aq (aa e1))))))),(7,AV.ad 38 l),(8,AV.int (↑(l.length):Int)),(9,
 AV.int z2)] [Obj.row 9 (List.take vs.length (strs vs)++List.take (List.length (aq (aa e1))) (List.drop 0 (strs (aq (aa e1)))))]))) (∃(e0:Nat),e0<n/\I
 e0 (sp 23 [(3,AV.aB 0 0 vs.length),(7,AV.ad 38 l),(8,AV.int (↑(l.length):Int)),(9,AV.int z2)] [Obj.row 9 (strs vs)])))) (K (Exit.exit 0) (sp 23 [(3,
 AV.aB 0 0 vs.length)] [Obj.row 9 (strs vs)]))):=by kernel_rfl
abbrev Je(a:List AV×Int×List ByteArray):S:=sp 23 [(3, .aB 0 0 a.2.2.length),(7, .ad 38 a.1),(8, .int a.1.length),(9, .int a.2.1)] [.row 9 (strs a.2.2)]
def E6(a:List AV×Int×List ByteArray):Prop:=a.1.length<=aL/\0<=a.2.1/\a.2.1<=a.1.length/\a.2.2.length+aI (aa (a.1.drop a.2.1.toNat))<=100000
def uW(a:List AV×Int×List ByteArray):Out (Exit×S):= .one (.exit 0,sp 23 [(3, .aB 0 0 (a.2.2++dD (aa (a.1.drop a.2.1.toNat))).length)] [.row 9 (strs (a.2.2++dD (aa (a.1.drop a.2.1.toNat))))])
theorem ZI(κ:Kp):bf (Mx κ) 12 200 3 (aR 0 Je E6 uW):=by
 refine aG (fun a=>a.1.length - a.2.1.toNat) ?_
 rintro⟨l,i,vs⟩ K ⟨h1,h2,h3,h5⟩ ho
 simp only at h1 h2 h3 h5
 rw[show(Mx κ).P=Pr κ from rfl]
 refine Eq.mpr (x62 κ l i vs _ _ K) ?_
 simp only[ab0,cX]
 simp only[aL] at h1
 simp only[ae,ai,aa0,aa2,aa1]
 refine⟨fun hi=>⟨⟨h2,hi⟩,?_⟩,fun hi=>?_⟩
 ·have hv:=Kn l i.toNat (by omega)
  have hc:aI (aa (l.drop i.toNat))=aI [cI (nth l i.toNat)]+aI (aa (l.drop (i.toNat+1))):=by
   rw[dR l i.toNat (by omega)];simp only[aI,Nat.add_zero]
  have hle:=cy [cI (nth l i.toNat)]
  have ht:aa [.agg [.int (toInt (af (nth l i.toNat) 0)), .lit (.string (toStr (af (nth l i.toNat) 1))), .int (toInt (af (nth l i.toNat) 2)), .ad 38 (ah (af (nth l i.toNat) 3))]]=[cI (nth l i.toNat)]:=by
   simp only[aa,ac0,List.map_nil]
   rw[np,←cP]
  rw[aC (n:=i+1) (by omega) (by omega)]
  refine⟨fun e1=>⟨_,rfl,?_,?_,_,?_,(l,i+1,vs++aq [cI (nth l i.toNat)]),?_,⟨by simpa[aL] using h1,by simp only;omega,by simp only;omega,?_⟩,rfl,?_⟩,fun e1=>⟨_,?_,(l,i+1,vs),rfl,⟨by simpa[aL] using h1,by simp only;omega,by simp only;omega,?_⟩,rfl,?_⟩⟩
  ·simp only[bw,ht];omega
  ·rw[ht,aO];omega
  ·simp only;omega
  ·rw[ht];simp only[Je,gN,aO,ab8]
  ·simp only[show(i+1).toNat=i.toNat+1 by omega,ab8];omega
  ·simp only[uW,Out.run,show(i+1).toNat=i.toNat+1 by omega] at ho⊢
   rw[hv,aa6 (show 5<=toInt (af (nth l i.toNat) 0) from e1)] at ho
   simpa[List.append_assoc] using ho
  ·simp only;omega
  ·simp only[show(i+1).toNat=i.toNat+1 by omega];omega
  ·simp only[uW,Out.run,show(i+1).toNat=i.toNat+1 by omega] at ho⊢
   rw[hv,aa4 (show ¬ 5<=toInt (af (nth l i.toNat) 0) from e1)] at ho
   simpa[List.append_assoc] using ho
 ·simp only[uW,Out.run] at ho
  rw[aa8 (by omega)] at ho
  simpa[aa,dD] using ho
noncomputable def Jb(κ:Kp):Env:=(Mx κ).ar 200 3 (aR 0 Je E6 uW)
theorem Xo(κ:Kp):aE (Jb κ):=(Zm κ).ar (Yn κ) (ZI κ)
theorem QM(κ:Kp):aj (Jb κ):=(Yn κ).ar aW
theorem y62(κ:Kp)(s:ByteArray)(l:List AV)(K:AV->List Dn.Obj->Prop):(ba (Jb κ) 12 200 [.agg [.lit (.string s), .ad 38 l]] [] K)=(
 ag (Pg.toProgram (Env.P (Mx κ))) 200 3=ag (Pg.toProgram (Env.P (Mx κ))) 200 3/\∃(a:List AV×Int×List ByteArray),sp 23 [(3,AV.aB 0 0 0),
 (7,AV.ad 38 l),(8,AV.int (↑(l.length):Int)),(9,AV.int 0)] [Obj.row 9 []]=sp 23 [(3,AV.aB 0 0 (List.length a.2.2)),(7,AV.ad 38 a.1),(8,AV.int
 (↑(a.1.length):Int)),(9,AV.int a.2.1)] [Obj.row 9 (strs a.2.2)]/\(a.1.length<=9223372036854775807/\(0:Int)<=a.2.1/\a.2.1<=(↑(a.1.length):Int)/\
 List.length a.2.2+aI (aa (List.drop a.2.1.toNat a.1))<=100000)/\K (AV.aB 0 0 (List.length (a.2.2++dD (aa (List.drop a.2.1.toNat a.1)))))
 [Obj.row 9 (strs (a.2.2++dD (aa (List.drop a.2.1.toNat a.1))))]):=by kernel_rfl
def TF(a:ByteArray×List AV):List AV×List Dn.Obj:=([.agg [.lit (.string a.1), .ad 38 a.2]],[])
def jC(a:ByteArray×List AV):Prop:=aI (aa a.2)<=100000
def NS(a:ByteArray×List AV):Out (AV×List Dn.Obj):= .one (.aB 0 0 (dD (aa a.2)).length,[.row 9 (strs (dD (aa a.2)))])
theorem c62(κ:Kp):bG (Jb κ) 12 200 (a0 TF jC NS):=by
 refine bc ?_
 rintro⟨s,l⟩ K h1 ho
 simp only[jC] at h1
 refine Eq.mpr (y62 κ s l K) ?_
 have:=ee (aa l)
 rw[du] at this
 refine⟨rfl,(l,0,[]),rfl,⟨by simp only;omega,by simp only;omega,by simp only;omega,?_⟩,?_⟩
 ·simp only[ab7,ab0,List.length_nil];omega
 ·simp only[ab7,ab0,List.nil_append]
  exact ho
noncomputable def TG(κ:Kp):Env:=(Jb κ).az 200 (a0 TF jC NS)
theorem e62(κ:Kp):aE (TG κ):=(Xo κ).az (QM κ) (c62 κ)
theorem Yf(κ:Kp):aj (TG κ):=(QM κ).az aZ
structure LA where
 op:Int
 s:ByteArray
 l:List AV
 o1:Int
 s1:ByteArray
 n1:Int
 l1:List AV
 o2:Int
 s2:ByteArray
 n2:Int
 l2:List AV
abbrev LA.av(a:LA):AV:= .agg [.int a.op, .agg [.lit (.string a.s), .ad 38 a.l], .agg [.int a.o1, .lit (.string a.s1), .int a.n1, .ad 38 a.l1], .agg [.int a.o2, .lit (.string a.s2), .int a.n2, .ad 38 a.l2]]
theorem y21(κ:Kp)(a:LA)(K:AV->List Dn.Obj->Prop):(ba (TG κ) 12 137 [a.av] [] K)=(
 K (AV.bool (decide (a.op>=(7:Int)))) []):=by kernel_rfl
def Vn:List AV->Option (Bool×AV)
 |[.agg [.lit (.int .i64 op), .agg [.lit (.string _), .ad 38 _], .agg [.lit (.int .i64 _), .lit (.string _), .lit (.int .i64 _), .ad 38 _], .agg [.lit (.int .i64 _), .lit (.string _), .lit (.int .i64 _), .ad 38 _]]]=>some (true, .bool (decide (7<=op)))
 |_=>none
theorem p21(κ:Kp):cj (TG κ) 12 137 Vn:=by
 intro args x hh
 unfold Vn at hh
 split at hh
 ·rename_i op s l o1 s1 n1 l1 o2 s2 n2 l2
  simp only[aa3,aa9,true_and] at hh
  subst hh
  exact⟨_,rfl,rfl,Eq.mpr (y21 κ ⟨op,s,l,o1,s1,n1,l1,o2,s2,n2,l2⟩ _) rfl⟩
 ·cases hh
noncomputable def QL(κ:Kp):Env:=(TG κ).aK 137 Vn
theorem e21(κ:Kp):aE (QL κ):=(e62 κ).aK (Yf κ) (p21 κ)
theorem YU(κ:Kp):aj (QL κ):=(Yf κ).aK
theorem ZR(κ:Kp)(a:LA)(K:AV->List Dn.Obj->Prop):(ba (QL κ) 12 160 [a.av] [] K)=(
 letI z1:=∃(e1:List AV),([AV.ad 38 [AV.agg [AV.int a.o1,AV.str a.s1,AV.int a.n1,AV.ad 38 a.l1],AV.agg [AV.int a.o2,AV.str a.s2,AV.int a.n2,AV.ad 38
  a.l2]]],aJ)=([AV.ad 38 e1],aJ)/\bw e1/\∃(e0:List AV),([AV.ad 38 a.l],aJ)=([AV.ad 38 e0],aJ)/\bw e0/\aP (decide ((List.length (aq (aa e1))+
  List.length (List.take (List.length (aq (aa e0))) (List.drop 0 (strs (aq (aa e0)))))+1)*17<=70368744177664)) (K (AV.aB 0 0 (List.length (aq (aa e1))+
  List.length (List.take (List.length (aq (aa e0))) (List.drop 0 (strs (aq (aa e0))))))) [Obj.row 9 (List.take (List.length (aq (aa e1))) (strs (aq (aa e1)))++
  List.take (List.length (aq (aa e0))) (List.drop 0 (strs (aq (aa e0)))))])
 (z1/\z1/\z1/\z1)/\(z1/\z1/\z1)/\(z1/\z1)/\z1):=by kernel_rfl
def LA.lt(a:LA):Lt:=⟨a.op,⟨a.s,aa a.l⟩, .mk a.o1 a.s1 a.n1 (aa a.l1), .mk a.o2 a.s2 a.n2 (aa a.l2)⟩
def RZ(a:LA):List AV×List Dn.Obj:=([a.av],[])
def fU(a:LA):Prop:=iH a.lt<=100000
def IK(a:LA):Out (AV×List Dn.Obj):= .one (.aB 0 0 (ei a.lt).length,[.row 9 (strs (ei a.lt))])
theorem c40(κ:Kp):bG (QL κ) 12 160 (a0 RZ fU IK):=by
 refine bc ?_
 rintro a K h1 ho
 refine Eq.mpr (ZR κ a K) ?_
 simp only[and_self]
 simp only[fU,iH,LA.lt] at h1
 have ht:aa [.agg [.int a.o1, .lit (.string a.s1), .int a.n1, .ad 38 a.l1], .agg [.int a.o2, .lit (.string a.s2), .int a.n2, .ad 38 a.l2]]=[.mk a.o1 a.s1 a.n1 (aa a.l1), .mk a.o2 a.s2 a.n2 (aa a.l2)]:=by
  simp only[aa,ac0,List.map_nil]
  rw[np,np];rfl
 have e1:=cy (aa a.l)
 have e2:=cy [.mk a.o1 a.s1 a.n1 (aa a.l1), .mk a.o2 a.s2 a.n2 (aa a.l2)]
 refine⟨_,rfl,?_,_,rfl,?_,?_⟩
 ·simp only[bw,ht];omega
 ·simp only[bw];omega
 ·simp only[ab0,cX,ht,aO]
  rw[ai,aa0]
  refine⟨by omega,?_⟩
  simp only[IK,Out.run,ei,LA.lt,gN,ab8] at ho
  exact ho
noncomputable def Sa(κ:Kp):Env:=(QL κ).az 160 (a0 RZ fU IK)
theorem e40(κ:Kp):aE (Sa κ):=(e21 κ).az (YU κ) (c40 κ)
theorem Yj(κ:Kp):aj (Sa κ):=(YU κ).az aZ
structure TA where
 o1:Int
 s1:ByteArray
 n1:Int
 l1:List AV
 o2:Int
 s2:ByteArray
 n2:Int
 l2:List AV
 es:List (Value×AV)
theorem ZE(κ:Kp)(a:TA)(K:AV->List Dn.Obj->Prop):(ba (Sa κ) 12 136 [.mp 0, .agg [.int a.o1, .lit (.string a.s1), .int a.n1, .ad 38 a.l1], .agg [.int a.o2, .lit (.string a.s2), .int a.n2, .ad 38 a.l2]] [.map 9 4 a.es] K)=(
 letI z1:=K (AV.bool false) [Dn.Obj.map 9 4 a.es]
 aw (a.o1==(1:Int)) (aw (!Dn.toBool (dO a.es (Value.string a.s1) (AV.bool false))) (∃(e1:List AV),([AV.ad 38 [AV.agg [AV.int a.o2,AV.str a.s2,AV.int
 a.n2,AV.ad 38 a.l2]]],aJ)=([AV.ad 38 e1],aJ)/\bw e1/\∃(e0:List AV×List (Value×AV)),([AV.mp 0,AV.ad 9 (List.take (List.length (aq (aa e1)))
 (List.drop 0 (strs (aq (aa e1)))))],[Dn.Obj.map 9 4 a.es])=([AV.mp 0,AV.ad 9 e0.1],[Dn.Obj.map 9 4 e0.2])/\bj e0/\K (AV.bool (gk e0.2 e0.1)) [Dn.Obj.map
 9 4 e0.2]) z1) z1):=by kernel_rfl
def TA.x(a:TA):Tm:= .mk a.o1 a.s1 a.n1 (aa a.l1)
def TA.y(a:TA):Tm:= .mk a.o2 a.s2 a.n2 (aa a.l2)
def R6(a:TA):List AV×List Dn.Obj:=([.mp 0, .agg [.int a.o1, .lit (.string a.s1), .int a.n1, .ad 38 a.l1], .agg [.int a.o2, .lit (.string a.s2), .int a.n2, .ad 38 a.l2]],[.map 9 4 a.es])
def iF(a:TA):Prop:=aI [a.y]<=100000
def NG(a:TA):Out (AV×List Dn.Obj):= .one (.bool (lj a.es a.x a.y),[.map 9 4 a.es])
theorem c20(κ:Kp):bG (Sa κ) 12 136 (a0 R6 iF NG):=by
 refine bc ?_
 rintro a K h1 ho
 refine Eq.mpr (ZE κ a K) ?_
 have ht:aa [.agg [.int a.o2, .lit (.string a.s2), .int a.n2, .ad 38 a.l2]]=[a.y]:=by
  simp only[aa,ac0,List.map_nil]
  rw[np];rfl
 have hle:=cy [a.y]
 have ho':K (.bool (decide (a.o1=1)&&(!kD a.es a.s1&&gk a.es (strs (aq [a.y]))))) [.map 9 4 a.es]:=ho
 simp only[iF] at h1
 simp only[ae,beq_iff_eq,beq_eq_false_iff_ne,Bool.not_eq_true',ab2]
 refine⟨fun e1=>⟨fun e2=>?_,fun e2=>?_⟩,fun e1=>?_⟩
 ·have e2':kD a.es a.s1=false:=e2
  rw[aa6 e1,e2'] at ho'
  refine⟨_,rfl,by simp only[bw,ht];exact h1,(strs (aq [a.y]),a.es),?_,?_,ho'⟩
  ·simp only[ab0,cX,ht]
  ·simp only[bj,aO,aL];omega
 ·have e2':kD a.es a.s1=true:=e2
  rw[aa6 e1,e2'] at ho'
  exact ho'
 ·rw[aa4 e1] at ho'
  exact ho'
noncomputable def Uk(κ:Kp):Env:=(Sa κ).az 136 (a0 R6 iF NG)
theorem UH(κ:Kp):aE (Uk κ):=(e40 κ).az (Yj κ) (c20 κ)
theorem Za(κ:Kp):aj (Uk κ):=(Yj κ).az aZ
end Go.Proofs.YtioeffnadipbaaaGreatDoor
