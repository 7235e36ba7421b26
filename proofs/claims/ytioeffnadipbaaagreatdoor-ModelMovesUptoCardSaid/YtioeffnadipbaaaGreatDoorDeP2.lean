import Derived.Test.YtioeffnadipbaaaGreatDoorDeP1
import Derived.Test.YtioeffnadipbaaaGreatDoorProg
import Derived.Test.YtioeffnadipbaaaGreatDoorChecked
import Derived.WalkKit
import Derived.LaidEql
import Derived.Stop.Asserts
import Derived.RowKitTokens
namespace Go.Proofs.YtioeffnadipbaaaGreatDoor
open Go Go.Dn Go.Rl Go.Proofs
attribute [local irreducible] a9 vc
set_option maxRecDepth 20000
def Z4:=[
 (3,[(17,[(1,none),(2,none),(5,none),(6,none),(8,none),(10,none),(11,none),(12,none)]),(18004,[(1,none),(2,none),(5,none),(6,none),(8,none)]),(18001,[(4,none)]),(8,[(1,none),(2,none),(5,none),(6,none),(8,none)]),(9002,[(1,none),(2,none),(5,none),(6,none)]),(9001,[(4,none)])]),
 (6,[(10,[(2,none),(7,none),(8,none),(10,none),(11,none),(12,none),(13,none)]),(11002,[(2,none),(7,none),(8,none),(10,none),(11,none),(12,none)])]),
 (7,[(13,[(7,none),(9,none),(11,none),(13,none)]),(14002,[(7,none)]),(14001,[(6,none)])]),
 (8,[(17,[(2,none),(5,none),(6,none),(13,none)]),(18004,[(5,none)]),(18001,[(4,none)]),(11,[(1,none),(2,none),(5,none),(6,none),(10,none)]),(12002,[(2,none),(5,none),(6,none)]),(12001,[(4,none)])]),
 (10,[(6,[(1,none),(2,none),(3,none),(7,none),(8,none),(9,none)]),(7002,[(1,none),(2,none),(3,none),(7,none),(8,none)])]),
 (12,[(22,[(1,none),(8,none),(9,none),(10,none)]),(23008,[(1,none),(8,none),(9,none)]),(23001,[(4,none)]),(16,[(1,none),(8,none),(9,none)]),(17006,[]),(17001,[(4,none)]),(8,[(1,none),(2,none),(5,none),(6,none),(7,none)]),(9004,[(1,none),(2,none),(5,none),(6,none)]),(4,[(1,none),(2,none),(5,none)]),(5002,[(1,none)]),(5001,[(4,none)])]),
 (16,[(9,[(0,none),(1,none),(5,none),(6,none)]),(10004,[(0,none),(1,none),(5,none)]),(10001,[(4,none)]),(4,[(0,none),(1,none),(5,none)]),(5002,[]),(5001,[(4,none)])]),
 (18,[(15,[(7,none),(10,none),(11,none),(13,none),(49,none),(50,none),(51,none)]),(16004,[(7,none),(10,none),(11,none),(13,none)]),(11,[(7,none),(10,some 35),(11,none),(12,none)]),(12002,[(10,none)])]),
 (19,[(17,[(2,none),(3,none),(11,none),(15,none),(50,none),(51,none),(52,none)]),(18007,[(2,none),(3,none),(11,none),(50,none),(51,none),(52,none)]),(15,[(2,none),(3,none),(11,none),(50,none),(51,none),(52,none)]),(16005,[(2,none),(11,none)]),(10,[(2,none),(3,none),(8,none),(11,some 51),(38,none),(39,none),(40,none)]),(11003,[(2,none),(3,none),(8,none),(11,none)])]),
 (20,[(4,[(0,none),(1,none),(5,none)]),(5002,[]),(5001,[(4,none)])]),
 (21,[(5,[(1,none),(3,none),(4,none)]),(6004,[(1,none),(3,none)]),(6001,[(2,none)]),(2,[(1,none),(3,none)]),(3002,[]),(3001,[(2,none)])]),
 (23,[(4,[(2,none),(18,none),(19,none),(20,none)]),(5002,[]),(5001,[(4,none)])]),
 (25,[(2,[(0,none),(1,none),(6,none)]),(3002,[]),(3001,[(4,none),(5,none)])]),
 (26,[(10,[(1,none),(2,none),(6,none),(7,none)]),(11004,[(1,none),(2,none),(6,none)]),(11001,[(4,none)]),(5,[(1,none),(2,none),(6,none)]),(6002,[]),(6001,[(4,none)])]),
 (29,[(8,[(1,none),(3,none),(5,none)]),(9004,[(1,none),(3,none)]),(3,[(1,none),(3,none),(4,none)]),(4002,[(1,none),(3,none)]),(4001,[(2,none)])]),
 (30,[(2,[(0,none),(3,none)]),(3002,[]),(3001,[(2,none)])]),
 (31,[(5,[(20,none),(21,none),(22,none)]),(6002,[]),(6001,[(2,none),(3,none)])]),
 (32,[(5,[(2,none),(3,none),(4,none),(7,none),(35,none),(36,none),(37,none)]),(6002,[(4,none),(7,none)])]),
 (35,[(4,[(2,none),(3,none),(6,some 72),(26,none),(27,none),(28,none)]),(5002,[(3,none),(6,none)])]),
 (37,[(2,[(0,none),(3,none)]),(3002,[]),(3001,[(2,none)])]),
 (42,[(8,[(3,none),(45,none),(46,none)]),(9004,[(3,none)])]),
 (43,[(2,[(0,none),(3,none),(11,none),(12,none),(13,none)]),(3002,[]),(3001,[(4,none),(5,none)])]),
 (44,[(6,[(0,none),(1,none),(5,none),(11,none),(12,none),(25,none)]),(7004,[(5,none)]),(7003,[(0,none),(1,none),(11,none),(12,none)]),(2,[(0,none),(1,none),(11,none),(12,none)]),(3002,[]),(3001,[(4,none)])]),
 (45,[(3,[(0,none),(1,none),(5,some 3),(11,none),(12,none)]),(4002,[(5,none)])]),
 (46,[(3,[(1,none),(2,none),(3,none),(4,none),(9,none),(16,none),(17,none),(18,none)]),(4002,[(9,none)]),(4001,[(8,none)])]),
 (47,[(3,[(3,none),(6,none),(7,none),(8,none)]),(4002,[(3,none)])]),
 (49,[(7,[(1,none),(2,none),(9,none),(10,none),(11,none),(21,none),(22,none),(23,none)]),(8004,[(1,none),(2,none),(9,none),(10,none),(11,none)]),(8001,[(4,none)]),(2,[(1,none),(2,none),(9,none),(10,none),(11,none)]),(3002,[(1,none)]),(3001,[(4,none)])]),
 (51,[(2,[(0,none),(3,none)]),(3002,[]),(3001,[(2,none)])]),
 (53,[(3,[(0,none),(1,none),(2,none),(8,none),(9,none),(10,none)]),(4002,[(0,none),(1,none),(2,none),(8,none),(9,none)])]),
 (55,[(3,[(3,some 70),(6,none),(7,none),(8,none)]),(4002,[(3,none)])]),
 (59,[(2,[(0,none),(3,none)]),(3002,[]),(3001,[(2,none)])]),
 (60,[(3,[(1,none),(2,none),(5,none)]),(4002,[(1,none)])]),
 (61,[(11,[(1,none),(38,none),(39,none),(40,none)]),(12004,[]),(12001,[(2,none),(3,none)]),(4,[(1,none),(16,none),(17,none),(18,none)]),(5002,[(1,none)]),(5001,[(2,none),(3,none)])]),
 (64,[(3,[(3,some 38),(6,none),(7,none),(8,none)]),(4002,[(3,none)])]),
 (65,[(8,[(2,none),(8,none),(32,none),(33,none),(34,none)]),(9003,[(2,none),(8,none)])]),
 (69,[(4,[(1,none),(2,none),(15,none),(16,none),(17,none)]),(5002,[]),(5001,[(6,none)])]),
 (71,[(4,[(1,none),(2,none),(15,none),(16,none),(17,none)]),(5002,[]),(5001,[(6,none)])]),
 (80,[(9,[(0,none),(1,none),(5,none),(6,none),(7,none)]),(10004,[(0,none),(5,none)]),(4,[(0,none),(1,none),(5,none)]),(5002,[(0,none)]),(5001,[(4,none)])]),
 (82,[(0,[(0,none),(1,none),(2,none)]),(1002,[]),(1001,[])]),
 (86,[(3,[(0,none),(5,none),(6,some 3)]),(4002,[(5,none)])]),
 (94,[(4,[(1,none),(31,none),(32,none),(33,none)]),(5002,[]),(5001,[(2,none)])]),
 (98,[(4,[(2,none),(3,none),(6,some 72),(26,none),(27,none),(28,none)]),(5002,[(3,none),(6,none)])]),
 (99,[(2,[(0,none),(1,none),(5,none)]),(3002,[(0,none),(1,none)]),(3001,[(4,none)])]),
 (100,[(2,[(0,none),(1,none),(2,none),(11,none),(12,none),(13,none)]),(3002,[(0,none),(1,none)]),(3001,[(6,none)])]),
 (104,[(4,[(1,none),(2,none),(5,none)]),(5002,[(1,none)])]),
 (105,[(5,[(1,none),(2,none),(5,none)]),(6002,[(1,none)])]),
 (106,[(11,[(6,none),(8,some 3),(36,none),(37,none),(38,none)]),(12004,[(8,none)]),(12001,[(4,none),(5,none)]),(4,[(3,none),(6,none)]),(5002,[(3,none),(6,none)]),(5001,[(4,none),(5,none)])]),
 (109,[(2,[(0,none),(1,none),(7,none),(8,none)]),(3002,[]),(3001,[(4,none)])]),
 (112,[(1,[(0,none),(6,none),(7,none),(8,none)]),(2002,[])]),
 (114,[(5,[(0,none),(1,none),(5,none),(6,none)]),(6002,[(0,none),(5,none)])]),
 (119,[(2,[(0,none),(1,none),(7,none),(8,none)]),(3002,[]),(3001,[(4,none)])]),
 (120,[(4,[(0,none),(1,none),(12,none),(13,none)]),(5002,[]),(5001,[(4,none)])]),
 (121,[(4,[(0,none),(1,none),(12,none),(13,none)]),(5002,[]),(5001,[(4,none)])]),
 (122,[(17,[(0,none),(3,none),(5,none),(10,none),(11,none),(44,none),(45,none),(46,none),(72,none),(73,none),(74,none)]),(18008,[(0,none),(3,none),(5,none),(11,none),(44,none),(45,none),(46,none)]),(18005,[(0,none),(3,none),(5,none),(44,none),(45,none),(46,none)]),(12,[(0,none),(3,none),(5,none),(10,none),(11,none),(44,none),(45,none),(46,none),(52,none),(53,none),(54,none)]),(13006,[(0,none),(3,none),(5,none),(10,none),(11,none),(44,none),(45,none),(46,none)]),(8,[(0,none),(3,none),(5,none),(44,none),(45,none),(46,none)]),(9004,[]),(9001,[]),(3,[(0,none),(1,none),(2,none),(3,none),(5,none),(6,some 72),(25,none),(26,none),(27,none)]),(4002,[(0,none),(1,none),(2,none),(3,none),(5,none),(6,none)])]),
 (123,[(7,[(1,none),(2,none),(7,none),(8,none),(10,none),(18,none),(19,none),(20,none),(26,none),(27,none),(28,none)]),(8004,[(1,none),(2,none),(7,none),(8,none),(10,none),(18,none),(19,none),(20,none)]),(8003,[(1,none),(2,none),(7,none),(8,none),(18,none),(19,none),(20,none)]),(4,[(1,none),(2,none),(7,none),(8,some 70),(18,none),(19,none),(20,none)]),(5002,[(8,none)])]),
 (126,[(5,[(0,none),(3,none),(4,none)]),(6002,[(3,none)])]),
 (127,[(5,[(0,none),(3,none),(4,none)]),(6002,[(3,none)])]),
 (128,[(9,[(0,none),(1,none),(2,none),(6,none),(7,none),(8,none)]),(10006,[(0,none),(1,none),(2,none),(6,none),(7,none)]),(7,[(0,none),(1,none),(2,none),(6,none)]),(8004,[]),(2,[(0,none),(1,none),(2,none),(6,none),(7,none),(8,none)]),(3002,[(0,none),(1,none),(2,none),(6,none),(7,none)])]),
 (129,[(5,[(0,none),(1,none),(5,none),(12,none),(13,none),(14,none),(28,none),(29,none),(30,none)]),(6004,[(0,none),(1,none),(12,none),(13,none),(14,none)]),(6001,[]),(1,[(0,none),(1,none),(12,none),(13,none),(14,none)]),(2002,[]),(2001,[])]),
 (131,[(2,[(0,none),(1,none),(7,none),(8,none)]),(3002,[]),(3001,[(4,none)])]),
 (138,[(4,[(18,none)]),(5002,[]),(5001,[(2,none)])]),
 (147,[(13,[(11,none),(45,none),(46,none),(47,none)]),(14005,[(11,none)])]),
 (152,[(3,[(0,none),(5,none),(14,none),(15,none),(16,none)]),(4002,[(5,none)]),(4001,[(4,none)])]),
 (155,[(3,[(3,some 9),(6,none),(7,none),(8,none)]),(4002,[(3,none)])]),
 (156,[(12,[(6,none),(26,none),(27,none),(28,none)]),(13004,[(6,none)]),(3,[(0,none),(3,none),(9,none),(10,none),(11,none)]),(4002,[(0,none),(3,none)])]),
 (158,[(17,[(1,none),(2,none),(43,none),(44,none),(45,none)]),(18005,[]),(18001,[(6,none)]),(1,[(0,none),(1,none),(2,none)]),(2001,[(6,none)])]),
 (159,[(4,[(1,none),(2,none),(5,none),(17,none),(18,none),(19,none)]),(5002,[(1,none),(2,none),(5,none)])]),
 (161,[(2,[(0,none),(1,none),(7,none),(8,none)]),(3002,[]),(3001,[(4,none)])]),
 (166,[(4,[(0,none),(1,none),(2,none),(3,none),(8,none),(9,none)]),(5004,[(0,none),(1,none),(2,none),(3,none),(8,none)]),(1,[(0,none),(1,none),(2,none),(3,none),(8,none)]),(2002,[])]),
 (167,[(33,[(0,none),(1,none),(2,none),(3,none),(4,none),(18,none),(19,none),(20,none),(21,none),(22,none)]),(34010,[(0,none),(1,none),(2,none),(3,none),(4,none),(18,none),(19,none),(20,none)]),(21,[(0,none),(14,none),(17,none)]),(22008,[]),(15,[(0,none),(2,none),(4,none),(14,none),(15,none)]),(16006,[(0,none),(2,none),(14,none)]),(9,[(0,none),(10,none),(13,none)]),(10004,[]),(3,[(0,none),(1,none),(4,none),(10,none),(11,none)]),(4002,[(0,none),(1,none),(10,none)])]),
 (168,[(2,[(0,none),(1,none),(7,none),(8,none)]),(3002,[]),(3001,[(4,none)])]),
 (169,[(3,[(0,none),(1,none),(3,none),(4,none),(13,none),(14,none)]),(4002,[]),(4001,[])]),
 (170,[(3,[(1,none),(2,none),(3,none),(7,none),(11,none),(12,none),(13,none)]),(4002,[(7,none)]),(4001,[(6,none)])]),
 (171,[(7,[(0,none),(57,none),(58,none),(59,none)]),(8004,[]),(8001,[]),(2,[(0,none),(1,none),(25,none),(26,none),(27,none)]),(3002,[(0,none),(1,none)]),(3001,[])]),
 (172,[(4,[(24,none),(25,none),(26,none)]),(5002,[]),(5001,[(2,none)])]),
 (176,[(5,[(0,none),(2,none),(3,none),(6,none),(7,none),(10,none),(11,none),(12,none),(18,none),(19,none),(20,none)]),(6004,[(0,none),(2,none),(3,none),(7,none),(10,none),(11,none),(12,none)]),(6003,[(0,none),(2,none),(3,none),(10,none),(11,none),(12,none)]),(1,[(0,none),(2,none),(3,none),(10,none),(11,none),(12,none)]),(2002,[]),(2001,[])]),
 (178,[(2,[(0,none),(1,none),(5,none)]),(3002,[(0,none),(1,none)]),(3001,[(4,none)])]),
 (179,[(1,[(0,none),(2,none),(3,none)]),(2002,[])]),
 (180,[(7,[(0,none),(5,none),(40,none),(41,none),(42,none)]),(8003,[]),(8001,[(4,none)])]),
 (185,[(8,[(2,none),(32,none),(33,none),(34,none)]),(9004,[]),(9001,[]),(3,[(2,none),(3,some 38),(14,none),(15,none),(16,none)]),(4002,[(2,none),(3,none)])]),
 (188,[(1,[(0,none),(6,none),(7,none),(8,none)]),(2002,[]),(2001,[])]),
 (189,[(2,[(0,none),(1,none),(7,none),(8,none)]),(3002,[]),(3001,[(4,none)])]),
 (190,[(2,[(0,none),(2,none),(4,none),(10,none),(11,none)]),(3002,[(0,none),(2,none),(4,none),(10,none)])]),
 (192,[(10,[(1,none),(49,none),(50,none),(51,none)]),(11003,[]),(11001,[(4,none)])]),
 (193,[(2,[(5,none),(6,none),(7,none)]),(3002,[]),(3001,[(2,none)])]),
 (196,[(2,[(0,none),(2,none),(4,none),(12,none),(13,none),(14,none)]),(3002,[(0,none),(2,none),(4,none)]),(3001,[(6,none)])]),
 (198,[(3,[(2,none),(11,none),(12,none),(13,none)]),(4002,[]),(4001,[])]),
 (199,[(1,[(0,none),(1,none),(2,none),(3,none),(10,none)]),(2002,[])]),
 (200,[(3,[(3,some 9),(7,none),(8,none),(9,none)]),(4002,[(3,none)])])
 ]
def lk2(k:Nat):List (Nat×List (Nat×Option Nat))->List (Nat×Option Nat)
 |[]=>[]
 |(j,l)::r=>bif Nat.beq j k then l else lk2 k r
def lk1(f k:Nat):List (Nat×List (Nat×List (Nat×Option Nat)))->List (Nat×Option Nat)
 |[]=>[]
 |(g,l)::r=>bif Nat.beq g f then lk2 k l else lk1 f k r
def live(f k:Nat):List (Nat×Option TypeId):=lk1 f k Z4
structure Kp where
 tree:Addr
 stuck:Addr
 T1:TypeId
 T2:TypeId
 z1:Nat×Nat
 z2:Nat×Nat
 fI:Addr
 arity:Addr
 type:Addr
 T3:TypeId
 T4:TypeId
 T5:TypeId
 z3:Nat×Nat
 z4:Nat×Nat
 z5:Nat×Nat
 c3:Array Value
 c4:Array Value
 c5:Array Value
 t3:TypeId
 t4:TypeId
 t5:TypeId
 d1:fI≠arity
 d2:fI≠type
 d3:arity≠type
 n3: ∀g,g∈[1,0,3,4,2]->fI.block≠g
 n4: ∀g,g∈[1,0,3,4,2]->arity.block≠g
 n5: ∀g,g∈[1,0,3,4,2]->type.block≠g
def ad1(κ:Kp):Value:= .iface 273 (.pointer (some κ.tree))
def my(κ:Kp):Value:= .iface 273 (.pointer (some κ.stuck))
def zN(κ:Kp)(b:Nat):Option Go.Obj:=
 bif Nat.beq b 1 then some (.cells #[.iface 273 (.pointer (some κ.tree))] κ.T1 κ.z1)
 else bif Nat.beq b 0 then some (.cells #[.iface 273 (.pointer (some κ.stuck))] κ.T2 κ.z2)
 else bif Nat.beq b 3 then some (.cells #[.iface 273 (.pointer (some κ.fI))] κ.T3 κ.z3)
 else bif Nat.beq b 4 then some (.cells #[.iface 273 (.pointer (some κ.arity))] κ.T4 κ.z4)
 else bif Nat.beq b 2 then some (.cells #[.iface 273 (.pointer (some κ.type))] κ.T5 κ.z5)
 else bif Nat.beq b κ.fI.block then some (.cells κ.c3 κ.t3 (0,0))
 else bif Nat.beq b κ.arity.block then some (.cells κ.c4 κ.t4 (0,0))
 else bif Nat.beq b κ.type.block then some (.cells κ.c5 κ.t5 (0,0))
 else none
def aB(κ:Kp)(a:Bool):Value:=bif a then .nilIface else .iface 273 (.pointer (some κ.tree))
theorem nz κ b:aC (aB κ b)=true:=by cases b<;>rfl
theorem qH κ b:bO (aB κ b)=b:=by cases b<;>rfl
theorem oX κ b:bh (aB κ b)=true:=by cases b<;>rfl
noncomputable abbrev Pr(κ:Kp):Pg:={toProgram:=Tryz.prog,kept:=zN κ}
theorem y9:qk Tryz.prog:=R3 (by rfl)
def ae2:=[139,182,161,183,187,162,186,135,184,116,92,109,93,67,119,95,110,133,168,134,84,132,111,163,118,999999,999999]
def ak7:=[114,170,999999,999999,999999,999999,999999]
def UL:=[174,138,201,194,195,173,192,172,175,193,96,164,189,137,999999,999999,999999,29,105,104,60,59,999999,999999,999999,999999,999999,999999,999999,999999,999999,999999,999999,999999,999999,999999,999999,999999,999999,999999,94,48,999999,999999,999999,999999,999999,999999,999999,153,130,90,88,85,131,999999,999999,999999,999999,999999,999999]
def V7:=[155,200,160,115,106,999999]
def Z8:=[86]
noncomputable def E0 κ:=((Env.none (Pr κ) live (fun f=>iV f ae2) (fun f=>iV f ak7) fun f=>iV f UL).jJ fun f=>iV f V7).iY fun f=>iV f Z8
theorem e0 κ:aE (E0 κ):=((aE.none y9).jJ _).iY _
theorem m0 κ:aj (E0 κ):=(aj.none.jJ _).iY _
theorem y48 κ op K:(a9 (E0 κ) 12 174 [.int op] [] K)=(
 ak (op==(5:Int)) (K (AV.bool true) []) (ak (op==(6:Int)) (K (AV.bool true) []) (K (AV.bool (op==(7:Int))) []))):=by kernel_rfl
def g48:List AV->Option (Bool×AV)
 |[.lit (.int .i64 a)]=>some (true, .bool (mA a))
 |_=>none
theorem p48 κ:cg (E0 κ) 12 174 g48:=by
 intro a x h;unfold g48 at h;split at h
 ·simp   at h
  subst h;refine⟨_,rfl,rfl,?_⟩
  grind [y48,mA,ad]
 grind
noncomputable def P7 κ:=(E0 κ).aK 174 g48
theorem e48 κ:aE (P7 κ):=(e0 _).aK (m0 _) (p48 _)
theorem m48 κ:aj (P7 κ):=(m0 _).aK
theorem x57 κ s p I n K:(vc (P7 κ) 12 138 none 0 (ae (Pr κ).toProgram 138 4) (sp 55 [(18, .ptr 0 0 [] 0)] [.dq s p]) (bj (P7 κ) 138 4 0 I n K))=(
 letI b:=∃(e0:Nat),e0<n/\I e0 (sp 55 [(18,AV.ptr 0 0 [] 0)] [Obj.dq s (p+Prod.snd (Utf8.decode s p))])
 letI a:=Prod.fst (Utf8.decode s p)
 letI c:=K Exit.ret (sp 55 [(2,AV.bool false)] [])
 letI d:=ak (!(↑a:Int)==(95:Int)) (ak ((↑p:Int)==(0:Int)) c (ak (decide ((↑a:Int)<(48:Int))) c (ak (decide ((↑a:Int)>(57:Int)))
  c b))) b
 letI e:=ak (decide ((↑a:Int)>=(65:Int))) (ak (decide ((↑a:Int)<=(90:Int))) b d) d
 ak (Nat.blt p (ByteArray.size s)) (ak (decide ((↑a:Int)>=(97:Int))) (ak (decide ((↑a:Int)<=(122:Int))) b e) e) (K (Exit.exit 0) (sp 55 [] []))):=by kernel_rfl
abbrev WO(a:ByteArray×Nat):=sp 55 [(18, .ptr 0 0 [] 0)] [.dq a.1 a.2]
noncomputable def Cl(a:ByteArray×Nat):Out (Exit×S):=
 .ak (nameAt a.1 a.2) (.one (.exit 0,sp 55 [] [])) (.one (.ret,sp 55 [(2, .bool false)] []))
theorem l57 κ:aX (P7 κ) 12 138 4 (aG 0 WO (fun _=>True) Cl):=by
 refine aD (fun a=>a.1.size - a.2) ?_;rintro⟨s,p⟩ K - f;rw[show(P7 κ).P=Pr κ from rfl,x57];simp only[Cl,Out.run,ad] at f;have b: ∀c:Int,c=(Utf8.decode s p).1->p<s.size->(letter c||(!(decide ((p:Int)=0)||decide (c<48)||decide ((57:Int)<c))))=true->
   ∃m,m<s.size - p/\et WO (fun _=>True) Cl (fun a=>a.1.size - a.2) K m (sp 55 [(18, .ptr 0 0 [] 0)] [.dq s (p+(Utf8.decode s p).2)]):=by
  rintro c rfl d g;have:=y2 s p
  refine⟨s.size - (p+(Utf8.decode s p).2),by omega,(s,p+(Utf8.decode s p).2),rfl,trivial,rfl,?_⟩;rw[nameAt,dif_pos d,g,ap5] at f;simpa only[Cl,Out.run,ad] using f
 have e: ∀c:Int,c=(Utf8.decode s p).1->p<s.size->(letter c||(!(decide ((p:Int)=0)||decide (c<48)||decide ((57:Int)<c))))=false->K Exit.ret (sp 55 [(2, .bool false)] []):=by
  rintro c rfl d g;rw[nameAt,dif_pos d,g,Bool.false_and] at f;exact f.2 rfl
 have b:=b _ rfl;have e:=e _ rfl;generalize ((Utf8.decode s p).1:Int)=c at*
 simp only[ad,Nat.blt_eq,an9,ao1,beq_iff_eq,beq_eq_false_iff_ne,Bool.not_eq_true',ap1,bne_iff_ne];refine⟨fun d=>?_,fun d=>f.1 ?_⟩
 ·have b:=b d
  have e:=e d;simp only[letter,ap2,ao0,Bool.not_eq_true',Bool.or_eq_false_iff,Bool.and_eq_false_iff,ap1,an9,ao1] at b e
  simp_all
 ·have d: ¬ p<s.size:=fun h=>by rw[show Nat.blt p s.size=true from by rw[Nat.blt_eq];exact h] at d;cases d
  rw[nameAt,dif_neg d]
noncomputable def LD κ:=(P7 κ).aq 138 4 (aG 0 WO (fun _=>True) Cl)
theorem aj4 κ:aE (LD κ):=(e48 _).aq (m48 _) (l57 _)
theorem aa5 κ:aj (LD κ):=(m48 _).aq aI
theorem y57 κ s K:(a9 (LD κ) 12 138 [.lit (.string s)] [] K)=(
 letI a:=K (AV.bool false) []
 letI b:=Pg.toProgram (Env.P (P7 κ))
 ak (ByteArray.toList s==ByteArray.toList {data:= #[]}) a (ak (ByteArray.toList s==ByteArray.toList {data:= #[OfNat.ofNat 95]}) a (ak (decide ((↑(ByteArray.size s):Int)>(40:Int))) a (ae b 138 4=ae b 138 4/\∃(e0:ByteArray×Nat),sp 55 [(18,AV.ptr 0 0 [] 0)] [Obj.dq s 0]=sp 55 [(18,AV.ptr 0 0 [] 0)] [Obj.dq e0.1 e0.2]/\True/\ak (nameAt e0.1 e0.2) (K (AV.bool true) []) a)))):=by kernel_rfl
def g57:List AV->Option (Bool×AV)
 |[.lit (.string s)]=>some (true, .bool (isName s))
 |_=>none
theorem p57 κ:cg (LD κ) 12 138 g57:=by
 intro c x h;unfold g57 at h;split at h
 ·rename_i s
  simp only[ao2,ao8,true_and] at h;subst h;refine⟨_,rfl,rfl,?_⟩;rw[y57];unfold isName o8;simp only[ad,an9,ao1];refine⟨fun a=>by rw[a];rfl,fun a=>⟨fun b=>by rw[a,b];rfl,fun b=>⟨fun d=>?_,fun d=>⟨trivial,⟨s,0⟩,rfl,trivial,fun e=>?_,fun e=>?_⟩⟩⟩⟩
  ·rw[a,b,ao5 (show(40:Int)<s.size from d)];rfl
  ·simp_all
  grind
 ·cases h
noncomputable def Zm κ:=(LD κ).aK 138 g57
theorem e57 κ:aE (Zm κ):=(aj4 _).aK (aa5 _) (p57 _)
theorem m57 κ:aj (Zm κ):=(aa5 _).aK
theorem y64 κ op s n l K:(a9 (Zm κ) 12 201 [.agg [.int op, .lit (.string s), .int n, .ah 38 l]] [] K)=(
 letI a:=K (AV.bool (n==(0:Int))) []
 letI b:=K (AV.bool false) []
 letI c:=ByteArray.toList s==ByteArray.toList {data:= #[]}
 ak (op==(1:Int)) (ak (isName s) a b) (ak (op==(2:Int)) (K (AV.bool c) []) (ak (op==(3:Int)) a (ak (op==(4:Int)) (ak c a b) (ak (op==(0:Int)) (ak (ByteArray.toList s==ByteArray.toList {data:= #[]}) a b) b))))):=by kernel_rfl
def g64:List AV->Option (Bool×AV)
 |[.agg [.lit (.int .i64 a), .lit (.string s), .lit (.int .i64 n), .ah 38 _]]=>some (true, .bool (bare a s n))
 |_=>none
theorem p64 κ:cg (Zm κ) 12 201 g64:=by
 intro b x h;unfold g64 at h;split at h
 ·rename_i a s n l
  simp only[ao2,ao8,true_and] at h;subst h;refine⟨_,rfl,rfl,?_⟩;rw[y64];have e: ∀k:Int,(a==k)=decide (a=k):=fun k=>by by_cases h:a=k<;>simp[h]
  simp only[e];cases d:isName s<;>cases f:(ByteArray.toList s==ByteArray.toList (ByteArray.mk #[]))<;>
  by_cases g:a=1<;>by_cases i:a=2<;>by_cases j:a=3<;>by_cases m:a=4<;>by_cases c:a=0<;>
  (simp only[ak,bare,o8,d,f,g,i,j,m,c];rfl)
 ·cases h
noncomputable def QV κ:=(Zm κ).aK 201 g64
theorem e64 κ:aE (QV κ):=(e57 _).aK (m57 _) (p64 _)
theorem m64 κ:aj (QV κ):=(m57 _).aK
theorem ac7(l:List AV):((l.length:Int)==0)=decide ((l.length:Int)=0):=rfl
theorem y60 κ op s n l K:(a9 (QV κ) 12 194 [.agg [.int op, .lit (.string s), .int n, .ah 38 l]] [] K)=(
 ak (op==(0:Int)) (ak (bare op s n) (K (AV.bool ((↑(l.length):Int)==(0:Int))) []) (K (AV.bool false) [])) (K (AV.bool false) [])):=by kernel_rfl
theorem y61 κ s l K:(a9 (QV κ) 12 195 [.agg [.lit (.string s), .ah 38 l]] [] K)=(
 ak (ByteArray.toList s==ByteArray.toList {data:= #[]}) (K (AV.bool ((↑(l.length):Int)==(0:Int))) []) (K (AV.bool false) [])):=by kernel_rfl
theorem y47 κ b K:(a9 (QV κ) 12 173 [.bool b] [] K)=(
 ak b (K (AV.lit Value.nilIface) []) (K (AV.lit (Value.iface 273 (Value.pointer (some (Kp.tree κ))))) [])):=by kernel_rfl
def g60:List AV->Option (Bool×AV)
 |[.agg [.lit (.int .i64 a), .lit (.string s), .lit (.int .i64 n), .ah 38 l]]=>some (true, .bool (decide (a=0)&&bare a s n&&decide ((l.length:Int)=0)))
 |_=>none
theorem p60 κ:cg (QV κ) 12 194 g60:=by
 intro a x h;unfold g60 at h;split at h
 ·simp only[ao2,ao8,true_and] at h
  subst h;refine⟨_,rfl,rfl,?_⟩
  simp_all[y60,ac7,ad]
 grind
def g61:List AV->Option (Bool×AV)
 |[.agg [.lit (.string s), .ah 38 l]]=>some (true, .bool (o8 s (ByteArray.mk #[])&&decide ((l.length:Int)=0)))
 |_=>none
theorem p61 κ:cg (QV κ) 12 195 g61:=by
 intro a x h;unfold g61 at h;split at h
 ·simp[ao2,ao8,true_and] at h
  subst h;refine⟨_,rfl,rfl,?_⟩
  simp_all[y61,o8,ac7,ad]
 grind
def g47(κ:Kp):List AV->Option (Bool×AV)
 |[.lit (.bool b)]=>some (true, .lit (aB κ b))
 |_=>none
theorem p47 κ:cg (QV κ) 12 173 (g47 κ):=by
 intro a x h;unfold g47 at h;split at h
 ·rename_i b
  simp   at h;subst h;refine⟨_,rfl,oX _ b,?_⟩;rw[y47];cases b<;>rfl
 grind
noncomputable def E47 κ:=(((QV κ).aK 194 g60).aK 195 g61).aK 173 (g47 κ)
theorem e47 κ:aE (E47 κ):=(((e64 _).eT (mI (e64 κ) (m64 κ) (p60 κ))).eT (mI (e64 _) (m64 _) (p61 κ))).eT (mI (e64 κ) (m64 κ) (p47 κ))
theorem m47 κ:aj (E47 κ):=(m64 _).aK.aK.aK
def W2(κ:Kp):List AV->Option (Bool×AV)
 |[.agg [.lit (.int .i64 a), .lit (.string s), .lit (.int .i64 n), .ah 38 l], .lit (.int .i64 h)]=>some (decide (0<=h)&&decide (h<=1000), .lit (aB κ (ar h.toNat (.mk a s n (aa l)))))
 |_=>none
def J3:List AV->Nat
 |[_, .lit (.int .i64 h)]=>h.toNat
 |_=>0
noncomputable def FM κ n:=(E47 κ).aK 192 (below (W2 κ) J3 n)
theorem x58 κ r h l i I n K:(vc (FM κ r) 12 192 none 0 (ae (Pr κ).toProgram 192 10) (sp 72 [(1, .int h),(49, .ah 38 l),(50, .int l.length),(51, .int i)] []) (bj (FM κ r) 192 10 0 I n K))=(
 letI a:=IntKind.wrap IntKind.i64
 letI b:=AV.int
 letI c:=nth l i.toNat
 letI f:=K Exit.ret (sp 72 [(4,AV.lit (Value.iface 273 (Value.pointer (some (Kp.tree κ)))))] [])
 letI g:=i<(↑(l.length):Int)
 letI d:=h - (1:Int)
 letI j:=a d
 letI e:=aB κ (ar (Int.toNat j) (Tm.mk (toInt (af c 0)) (toStr (af c 1)) (toInt (af c 2)) (aa (ag (af c 3)))))
 ak (decide g) (aR (decide ((0:Int)<=i)&&decide g) (ak (toInt (af c 0)==(3:Int)) f (ak (toInt (af c 0)==(4:Int)) f (aR (decide ((0:Int)<=
 a d)&&decide (a d<=(1000:Int))&&Nat.blt (J3 [AV.agg [b (toInt (af c 0)),AV.str (toStr (af c 1)),
 b (toInt (af c 2)),AV.ah 38 (ag (af c 3))],b j]) r) (aR (aC e) (ak (!bO e) (K Exit.ret (sp 72 [(4,AV.lit e)] [])) (∃(e0:Nat),e0<n/\I
 e0 (sp 72 [(1,b h),(49,AV.ah 38 l),(50,b (↑(l.length):Int)),(51,b (a (i+(1:Int))))] [])))))))) (K (Exit.exit
 1) (sp 72 [] []))):=by kernel_rfl
abbrev Xi(a:Int×List _×Int):=sp 72 [(1, .int a.1),(49, .ah 38 a.2.1),(50, .int a.2.1.length),(51, .int a.2.2)] []
def Mo r(a:Int×List AV×Int):=1<=a.1/\a.1<=1000/\a.1.toNat<=r/\a.2.1.length<=aW/\0<=a.2.2/\a.2.2<=a.2.1.length
noncomputable def I6(κ:Kp)(a:Int×List AV×Int):Out (Exit×S):=
 .ak (l4 (a.1 - 1).toNat (aa (a.2.1.drop a.2.2.toNat))) (.one (.exit 1,sp 72 [] [])) (.one (.ret,sp 72 [(4, .lit (aB κ false))] []))
theorem l58 κ r:aX (FM κ r) 12 192 10 (aG 0 Xi (Mo r) (I6 κ)):=by
 refine aD (fun a=>a.2.1.length - a.2.2.toNat) ?_;rintro⟨h,l,i⟩ K ⟨k,m,p,f,q,s⟩ b;simp only at k m p f q s;rw[show(FM κ r).P=Pr κ from rfl,x58];simp only[I6,Out.run,ad] at b;rw[az (n:=h - 1) (by omega) (by omega)];simp only[aW] at f;simp only[nz,qH];simp only[←dc];simp only[ad,ai,an9,ao1,ao0,beq_iff_eq,beq_eq_false_iff_ne,Bool.not_eq_true',ap1,J3,Nat.blt_eq];refine⟨fun o=>⟨⟨q,o⟩,?_⟩,fun o=>b.1 ?_⟩
 ·have e:=eL l i.toNat (by omega)
  rw[e] at b;have d:(cH (nth l i.toNat)).op=toInt (af (nth l i.toNat) 0):=by rw[dc];rfl
  simp only[l4,List.all_cons,d] at b;refine⟨fun g=>b.2 (by simp[g]),fun g=>⟨fun j=>b.2 (by simp[j]),fun j=>⟨⟨⟨by omega,by omega⟩,by omega⟩,trivial,fun c=>?_,fun c=>?_⟩⟩⟩
  ·rw[c];exact b.2 (by rw[c];simp)
  ·rw[az (n:=i+1) (by omega) (by omega)]
   refine⟨_,?_,(h,l,i+1),rfl,⟨k,m,p,by simpa[aW] using f,by simp only;omega,by simp only;omega⟩,rfl,?_⟩
   ·simp only;omega
   ·rw[c] at b
    simp only[I6,Out.run,ad,l4];rw[show(i+1).toNat=i.toNat+1 by omega];simpa[g,j] using b
 ·rw[ao7 (by omega)];rfl
noncomputable def L2 κ r:=(FM κ r).aq 192 10 (aG 0 Xi (Mo r) (I6 κ))
theorem y58 κ r op s n l h K:(a9 (L2 κ r) 12 192 [.agg [.int op, .lit (.string s), .int n, .ah 38 l], .int h] [] K)=(
 letI a:=AV.int
 letI b:=K (AV.lit (Value.iface 273 (Value.pointer (some (Kp.tree κ))))) []
 letI c:=Pg.toProgram (Env.P (FM κ r))
 letI d:=K (AV.lit Value.nilIface) []
 ak (h==(0:Int)) b (ak (op==(0:Int)) b (ak (!mA op) (ak (!bare op s n) b (ak (decide ((↑(l.length):Int)>(0:Int))) b d)) (ak (!ByteArray.toList s==ByteArray.toList {data:= #[]}) b (ak (n != (0:Int)) b (ak ((↑(l.length):Int) != (2:Int)) b (ae c 192 10=ae c 192 10/\∃(e0:Int×List AV×Int),sp 72 [(1,a h),(49,AV.ah 38 l),(50,a (↑(l.length):Int)),(51,a 0)] []=sp 72 [(1,a e0.1),(49,AV.ah 38 e0.2.1),(50,a (↑(e0.2.1.length):Int)),(51,a e0.2.2)] []/\((1:Int)<=e0.1/\e0.1<=(1000:Int)/\e0.1.toNat<=r/\e0.2.1.length<=9223372036854775807/\(0:Int)<=e0.2.2/\e0.2.2<=(↑(e0.2.1.length):Int))/\ak (l4 (Int.toNat (e0.1 - (1:Int))) (aa (List.drop (Int.toNat e0.2.2) e0.2.1))) d b))))))):=by kernel_rfl
theorem ae5 κ r(b:gr (Pr κ) 192 (below (W2 κ) J3 r)):aE (L2 κ r)/\aj (L2 κ r)/\(L2 κ r).P=Pr κ:=
 have h:=(e47 _).eT b;have a:=(m47 _).aK
 ⟨h.aq a (l58 _ r),a.aq aI,rfl⟩
theorem p58 κ r:cg (L2 κ r) 12 192 fun xs=>bif Nat.beq (J3 xs) r then W2 κ xs else none:=by
 intro d x b;cases f:Nat.beq (J3 d) r with
 |false=>simp only[f] at b;cases b
 | true=>
  simp only[f,ao6] at b;unfold W2 at b;split at b
  ·rename_i t s n l h
   simp only[ao2,ao8,ao0,an9] at b;obtain⟨⟨u,o⟩,rfl⟩:=b;have v:h.toNat=r:=Nat.eq_of_beq_eq_true f;refine⟨_,rfl,oX κ _,?_⟩;rw[y58];have p:AV.lit (.iface 273 (.pointer (some κ.tree)))= .lit (aB κ false):=rfl;have j:AV.lit .nilIface= .lit (aB κ true):=rfl;rw[p,j];by_cases i:h=0
   ·subst i;rfl
   ·obtain⟨m,k⟩: ∃m,h.toNat=m+1:=⟨h.toNat - 1,by omega⟩
    rw[k,tH,eE];unfold o8;generalize (ByteArray.toList s==ByteArray.toList (ByteArray.mk #[]))=z
    simp only[ad,beq_iff_eq,beq_eq_false_iff_ne,Bool.not_eq_true',ap1,an9,ao1,bne_iff_ne,bne_eq_false_iff_eq];refine⟨fun e=>absurd e i,fun _=>⟨fun e=>by rw[ao5 e];rfl,fun e=>?_⟩⟩;rw[ao3 e,ao4];refine⟨fun g=>?_,fun g=>?_⟩
    ·rw[g,ao4]
     refine⟨fun a=>by rw[a];rfl,fun a=>⟨fun c=>?_,fun c=>?_⟩⟩
     ·rw[ao3 (show ¬ l.length=0 by omega),Bool.and_false]
     ·rw[a,ao5 (show l.length=0 by omega)];rfl
    ·rw[g,ao6]
     refine⟨fun a=>by rw[a];rfl,fun a=>⟨fun c=>by rw[a,ao3 c];rfl,fun c=>⟨fun q=>?_,fun q=>?_⟩⟩⟩
     ·rw[ao3 (show ¬ l.length=2 by omega)];simp
     ·refine⟨trivial,(h,l,0),rfl,⟨by simp only;omega,o,by simp only;omega,by simp only;omega,by simp only;omega,by simp only;omega⟩,?_⟩
      rw[a,ao5 c,ao5 (show l.length=2 by omega)];simp only[show(h - 1).toNat=m by omega,Int.toNat_zero,ao9,ap5];exact⟨fun e=>by rw[e],fun e=>by rw[e]⟩
  ·cases b
theorem q58 κ:gr (Pr κ) 192 (W2 κ):=aE.wj _ _ _ (ae5 _) (p58 _)
noncomputable def Rq κ:=(E47 κ).aK 192 (W2 κ)
theorem e58 κ:aE (Rq κ):=(e47 _).eT (q58 _)
theorem m58 κ:aj (Rq κ):=(m47 _).aK
theorem x46 κ l i I n K:(vc (Rq κ) 12 172 none 0 (ae (Pr κ).toProgram 172 4) (sp 36 [(24, .ah 38 l),(25, .int l.length),(26, .int i)] []) (bj (Rq κ) 172 4 0 I n K))=(
 letI a:=nth l i.toNat
 letI b:=aB κ (ar 20 (Tm.mk (toInt (af a 0)) (toStr (af a 1)) (toInt (af a 2)) (aa (ag (af a 3)))))
 letI c:=i<(↑(l.length):Int)
 ak (decide c) (aR (decide ((0:Int)<=i)&&decide c) (aR (aC b) (ak (!bO b) (K Exit.ret (sp 36 [(2,AV.lit b)] [])) (∃(e0:Nat),e0<n/\I e0 (sp 36
 [(24,AV.ah 38 l),(25,AV.int (↑(l.length):Int)),(26,AV.int (IntKind.wrap IntKind.i64 (i+(1:Int))))] []))))) (K (Exit.exit 0) (sp 36 [] []))):=by kernel_rfl
abbrev Zg(a:List _×Int):=sp 36 [(24, .ah 38 a.1),(25, .int a.1.length),(26, .int a.2)] []
def MW(a:List AV×Int):=a.1.length<=aW/\0<=a.2/\a.2<=a.1.length
noncomputable def He(κ:Kp)(a:List AV×Int):Out (Exit×S):=
 .ak ((aa (a.1.drop a.2.toNat)).all (ar 20)) (.one (.exit 0,sp 36 [] [])) (.one (.ret,sp 36 [(2, .lit (aB κ false))] []))
theorem l46 κ:aX (Rq κ) 12 172 4 (aG 0 Zg MW (He κ)):=by
 refine aD (fun a=>a.1.length - a.2.toNat) ?_;rintro⟨l,i⟩ K ⟨d,e,g⟩ b;simp only at d e g;rw[show(Rq κ).P=Pr κ from rfl,x46];simp only[He,Out.run,ad] at b;simp only[aW] at d;simp only[nz,qH,←dc];simp only[ad,ai,an9,ao1,ao0,beq_iff_eq,beq_eq_false_iff_ne,Bool.not_eq_true',ap1];refine⟨fun f=>⟨⟨e,f⟩,trivial,fun c=>?_,fun c=>?_⟩,fun f=>b.1 ?_⟩
 ·rw[c]
  rw[eL l i.toNat (by omega),List.all_cons,c,Bool.false_and] at b;exact b.2 rfl
 ·rw[az (n:=i+1) (by omega) (by omega)]
  refine⟨_,?_,(l,i+1),rfl,⟨by simpa[aW] using d,by simp only;omega,by simp only;omega⟩,rfl,?_⟩
  ·simp only;omega
  ·rw[eL l i.toNat (by omega),List.all_cons,c,ap5] at b
   grind [He,Out.run,ad]
 ·rw[ao7 (by omega)];rfl
noncomputable def Pn κ:=(Rq κ).aq 172 4 (aG 0 Zg MW (He κ))
theorem ad6 κ:aE (Pn κ):=(e58 _).aq (m58 _) (l46 _)
theorem YM κ:aj (Pn κ):=(m58 _).aq aI
theorem y46 κ s l K:(a9 (Pn κ) 12 172 [.agg [.lit (.string s), .ah 38 l]] [] K)=(
 letI a:=K (AV.lit (Value.iface 273 (Value.pointer (some (Kp.tree κ))))) []
 letI b:=Pg.toProgram (Env.P (Rq κ))
 ak (!isName s) a (ak ((↑(l.length):Int)==(0:Int)) a (ak (decide ((↑(l.length):Int)>(8:Int))) a (ae b 172 4=ae b 172 4/\∃(e0:List AV×
 Int),sp 36 [(24,AV.ah 38 l),(25,AV.int (↑(l.length):Int)),(26,AV.int 0)] []=sp 36 [(24,AV.ah 38 e0.1),(25,AV.int (↑(e0.1.length):Int)),(26,
 AV.int e0.2)] []/\(e0.1.length<=9223372036854775807/\(0:Int)<=e0.2/\e0.2<=(↑(e0.1.length):Int))/\ak (List.all (aa (List.drop e0.2.toNat e0.1)) (ar
 20)) (K (AV.lit Value.nilIface) []) a)))):=by kernel_rfl
def g46(κ:Kp):List AV->Option (Bool×AV)
 |[.agg [.lit (.string s), .ah 38 l]]=>some (true, .lit (aB κ (bm ⟨s,aa l⟩)))
 |_=>none
theorem p46 κ:cg (Pn κ) 12 172 (g46 κ):=by
 intro b x a;unfold g46 at a;split at a
 ·rename_i s l
  simp only[ao2,ao8,true_and] at a;subst a;refine⟨_,rfl,oX κ _,?_⟩;rw[y46];have c:AV.lit (.iface 273 (.pointer (some κ.tree)))= .lit (aB κ false):=rfl;have d:AV.lit .nilIface= .lit (aB κ true):=rfl;rw[c,d];simp only[bm,eE];simp only[ad,beq_iff_eq,beq_eq_false_iff_ne,Bool.not_eq_true',ap1,an9,ao1];refine⟨fun e=>by rw[e];rfl,fun e=>⟨fun g=>by rw[ao5 (show l.length=0 by omega)];simp,fun g=>⟨fun f=>by rw[ao3 (show ¬ l.length<=8 by omega)];simp,fun f=>⟨trivial,(l,0),rfl,⟨by simp only;omega,by simp only;omega,by simp only;omega⟩,?_⟩⟩⟩⟩
  grind [decide_eq_false,decide_eq_true]
 ·cases a
noncomputable def P1 κ:=(Pn κ).aK 172 (g46 κ)
theorem e46 κ:aE (P1 κ):=(ad6 _).aK (YM _) (p46 _)
theorem m46 κ:aj (P1 κ):=(YM _).aK
noncomputable def Fi κ:=(P1 κ).aq 193 2 (kL (P1 κ) 12 193 2 5)
theorem aj2 κ:aE (Fi κ):=(e46 _).aq (m46 _) (tJ (m46 _) 5)
theorem Y0 κ:aj (Fi κ):=(m46 _).aq (lS (m46 _) 5)
theorem ak8 κ u1 u2 K:(a9 (Fi κ) 12 193 [.ah 171 [.lit u1, .lit u2]] [] K)=(
 letI a:=Pg.toProgram (Env.P (P1 κ))
 ae a 193 2=ae a 193 2/\aR (aC u1) (ak (!bO u1) (K (AV.lit u1) []) (aR (aC u2) (ak (!bO u2) (K (AV.lit u2) []) (K (AV.lit Value.nilIface) []))))):=by kernel_rfl
theorem ag4 κ u1 u2 u3 K:(a9 (Fi κ) 12 193 [.ah 171 [.lit u1, .lit u2, .lit u3]] [] K)=(
 letI a:=Pg.toProgram (Env.P (P1 κ))
 ae a 193 2=ae a 193 2/\aR (aC u1) (ak (!bO u1) (K (AV.lit u1) []) (aR (aC u2) (ak (!bO u2) (K (AV.lit u2) []) (aR (aC u3) (ak (!bO u3) (K (AV.lit u3) [])
 (K (AV.lit Value.nilIface) []))))))):=by kernel_rfl
theorem an1 κ u1 u2 u3 u4 K:(a9 (Fi κ) 12 193 [.ah 171 [.lit u1, .lit u2, .lit u3, .lit u4]] [] K)=(
 letI a:=AV.lit
 letI b:=Pg.toProgram (Env.P (P1 κ))
 ae b 193 2=ae b 193 2/\aR (aC u1) (ak (!bO u1) (K (a u1) []) (aR (aC u2) (ak (!bO u2) (K (a u2) []) (aR (aC u3) (ak (!bO u3) (K (a u3) [])
 (aR (aC u4) (ak (!bO u4) (K (a u4) []) (K (a Value.nilIface) []))))))))):=by kernel_rfl
def bD u v:=bif bO u then v else u
theorem ES κ a b:bD (aB κ a) (aB κ b)=aB κ (a&&b):=by cases a<;>rfl
theorem GP{u}(h:aC u=true)(a:bO u=true):u= .nilIface:=by grind [bO]
def g59:List AV->Option (Bool×AV)
 |[.ah 171 [.lit b, .lit a]]=>some (aC b&&aC a&&(bh b&&bh a), .lit (bD b a))
 |[.ah 171 [.lit b, .lit a, .lit c]]=>some (aC b&&(aC a&&aC c)&&(bh b&&(bh a&&bh c)), .lit (bD b (bD a c)))
 |[.ah 171 [.lit b, .lit a, .lit c, .lit d]]=>some (aC b&&(aC a&&(aC c&&aC d))&&(bh b&&(bh a&&(bh c&&bh d))), .lit (bD b (bD a (bD c d))))
 |_=>none
theorem p59 κ:cg (Fi κ) 12 193 g59:=by
 intro k x a;unfold g59 at a;split at a
 ·rename_i b c
  simp only[ao2,ao8,ao0] at a;obtain⟨⟨⟨f,d⟩,e,m⟩,rfl⟩:=a;refine⟨_,rfl,by unfold bD;cases bO b<;>assumption,?_⟩;rw[ak8,f,d];refine⟨rfl,?_⟩;unfold bD;cases i:bO b
  ·rfl
  ·cases h:bO c
   ·rfl
   ·rw[GP d h];rfl
 ·rename_i b c g
  simp only[ao2,ao8,ao0] at a;obtain⟨⟨⟨f,d,e⟩,m,n,q⟩,rfl⟩:=a;refine⟨_,rfl,by unfold bD;cases bO b<;>cases bO c<;>assumption,?_⟩;rw[ag4,f,d,e];refine⟨rfl,?_⟩;unfold bD;cases i:bO b
  ·rfl
  ·cases h:bO c
   ·rfl
   ·cases j:bO g
    ·rfl
    ·rw[GP e j];rfl
 ·rename_i b c g p
  simp only[ao2,ao8,ao0] at a;obtain⟨⟨⟨f,d,e,l⟩,m,n,q,r⟩,rfl⟩:=a;refine⟨_,rfl,by unfold bD;cases bO b<;>cases bO c<;>cases bO g<;>assumption,?_⟩;rw[an1,f,d,e,l];refine⟨rfl,?_⟩;unfold bD;cases i:bO b
  ·rfl
  ·cases h:bO c
   ·rfl
   ·cases j:bO g
    ·rfl
    ·cases o:bO p
     ·rfl
     ·rw[GP l o];rfl
 ·cases a
noncomputable def Y9 κ:=(Fi κ).aK 193 g59
theorem e59 κ:aE (Y9 κ):=(aj2 _).aK (Y0 _) (p59 _)
theorem m59 κ:aj (Y9 κ):=(Y0 _).aK
theorem y49(κ:Kp)(op:Int) s(l:List AV)(o1:Int) s1(n1:Int)(l1:List AV)(o2:Int) s2(n2:Int)(l2:List AV) K:(a9 (Y9 κ) 12 175 [.agg [.int op, .agg [.lit (.string s), .ah 38 l], .agg [.int o1, .lit (.string s1), .int n1, .ah 38 l1], .agg [.int o2, .lit (.string s2), .int n2, .ah 38 l2]]] [] K)=(
 letI a:=AV.lit
 letI d:=aB κ (ar 20 (Tm.mk o1 s1 n1 (aa l1)))
 letI q:=aB κ (ar 20 (Tm.mk o2 s2 n2 (aa l2)))
 letI b:=aB κ (bm {rel:=s,l:=aa l})
 letI i:=aB κ (decide (o2=(0:Int))&&bare o2 s2 n2&&decide ((↑(l2.length):Int)=(0:Int)))
 letI y:=Value.iface 273 (Value.pointer (some (Kp.tree κ)))
 letI w:=aB κ (o2==(1:Int))
 letI c:=aB κ (bm {rel:=s,l:=aa l})
 letI g:=K (a (bD b (bD w (bD d q)))) []
 letI e:=aC d&&aC q
 letI f:=bh d&&bh q
 letI k:=K (a (bD b y)) []
 letI x:=ak (decide (o1=(0:Int))&&bare o1 s1 n1&&decide ((↑(l1.length):Int)=(0:Int))) (aR (aC b&&aC i&&(bh b&&bh i)) (K (a (bD b
  i)) [])) (aR (aC b&&true&&(bh b&&true)) k)
 letI r:=aR (aC b&&(true&&e)&&(bh b&&(true&&f))) k
 letI m:=aB κ (o2 != (4:Int))
 letI h:=o1==(2:Int)
 letI n:=K (a y) []
 letI t:=aR (true&&e&&(true&&f)) n
 letI j:=ak (o8 s {data:= #[]}&&decide ((↑(l.length):Int)=(0:Int))) (ak (o1 != (4:Int)) (aR (aC m&&e&&(bh m&&f)) (K (a (bD m (bD d q))) [])) t) t
 letI u:=bh b&&(bh i&&bh d)
 letI o:=aC w&&e
 letI p:=bh w&&f
 letI z:=aC b&&o&&(bh b&&p)
 letI v:=aR z (K (a (bD c (bD w (bD d q)))) [])
 ak (o1==(1:Int)) (ak (op==(1:Int)) x (ak (op==(2:Int)) x (ak (op==(3:Int)) j (ak (op==(4:Int)) j (ak (op==(5:Int)) j (ak (op==(6
 :Int)) j (ak (op==(7:Int)) (aR (aC b&&(aC i&&aC d)&&u) (K (a (bD b (bD i d))) [])) (ak (op==(8:Int)) (aR z g) (ak (op==(9:
 Int)) (aR (aC c&&o&&(bh b&&p)) g) (ak (op==(10:Int)) v n)))))))))) (ak (op==(1:Int)) x (ak (op==(2:Int)) x (ak (op==(3:
 Int)) j (ak (op==(4:Int)) j (ak (op==(5:Int)) j (ak (op==(6:Int)) j (ak (op==(7:Int)) (ak h (aR (aC c&&(aC i&&aC d)&&u) (K
 (a (bD c (bD i d))) [])) (aR (aC b&&(true&&aC d)&&(bh b&&(true&&bh d))) (K (a (bD c y)) []))) (ak (op==(8:Int)) (ak h (aR
 z g) r) (ak (op==(9:Int)) (ak h (aR (aC b&&o&&(bh c&&p)) g) (aR (aC b&&(true&&e)&&(bh c&&(true&&f))) k)) (ak (op==
 (10:Int)) (ak h v r) n))))))))))):=by kernel_rfl
theorem QE κ b x y r:ak b (AV.lit (aB κ x)=AV.lit (aB κ r)) (AV.lit (aB κ y)=AV.lit (aB κ r))↔AV.lit (aB κ (bif b then x else y))=AV.lit (aB κ r):=by
 cases b<;>rfl
theorem RN(a b:Int):(a==b)=decide (a=b):=rfl
theorem HL(a b:Int):(a != b)= !decide (a=b):=rfl
def g49(κ:Kp):List AV->Option (Bool×AV)
 |[.agg [.lit (.int .i64 a), .agg [.lit (.string s), .ah 38 l], .agg [.lit (.int .i64 b), .lit (.string s1), .lit (.int .i64 c), .ah 38 d], .agg [.lit (.int .i64 e), .lit (.string s2), .lit (.int .i64 f), .ah 38 g]]]=>
  some (true, .lit (aB κ (jq ⟨a,⟨s,aa l⟩, .mk b s1 c (aa d), .mk e s2 f (aa g)⟩)))
 |_=>none
theorem p49 κ:cg (Y9 κ) 12 175 (g49 κ):=by
 intro u x g;unfold g49 at g;split at g
 ·rename_i c s l d s1 o q i s2 t w
  simp only[ao2,ao8,true_and] at g;subst g;refine⟨_,rfl,oX κ _,?_⟩;rw[y49];have y:Value.iface 273 (.pointer (some κ.tree))=aB κ false:=rfl;rw[y];simp only[nz,oX,ES,Bool.and_true,Bool.and_self,aR];simp only[←V2,←UN,RN,HL,QE];refine congrArg (fun b=>AV.lit (aB κ b)) ?_;have z:VT (.mk d s1 o (aa q))=(decide (d=1)||decide (d=2)):=rfl;rw[KD,z];generalize bm ⟨s,aa l⟩=A
  generalize UA ⟨s,aa l⟩=h
  generalize Lo (.mk d s1 o (aa q))=v
  generalize Lo (.mk i s2 t (aa w))=p
  generalize ar 20 (.mk d s1 o (aa q))=e
  generalize ar 20 (.mk i s2 t (aa w))=f
  generalize decide (d=1)=a
  generalize decide (d=2)=k
  generalize decide (d=4)=j
  generalize decide (i=4)=m
  generalize decide (i=1)=r
  generalize decide (c=1)=B
  generalize decide (c=2)=C
  generalize decide (c=3)=D
  generalize decide (c=4)=E
  generalize decide (c=5)=F
  generalize decide (c=6)=H
  generalize decide (c=7)=I
  generalize decide (c=8)=J
  generalize decide (c=9)=K
  generalize decide (c=10)=n
  cases B
  case true=>cases a<;>cases v<;>cases A<;>cases p<;>rfl
  cases C
  case true=>cases a<;>cases v<;>cases A<;>cases p<;>rfl
  cases D
  case true=>cases a<;>cases h<;>cases j<;>cases m<;>cases e<;>cases f<;>rfl
  cases E
  case true=>cases a<;>cases h<;>cases j<;>cases m<;>cases e<;>cases f<;>rfl
  cases F
  case true=>cases a<;>cases h<;>cases j<;>cases m<;>cases e<;>cases f<;>rfl
  cases H
  case true=>cases a<;>cases h<;>cases j<;>cases m<;>cases e<;>cases f<;>rfl
  cases I
  case true=>cases a<;>cases k<;>cases A<;>cases p<;>cases e<;>rfl
  cases J
  case true=>cases a<;>cases k<;>cases A<;>cases r<;>cases e<;>cases f<;>rfl
  cases K
  case true=>cases a<;>cases k<;>cases A<;>cases r<;>cases e<;>cases f<;>rfl
  cases n
  case true=>cases a<;>cases k<;>cases A<;>cases r<;>cases e<;>cases f<;>rfl
  cases a<;>rfl
 ·cases g
noncomputable def QZ κ:=(Y9 κ).aK 175 (g49 κ)
theorem e49 κ:aE (QZ κ):=(e59 _).aK (m59 _) (p49 _)
theorem m49 κ:aj (QZ κ):=(m59 _).aK
structure dk where
 xs:List AV
 more:List AV
 rel:ByteArray
 hl:List AV
 bl:List AV
 line:Int
 i:Int
abbrev au(a:dk):AV:= .agg [.agg [.lit (.string a.rel), .ah 38 a.hl], .ah 80 a.bl, .int a.line]
abbrev CX a:=sp 69 [(0, .cf 0),(1, .ptr 1 0 [] 0),(25, .ah 38 a.hl),(26, .int a.hl.length),(27, .int a.i)] [.ext (some a.xs), .box 48 (au a)]
abbrev Mv a:=sp 69 [(0, .cf 0),(57, .ah 80 a.bl),(58, .int a.bl.length),(59, .int a.i)] [.ext (some a.xs), .box 48 (au a)]
def mW(κ:Kp)(l:List Bool):List AV:=l.map fun b=> .aJ [.lit (aB κ b)]
def Ap κ(a:dk):=a.hl.length<=aW/\0<=a.i/\a.i<=a.hl.length/\a.xs=mW κ ((aa (a.hl.drop a.i.toNat)).map (sF a.bl.length))++a.more
def IF κ(a:dk):=a.bl.length<=aW/\0<=a.i/\a.i<=a.bl.length/\a.xs=mW κ ((dv (a.bl.drop a.i.toNat)).map jq)
def Gy(a:dk):Out (Exit×S):= .all (fun _=>True) fun b=> .ak b (.one (.exit 0,sp 69 [(0, .cf 0),(1, .ptr 1 0 [] 0)] [.ext (some a.more), .box 48 (au a)]))
 (.one (.ret,sp 69 [] [.ext none, .box 48 (au a)]))
def PD(a:dk):Out (Exit×S):= .all (fun _=>True) fun b=> .ak b (.one (.exit 2,sp 69 [] [.ext (some []), .box 48 (au a)]))
 (.one (.ret,sp 69 [] [.ext none, .box 48 (au a)]))
theorem ah3 κ a I n K:(vc (QZ κ) 12 171 none 2 (ae (Pr κ).toProgram 171 2) (CX a) (bj (QZ κ) 171 2 2 I n K))=(
 letI b:=AV.int
 letI c:=Obj.box
 letI d:=Obj.ext
 letI f:=IntKind.wrap IntKind.i64 (a.i+(1:Int))
 letI g:=sp 69 [] [d none,c 48 (au a)]
 letI h:=af (nth a.hl a.i.toNat) 0
 letI e:=a.hl.length
 letI i:=∃(e1:List AV),a.xs=AV.aJ [AV.lit (Value.iface 273 (Value.pointer (some (Kp.tree κ))))]::e1/\(∃(e0:Nat),e0<n/\I e0 (sp 69 [(0,AV.cf
  0),(1,AV.ptr 1 0 [] 0),(25,AV.ah 38 a.hl),(26,b (↑e:Int)),(27,b f)] [d (some e1),c 48 (au a)]))/\K Exit.ret g
 ak (decide (a.i<(↑e:Int))) (aR (decide ((0:Int)<=a.i)&&decide (a.i<(↑e:Int))) (ak (toInt h != (4:Int)) (ak (!mA (toInt h)) (ak (toInt h !=
 (1:Int)) (∃(e1:List AV),a.xs=AV.aJ [AV.lit Value.nilIface]::e1/\(∃(e0:Nat),e0<n/\I e0 (sp 69 [(0,AV.cf 0),(1,AV.ptr 1 0 [] 0),(25,AV.ah
 38 a.hl),(26,b (↑e:Int)),(27,b f)] [d (some e1),c 48 (au a)]))/\K Exit.ret g) (∃(e1:List AV),a.xs=AV.aJ [AV.lit (aB κ
 (decide ((↑(a.bl.length):Int)>(0:Int))))]::e1/\(∃(e0:Nat),e0<n/\I e0 (sp 69 [(0,AV.cf 0),(1,AV.ptr 1 0 [] 0),(25,AV.ah 38 a.hl),(26,
 b (↑e:Int)),(27,b f)] [d (some e1),c 48 (au a)]))/\K Exit.ret g)) i) i)) (K (Exit.exit 0) (sp 69 [(0,AV.cf 0),(1,AV.ptr 1 0
 [] 0)] [d (some a.xs),c 48 (au a)]))):=by kernel_rfl
theorem ae4 κ:aX (QZ κ) 12 171 2 (aG 2 CX (Ap κ) Gy):=by
 refine aD (fun a=>a.hl.length - a.i.toNat) ?_;rintro⟨xs,d,g,e,l,c,i⟩ K ⟨q,r,t,h⟩ p;simp only at q r t h;rw[show(QZ κ).P=Pr κ from rfl,ah3];have v:Value.iface 273 (.pointer (some κ.tree))=aB κ false:=rfl;have u:Value.nilIface=aB κ true:=rfl;have j:=p true trivial;have k:=p false trivial;simp only[Out.run,ak] at j k;simp only[v,u];simp only[aW] at q;simp only[ad,ai,an9,ao1,ao0];refine⟨fun s=>⟨⟨r,s⟩,?_⟩,fun s=>?_⟩
 ·rw[eL e i.toNat (by omega)] at h
  have o:(cH (nth e i.toNat)).op=toInt (af (nth e i.toNat) 0):=by rw[dc];rfl
  simp only[ap6,mW,sF,o,List.cons_append] at h;rw[az (n:=i+1) (by omega) (by omega)];have w: ∀b,b=(!decide (toInt (af (nth e i.toNat) 0)=4)&& !mA (toInt (af (nth e i.toNat) 0))&&(!decide (toInt (af (nth e i.toNat) 0)=1)||decide (0<l.length)))->
    ∃f,xs=AV.aJ [AV.lit (aB κ b)]::f/\(∃m,m<e.length - i.toNat/\et CX (Ap κ) Gy (fun a=>a.hl.length - a.i.toNat) K m (CX ⟨f,d,g,e,l,c,i+1⟩))/\K Exit.ret (sp 69 [] [.ext none, .box 48 (au ⟨xs,d,g,e,l,c,i⟩)]):=by
   rintro b rfl;refine⟨_,h,⟨_,?_,⟨_,d,g,e,l,c,i+1⟩,rfl,⟨by simpa[aW] using q,by simp only;omega,by simp only;omega,?_⟩,rfl,p⟩,k⟩
   ·simp only;omega
   ·simp only[mW,show(i+1).toNat=i.toNat+1 by omega]
  simp only[HL,Bool.not_eq_true',ap1,an9,ao1]
  grind [decide_eq_true,decide_eq_false]
 ·rw[ao7 (by omega)] at h
  simp only[aa,mW,List.map_nil,List.nil_append] at h;subst h;exact j
noncomputable def Ag κ:=(QZ κ).aq 171 2 (aG 2 CX (Ap κ) Gy)
theorem ah8 κ:aE (Ag κ):=(e49 _).aq (m49 _) (ae4 _)
theorem YC κ:aj (Ag κ):=(m49 _).aq aI
theorem an0 κ a I n K:(vc (Ag κ) 12 171 none 2 (ae (Pr κ).toProgram 171 7) (Mv a) (bj (Ag κ) 171 7 2 I n K))=(
 letI b:=nth a.bl a.i.toNat
 letI c:=AV.agg [AV.agg [AV.str a.rel,AV.ah 38 a.hl],AV.ah 80 a.bl,AV.int a.line]
 letI d:=a.i<(↑(a.bl.length):Int)
 ak (decide d) (aR (decide ((0:Int)<=a.i)&&decide d) (∃(e1:List AV),a.xs=AV.aJ [AV.lit (aB κ (jq {op:=toInt (af b 0),a:={rel:=toStr (af (af b 1) 0),l:=aa (ag (af (af b 1) 1))},x:=Tm.mk (toInt (af (af b 2) 0)) (toStr (af (af b 2) 1)) (toInt (af (af b 2) 2)) (aa (ag (af (af b 2) 3))),y:=Tm.mk (toInt (af (af b 3) 0)) (toStr (af (af b 3) 1)) (toInt (af (af b 3) 2)) (aa (ag (af (af b 3) 3)))}))]::e1/\(∃(e0:Nat),e0<n/\I e0 (sp 69 [(0,AV.cf 0),(57,AV.ah 80 a.bl),(58,AV.int (↑(a.bl.length):Int)),(59,AV.int (IntKind.wrap IntKind.i64 (a.i+(1:Int))))] [Obj.ext (some e1),Obj.box 48 c]))/\K Exit.ret (sp 69 [] [Obj.ext none,Obj.box 48 c]))) (K (Exit.exit 2) (sp 69 [] [Obj.ext (some a.xs),Obj.box 48 c]))):=by kernel_rfl
theorem ai9 κ:aX (Ag κ) 12 171 7 (aG 2 Mv (IF κ) PD):=by
 refine aD (fun a=>a.bl.length - a.i.toNat) ?_;rintro⟨xs,c,h,p,k,d,i⟩ K ⟨g,m,o,b⟩ j;simp only at g m o b;rw[show(Ag κ).P=Pr κ from rfl,an0];have e:=j true trivial;have f:=j false trivial;simp only[Out.run,ak] at e f;simp only[aW] at g;simp only[ad,ai,an9,ao1,ao0,←lt_eq];refine⟨fun l=>⟨⟨m,l⟩,?_⟩,fun l=>?_⟩
 ·rw[nY k i.toNat (by omega)] at b
  simp only[ap6,mW] at b;rw[az (n:=i+1) (by omega) (by omega)];refine⟨_,b,⟨_,?_,⟨_,c,h,p,k,d,i+1⟩,rfl,⟨by simpa[aW] using g,by simp only;omega,by simp only;omega,?_⟩,rfl,j⟩,f⟩
  ·simp only;omega
  ·simp only[mW,show(i+1).toNat=i.toNat+1 by omega]
 ·rw[ao7 (by omega)] at b
  simp only[dv,mW,List.map_nil] at b;subst b;exact e
noncomputable def NA κ:=(Ag κ).aq 171 7 (aG 2 Mv (IF κ) PD)
theorem an4 κ:aE (NA κ):=(ah8 _).aq (YC _) (ai9 _)
theorem Zs κ:aj (NA κ):=(YC _).aq aI
theorem y45 κ a K:(a9 (NA κ) 12 171 [.cf 0, .ptr 1 0 [] 0] [.ext (some a.xs), .box 48 (au a)] K)=(
 letI b:=AV.int
 letI c:=AV.agg
 letI d:=Obj.box
 letI e:=Obj.ext
 letI f:=AV.aJ
 letI g:=AV.ah
 letI h:=c [c [AV.str a.rel,g 38 a.hl],g 80 a.bl,b a.line]
 letI k:=Pg.toProgram (Env.P (QZ κ))
 letI m:=Pg.toProgram (Env.P (Ag κ))
 ∃(e5:List AV),a.xs=f [AV.lit (aB κ (bm {rel:=a.rel,l:=aa a.hl}))]::e5/\(∃(e4:List AV),e5=f [AV.lit (aB κ (decide ((↑(a.bl.length):Int)<=(20:Int))))]::e4/\(ae k 171 2=ae k 171 2/\∃(e3:dk),letI i:=c [c [AV.str e3.rel,g 38 e3.hl],g 80 e3.bl,b e3.line];sp 69 [(0,AV.cf 0),(1,AV.ptr 1 0 [] 0),(25,g 38 a.hl),(26,b (↑(a.hl.length):Int)),(27,b 0)] [e (some e4),d 48 h]=sp 69 [(0,AV.cf 0),(1,AV.ptr 1 0 [] 0),(25,g 38 e3.hl),(26,b (↑(e3.hl.length):Int)),(27,b e3.i)] [e (some e3.xs),d 48 i]/\(e3.hl.length<=9223372036854775807/\(0:Int)<=e3.i/\e3.i<=(↑(e3.hl.length):Int)/\e3.xs=mW κ (List.map (sF e3.bl.length) (aa (List.drop e3.i.toNat e3.hl)))++e3.more)/\∀(e2:Bool),True->ak e2 (ae m 171 7=ae m 171 7/\∃(e1:dk),letI j:=c [c [AV.str e1.rel,g 38 e1.hl],g 80 e1.bl,b e1.line];sp 69 [(0,AV.cf 0),(57,g 80 e3.bl),(58,b (↑(e3.bl.length):Int)),(59,b 0)] [e (some e3.more),d 48 i]=sp 69 [(0,AV.cf 0),(57,g 80 e1.bl),(58,b (↑(e1.bl.length):Int)),(59,b e1.i)] [e (some e1.xs),d 48 j]/\(e1.bl.length<=9223372036854775807/\(0:Int)<=e1.i/\e1.i<=(↑(e1.bl.length):Int)/\e1.xs=mW κ (List.map jq (dv (List.drop e1.i.toNat e1.bl))))/\∀(e0:Bool),True->ak e0 (K (f []) [e (some []),d 48 j]) (K (f []) [e none,d 48 j])) (K (f []) [e none,d 48 i]))/\K (f []) [e none,d 48 h])/\K (f []) [e none,d 48 h]):=by kernel_rfl
def Ny(a:dk):List AV×List Dn.Obj:=([.cf 0, .ptr 1 0 [] 0],[.ext (some a.xs), .box 48 (au a)])
def EF κ(a:dk):=a.hl.length<=aW/\a.bl.length<=aW/\a.xs=mW κ (tr ⟨⟨a.rel,aa a.hl⟩,dv a.bl⟩)
def PV:dk->Out (AV×List Dn.Obj):=fun _=> .all (fun st'=>rF st') fun st'=> .one (.aJ [],st')
theorem c45 κ:bg (NA κ) 12 171 (aO Ny (EF κ) PV):=by
 refine aU ?_;rintro⟨xs,e,c,g,d,a,i⟩ K ⟨l,n,k⟩ m;simp only at l n k;simp only[Ny];rw[y45 κ ⟨xs,e,c,g,d,a,i⟩];simp only;have f: ∀b,K (.aJ []) [.ext none,b]:=fun b=>m _ trivial
 have o: ∀b,K (.aJ []) [.ext (some []),b]:=fun b=>m _ trivial
 subst k;have j:decide ((d.length:Int)<=20)=decide (d.length<=20):=by
  by_cases h:d.length<=20
  ·rw[ao5 h,ao5 (by omega)]
  ·rw[ao3 h,ao3 (by omega)]
 rw[j];simp only[tr,mW,ap6,AE];refine⟨_,rfl,⟨_,rfl,⟨trivial,⟨_,mW κ ((dv d).map jq),c,g,d,a,0⟩,rfl,⟨l,by simp only;omega,by simp only;omega,?_⟩,?_⟩,f _⟩,f _⟩
 ·simp[mW,AE]
 ·intro y _
  cases y
  ·exact f _
  ·refine⟨trivial,⟨_,[],c,g,d,a,0⟩,rfl,⟨n,by simp only;omega,by simp only;omega,by simp[mW]⟩,?_⟩
   intro y _;cases y
   ·exact f _
   ·exact o _
set_option maxRecDepth 20000 in
noncomputable def TD(κ:Kp):Env:=(NA κ).aw 171 (aO Ny (EF κ) PV)
theorem e45 κ:aE (TD κ):=(an4 _).aw (Zs _) (c45 _)
theorem m45 κ:aj (TD κ):=(Zs _).aw aH
noncomputable abbrev VI(κ:Kp)(a:dk)(st:LoopState)(p:Option Code):Dn.Obj:=
 .loop (iM (Pr κ).toProgram 96 3 st p (ic (bM 15) [(0,au a),(1, .ptr 0 0 [] 0),(2, .bool false),(3, .ptr 1 0 [] 0),(5,au a),(6, .bn 171 [.ptr 2 0 [] 0])]))
noncomputable abbrev pX κ a:=[.box 48 (au a), .box 171 (.lit .nilIface), .box 48 (au a),VI κ a .ready none]
noncomputable abbrev FO κ a:=[.box 48 (au a), .box 171 (.lit .nilIface), .dead,VI κ a .ready none]
theorem s16 κ a Q:(tidy (Pr κ).toProgram 4 (dA (pX κ a) (b6 (pX κ a) [.ptr 2 0 [] 0])) Q)=(
 Q [Obj.box 48 (au a),Obj.box 171 (AV.lit Value.nilIface),Obj.dead,Dn.Obj.loop (iM Tryz.prog 96 3 LoopState.ready none (ic (bM 15) [(0,au a),(1,AV.ptr 0 0
 [] 0),(2,AV.bool false),(3,AV.ptr 1 0 [] 0),(5,au a),(6,AV.bn 171 [AV.ptr 2 0 [] 0])]))]):=by kernel_rfl
theorem r16 κ a u Q(K2:List Dn.Obj->Prop):(gp (vc (TD κ) 12) 3 [.lit u] (FO κ a) (fun r st''=>match r with| .lit (.bool true)=>tidy (Pr κ).toProgram 4 st'' Q| .lit (.bool false)=>K2 st''|_=>False))=(
 letI b:=Obj.box
 letI c:=ic (bM 15) [(0,au a),(1,AV.ptr 0 0 [] 0),(2,AV.bool false),(3,AV.ptr 1 0 [] 0),(5,au a),(6,AV.bn 171 [AV.ptr 2 0 [] 0])]
 aR (aC u) (ak (!bO u) (K2 [b 48 (au a),b 171 (AV.lit u),Obj.dead,Dn.Obj.loop (iM Tryz.prog 96 3 LoopState.done (some (Code.exit 0)) c)]) (Q
 [b 48 (au a),b 171 (AV.lit Value.nilIface),Obj.dead,Dn.Obj.loop (iM Tryz.prog 96 3 LoopState.ready none c)]))):=by kernel_rfl
noncomputable abbrev VZ κ a:=[.box 48 (au a), .box 171 (.lit (aB κ false)), .dead,VI κ a .done (some (.exit 0))]
def vz(a:dk):Rl:=⟨⟨a.rel,aa a.hl⟩,dv a.bl⟩
theorem k16 κ a xs:(AV.cf 0::fP (iU (b6 (pX κ a) [.ptr 2 0 [] 0])) [.ptr 2 0 [] 0],Obj.ext (some xs)::gx (iU (b6 (pX κ a) [.ptr 2 0 [] 0])) (gu (pX κ a) (b6 (pX κ a) [.ptr 2 0 [] 0])))=Ny {a with xs:=xs}:=by kernel_rfl
theorem o16 κ a:mL (pX κ a) [.ptr 2 0 [] 0]=true:=by kernel_rfl
noncomputable def VQ(κ:Kp):eK:=fun b st K=>∃a,(b,st)=([AV.ptr 2 0 [] 0],pX κ a)/\(a.hl.length<=aW/\a.bl.length<=aW)/\ak (ba (vz a)) (K (FO κ a)) (K (VZ κ a))
theorem JW κ:(VQ κ).gn:=by
 rintro b st K f g ⟨a,c,d,e⟩;refine⟨a,c,d,?_⟩
 grind [ad]
theorem call45 κ a st K(h:aO Ny (EF κ) PV a st K):(TD κ).call 171 a st K:=h
theorem ad4 κ:jk (TD κ) 12 171 (VQ κ):=by
 rintro j st K ⟨a,k,g,f⟩;obtain⟨rfl,rfl⟩:=Prod.mk.inj k;rw[ad] at f;refine⟨mW κ (tr (vz a)),fun c st'=>∃l,c=mW κ l/\st'=FO κ a/\ba (vz a)=l.all id,⟨o16 κ a,?_,?_,?_,?_⟩⟩
 ·refine call45 κ _ _ _ ?_
  refine⟨{a with xs:=mW κ (tr (vz a))},?_,⟨g.1,g.2,rfl⟩,fun st' h=>h⟩;exact k16 κ a _
 ·rw[show(TD κ).P=Pr κ from rfl,show(pX κ a).length=4 from rfl,s16]
  exact⟨_,rfl,rfl,Fm _⟩
 ·rintro m i st' ⟨l,d,rfl,e⟩
  cases l with
  |nil=>cases d
  |cons b l=>
   simp only[mW,ap6,List.cons.injEq,AV.aJ.injEq] at d;obtain⟨rfl,rfl⟩:=d;rw[show(TD κ).P=Pr κ from rfl,show(pX κ a).length=4 from rfl];refine Eq.mpr (r16 κ a (aB κ b) _ _) ?_;rw[nz,qH];cases b with
   |true=>exact⟨l,rfl,rfl,by rw[e];rfl⟩
   |false=>exact f.2 (by rw[e];rfl)
 ·rintro st' ⟨l,d,rfl,e⟩
  cases l with
  |nil=>exact f.1 (by rw[e];rfl)
  |cons b l=>cases d
def al6:List Nat:=[171]
noncomputable def Wn κ:=((TD κ).addRange 96 3 171 (VQ κ)).cQ fun f=>iV f al6
theorem am6 κ:aE (Wn κ):=((e45 _).addRange (m45 _) (ad4 _)).cQ _
theorem ak5 κ:aj (Wn κ):=((m45 _).addRange (JW _)).cQ _
end Go.Proofs.YtioeffnadipbaaaGreatDoor
namespace Go.Proofs.YtioeffnadipbaaaGreatDoor
open Go Go.Dn Go.Rl Go.Proofs Go.RowKit Go.Extern.Stop Go.Stop Go.Extern
theorem wi v w:(Extern.ReflectliteType.typeOf #[.iface 273 v]).run Tryz.prog w= .ok (.iface 257 (.agg #[.pointer (some ⟨5,273,none⟩)])) w:=by kernel_rfl
theorem nC w:((Extern.ReflectliteType.method fun t=>do Go.Extern.Rtype.noPackHeld "Comparable" t;(fun a=>Value.bool a.comparable)<$>typeInfo t) #[.agg #[.pointer (some ⟨5,273,none⟩)]]).run Tryz.prog w= .ok (.bool true) w:=by kernel_rfl
theorem iD v w:(Go.method 411 257 v "Comparable").run Tryz.prog w= .ok (222,v) w:=by kernel_rfl
theorem F2:(Tryz.prog.info? 273).map (·.comparable)=some true:=by kernel_rfl
theorem Gs:(Tryz.prog.info? 299).map (·.size)=some 1:=by kernel_rfl
set_option maxRecDepth 4000 in
theorem Hn(a:Addr)(w:World):
  Calls Tryz.prog 108 #[.iface 273 (.pointer (some a)), .iface 273 (.pointer (some a))] w fun e w'=>e= .returned (.bool true)/\w'=w:=by
 obtain⟨i,hi,hcmp⟩:=Option.map_eq_some_iff.1 F2;obtain⟨j,hj,hjs⟩:=Option.map_eq_some_iff.1 Gs;have h8:= @run_callFunc_extern Tryz.prog 157 _ Extern.ReflectliteType.typeOf Tryz.func157 (by kernel_rfl) (by kernel_rfl) (by kernel_rfl) (by kernel_rfl);have h32:= @run_callFunc_extern Tryz.prog 222 _ (Extern.ReflectliteType.method fun t=>do Go.Extern.Rtype.noPackHeld "Comparable" t;pure (.bool (←typeInfo t).comparable)) Tryz.func222 (by kernel_rfl) (by kernel_rfl) (by kernel_rfl) (by kernel_rfl);have tT:=wi;have cT:=nC;have mR:=iD;have heq:=run_eql_iface_ptr_same (P:=Tryz.prog) w a Tryz.underlying171 Tryz.underlying273 hi hcmp hj
 go_enter Tryz.func108,Tryz.ntmps108
 go_wp2
 refine wp_loop_rounds 1 ?_;rw[rounds_succ]
 go_wp2
 go_ret
 exact⟨rfl,rfl⟩
theorem Mj b w:
  Calls Tryz.prog 108 #[.nilIface, .iface 273 (.pointer (some b))] w fun e a=>e= .returned (.bool false)/\a=w:=by
 have c:=run_eql_iface_nil_left  w 273 (.pointer (some b)) Tryz.underlying171
 go_wp2
 go_ret
 simp
def gIs:List AV->Option (Bool×AV)
 |[.lit .nilIface, .lit (.iface 273 (.pointer (some _)))]=>some (true, .bool false)
 |[.lit (.iface 273 (.pointer (some a))), .lit (.iface 273 (.pointer (some b)))]=>some (decide (a=b), .bool true)
 |_=>none
theorem xH{C u v c}(h:MT C [.lit u, .lit v] c.toList):c= #[u,v]:=by
 obtain⟨l⟩:=c;match l,h with
 |[a,b],h=>
  simp only[MT] at h;have e:Rel C (.lit u) a:=⟨h.1,h.2.1,h.2.2.1⟩
  have d:Rel C (.lit v) b:=⟨h.2.2.2.1,h.2.2.2.2.1,h.2.2.2.2.2.1⟩
  rw[aZ e,aZ d]
 |[],h=>simp[MT] at h
 |[_],h=>simp[MT] at h
 |_::_::_::_,h=>simp[MT] at h
theorem qIs κ:gr (Pr κ) 108 gIs:=by
 intro c x i a;unfold gIs at a;split at a
 ·simp only[ao2,ao8,true_and] at a
  subst a;refine⟨_,_,Tryz.func108,rfl,rfl,rfl,fun C h f g b=>?_⟩;rw[xH b];refine(callsIn_wide.2 (Mj _ C.w)).mono ?_;rintro e d ⟨rfl,rfl⟩;exact⟨rfl,ik.refl _⟩
 ·simp only[ao2,ao8,an9] at a
  obtain⟨rfl,rfl⟩:=a;refine⟨_,_,Tryz.func108,rfl,rfl,rfl,fun C h f g b=>?_⟩;rw[xH b];refine(callsIn_wide.2 (Hn _ C.w)).mono ?_;rintro e d ⟨rfl,rfl⟩;exact⟨rfl,ik.refl _⟩
 ·cases a
end Go.Proofs.YtioeffnadipbaaaGreatDoor
namespace Go.Proofs.YtioeffnadipbaaaGreatDoor
open Go Go.Dn Go.Rl Go.Proofs
attribute [local irreducible] a9 vc
set_option maxRecDepth 20000
noncomputable def Y3 κ:=(Wn κ).aK 108 gIs
theorem eIs κ:aE (Y3 κ):=(am6 _).eT (qIs _)
theorem mIs κ:aj (Y3 κ):=(ak5 _).aK
theorem y16 κ a K:(a9 (Y3 κ) 12 96 [au a] [] K)=(
 letI b:=AV.ptr
 letI c:=AV.bool
 letI d:=Obj.box
 ∃(e0:dk),([b 2 0 [] 0],[d 48 (au a),d 171 (AV.lit Value.nilIface),d 48 (au a),Dn.Obj.loop (iM Tryz.prog 96 3 LoopState.ready none
 (ic (bM 15) [(0,au a),(1,b 0 0 [] 0),(2,c false),(3,b 1 0 [] 0),(5,au a),(6,AV.bn 171 [b 2 0 [] 0])]))])=([b 2 0 [] 0],
 [d 48 (au e0),d 171 (AV.lit Value.nilIface),d 48 (au e0),Dn.Obj.loop (iM Tryz.prog 96 3 LoopState.ready none (ic (bM 15) [(0,au e0),(1,
 b 0 0 [] 0),(2,c false),(3,b 1 0 [] 0),(5,au e0),(6,AV.bn 171 [b 2 0 [] 0])]))])/\(e0.hl.length<=9223372036854775807/\
 e0.bl.length<=9223372036854775807)/\ak (ba (vz e0)) (K (c true) []) (aR (decide (Kp.tree κ=Kp.tree κ)) (K (c false) []))):=by kernel_rfl
def g16:List AV->Option (Bool×AV)
 |[.agg [.agg [.lit (.string a), .ah 38 c], .ah 80 b, .lit (.int .i64 _)]]=>some (decide (c.length<=aW)&&decide (b.length<=aW), .bool (ba ⟨⟨a,aa c⟩,dv b⟩))
 |_=>none
theorem p16 κ:cg (Y3 κ) 12 96 g16:=by
 intro g x c;unfold g16 at c;split at c
 ·rename_i a d f b
  simp only[ao2,ao8,ao0,an9] at c;obtain⟨⟨i,h⟩,rfl⟩:=c;refine⟨_,rfl,rfl,?_⟩;rw[y16 κ ⟨[],[],a,d,f,b,0⟩];refine⟨⟨[],[],a,d,f,b,0⟩,rfl,⟨i,h⟩,?_⟩;rw[ad];refine⟨fun e=>?_,fun e=>?_⟩
  ·rw[show ba ⟨⟨a,aa d⟩,dv f⟩=true from e]
  ·rw[show ba ⟨⟨a,aa d⟩,dv f⟩=false from e]
   simp[aR]
 ·cases c
noncomputable def E16 κ:=(Y3 κ).aK 96 g16
theorem e16 κ:aE (E16 κ):=(eIs _).aK (mIs _) (p16 _)
theorem m16 κ:aj (E16 κ):=(mIs _).aK
def WH(l:List AV):List AV×List Dn.Obj:=([.ah 38 l],[])
def Wk n l:=bk (aa l)=n/\n<=100000
def OT(l:List AV):Out (AV×List Dn.Obj):= .one (.an 0 0 (ax (aa l)).length,[.row 9 (strs (ax (aa l)))])
def RV n:=aO WH (Wk n) OT
noncomputable def FQ κ r:=(E16 κ).aw 155 fun a st K=>∃m,m<r/\RV m a st K
theorem x31 κ r l i xs k I n K:(vc (FQ κ r) 12 155 none 0 (ae (Pr κ).toProgram 155 3) (sp 27 [(3, .an 0 0 k),(6, .ah 38 l),(7, .int l.length),(8, .int i)] [.row 9 xs]) (bj (FQ κ r) 155 3 0 I n K))=(
 letI a:=AV.ah
 letI c:=IntKind.wrap IntKind.i64 (i+(1:Int))
 letI b:=nth l i.toNat
 letI d:=i<(↑(l.length):Int)
 ak (decide d) (aR (decide ((0:Int)<=i)&&decide d) (ak (toInt (af b 0)==(1:Int)) (aR (decide ((k+1+1)*17<=70368744177664)) (∃(e2:Nat),e2<r/\∃(e1:List AV),letI e:=List.drop 0 (strs (ax (aa e1)));letI f:=List.length (ax (aa e1));letI g:=List.take f e;([a 38 (ag (af b 3))],aL)=([a 38 e1],aL)/\(bk (aa e1)=e2/\e2<=100000)/\aR (decide ((k+1+List.length g+1)*17<=70368744177664)) (∃(e0:Nat),e0<n/\I e0 (sp 27 [(3,AV.an 0 0 (k+1+List.length g)),(6,a 38 l),(7,AV.int (↑(l.length):Int)),(8,AV.int c)] [Obj.row 9 (List.take (k+1) (List.take k xs++[AV.str (toStr (af b 1))])++List.take f e)])))) (∃(e2:Nat),e2<r/\∃(e1:List AV),letI h:=List.drop 0 (strs (ax (aa e1)));letI j:=List.length (ax (aa e1));letI m:=List.take j h;([a 38 (ag (af b 3))],aL)=([a 38 e1],aL)/\(bk (aa e1)=e2/\e2<=100000)/\aR (decide ((k+List.length m+1)*17<=70368744177664)) (∃(e0:Nat),e0<n/\I e0 (sp 27 [(3,AV.an 0 0 (k+List.length m)),(6,a 38 l),(7,AV.int (↑(l.length):Int)),(8,AV.int c)] [Obj.row 9 (List.take k xs++List.take j h)]))))) (K (Exit.exit 0) (sp 27 [(3,AV.an 0 0 k)] [Obj.row 9 xs]))):=by kernel_rfl
abbrev Iy(a:List _×Int×List _):=sp 27 [(3, .an 0 0 a.2.2.length),(6, .ah 38 a.1),(7, .int a.1.length),(8, .int a.2.1)] [.row 9 (strs a.2.2)]
def Hk r(a:List _×Int×List ByteArray):=a.1.length<=aW/\0<=a.2.1/\a.2.1<=a.1.length/\bk (aa (a.1.drop a.2.1.toNat))<=r/\a.2.2.length+bk (aa (a.1.drop a.2.1.toNat))<=100000
def wT(a:List AV×Int×List ByteArray):Out (Exit×S):= .one (.exit 0,sp 27 [(3, .an 0 0 (a.2.2++ax (aa (a.1.drop a.2.1.toNat))).length)] [.row 9 (strs (a.2.2++ax (aa (a.1.drop a.2.1.toNat))))])
theorem Q4 l i(h:i<l.length):bk (aa (l.drop i))=1+bk (aa (ag (af (nth l i) 3)))+bk (aa (l.drop (i+1))):=by
 grind [eL,bk,dc,Tm.mP]
theorem NF l i(h:i<l.length):ax (aa (l.drop i))=(bif decide (toInt (af (nth l i) 0)=1) then[toStr (af (nth l i) 1)] else[])++ax (aa (ag (af (nth l i) 3)))++ax (aa (l.drop (i+1))):=by
 grind [eL,ax,dc,Tm.vars]
theorem l31 κ r:aX (FQ κ r) 12 155 3 (aG 0 Iy (Hk r) wT):=by
 refine aD (fun a=>a.1.length - a.2.1.toNat) ?_;rintro⟨l,i,c⟩ K ⟨d,f,j,k,m⟩ b;simp only at d f j k m;rw[show(FQ κ r).P=Pr κ from rfl];refine Eq.mpr (x31 κ r l i (strs c) c.length _ _ K) ?_;simp only[ao9,cM];simp only[aW] at d;simp only[ad,ai,an9,ao1,ao0,beq_iff_eq,beq_eq_false_iff_ne];refine⟨fun g=>⟨⟨f,g⟩,?_⟩,fun g=>?_⟩
 ·have p:=Q4 l i.toNat (by omega)
  have h:=NF l i.toNat (by omega);have o:=cF (aa (ag (af (nth l i.toNat) 3)));rw[az (n:=i+1) (by omega) (by omega)];refine⟨fun e=>⟨by omega,_,?_,ag (af (nth l i.toNat) 3),rfl,⟨rfl,by omega⟩,?_,_,?_,(l,i+1,c++[toStr (af (nth l i.toNat) 1)]++ax (aa (ag (af (nth l i.toNat) 3)))),?_,⟨by simpa[aW] using d,by simp only;omega,by simp only;omega,?_,?_⟩,rfl,?_⟩,
   fun e=>⟨_,?_,ag (af (nth l i.toNat) 3),rfl,⟨rfl,by omega⟩,?_,_,?_,(l,i+1,c++ax (aa (ag (af (nth l i.toNat) 3)))),?_,⟨by simpa[aW] using d,by simp only;omega,by simp only;omega,?_,?_⟩,rfl,?_⟩⟩
  all_goals first
   |omega
   |(simp only[bd];omega)
   |(simp only[show(i+1).toNat=i.toNat+1 by omega,ap4,List.length_cons,List.length_nil];omega)
   |skip
  ·simp only[Iy,jr,bd,ap4,List.length_cons,List.length_nil]
   rw[List.take_of_length_le (by simp[bd])];rfl
  ·simp only[wT,Out.run,show(i+1).toNat=i.toNat+1 by omega] at b⊢
   rw[h,ao5 e] at b;simpa[List.append_assoc] using b
  ·simp only[Iy,jr,bd,ap4]
  ·simp only[wT,Out.run,show(i+1).toNat=i.toNat+1 by omega] at b⊢
   rw[h,ao3 e] at b;simpa[List.append_assoc] using b
 ·simp only[wT,Out.run] at b
  rw[ao7 (by omega)] at b;simpa[aa,ax] using b
noncomputable def Mf κ r:=(FQ κ r).aq 155 3 (aG 0 Iy (Hk r) wT)
theorem y31 κ r l K:(a9 (Mf κ r) 12 155 [.ah 38 l] [] K)=(
 ae (Pg.toProgram (Env.P (FQ κ r))) 155 3=ae (Pg.toProgram (Env.P (FQ κ r))) 155 3/\∃(a:List AV×Int×List ByteArray),letI b:=aa (List.drop a.2.1.toNat a.1);sp 27 [(3,AV.an 0 0 0),(6,AV.ah 38 l),(7,AV.int (↑(l.length):Int)),(8,AV.int 0)] [Obj.row 9 []]=sp 27 [(3,AV.an 0 0 (List.length a.2.2)),(6,AV.ah 38 a.1),(7,AV.int (↑(a.1.length):Int)),(8,AV.int a.2.1)] [Obj.row 9 (strs a.2.2)]/\(a.1.length<=9223372036854775807/\(0:Int)<=a.2.1/\a.2.1<=(↑(a.1.length):Int)/\bk b<=r/\List.length a.2.2+bk b<=100000)/\K (AV.an 0 0 (List.length (a.2.2++ax b))) [Obj.row 9 (strs (a.2.2++ax b))]):=by kernel_rfl
theorem KW n:(RV n).gn:=aH
theorem ag9 κ r(d: ∀a st K,(∃m,m<r/\RV m a st K)->bZ (Pr κ) 155 a st K):aE (Mf κ r)/\aj (Mf κ r)/\(Mf κ r).P=Pr κ:=
 have h:=(e16 _).fT d;have b:=(m16 _).aw fun _ _ _ _ e ⟨m,f,c⟩=>⟨m,f,KW m _ _ _ _ e c⟩
 ⟨h.aq b (l31 _ r),b.aq aI,rfl⟩
theorem c31 κ r:bg (Mf κ r) 12 155 (RV r):=by
 refine aU ?_;rintro l K ⟨b,c⟩ a;refine Eq.mpr (y31 κ r l K) ?_;have:=gF (aa l)
 rw[eE] at this;refine⟨rfl,(l,0,[]),rfl,⟨by simp only;omega,by simp only;omega,by simp only;omega,?_,?_⟩,?_⟩
 ·grind
 ·grind
 ·exact a
def bF l:=bk (aa l)<=100000
theorem q31 κ: ∀a st K,aO WH bF OT a st K->bZ (Pr κ) 155 a st K:=by
 rintro a st K ⟨l,c,d,b⟩;exact aE.pK _ _ (ag9 _) (c31 _) _ _ _ K ⟨l,c,⟨rfl,d⟩,b⟩
noncomputable def Q1 κ:=(E16 κ).aw 155 (aO WH bF OT)
theorem e31 κ:aE (Q1 κ):=(e16 _).fT (q31 _)
theorem m31 κ:aj (Q1 κ):=(m16 _).aw aH
theorem x23 κ l i es I n K:(vc (Q1 κ) 12 112 none 1 (ae (Pr κ).toProgram 112 1) (sp 15 [(0, .mp 0),(6, .ah 9 l),(7, .int l.length),(8, .int i)] [.map 9 4 es]) (bj (Q1 κ) 112 1 1 I n K))=(
 letI a:=i<(↑(l.length):Int)
 ak (decide a) (aR (decide ((0:Int)<=i)&&decide a) (∃(e0:Nat),e0<n/\I e0 (sp 15 [(0,AV.mp 0),(6,AV.ah 9 l),(7,AV.int (↑(l.length):Int)),(8,
 AV.int (IntKind.wrap IntKind.i64 (i+(1:Int))))] [Dn.Obj.map 9 4 (eD es (Value.string (toStr (nth l i.toNat))) (AV.bool true))]))) (K (Exit.exit 0) (sp 15 []
 [Dn.Obj.map 9 4 es]))):=by kernel_rfl
abbrev SO(a:List _×Int×List _):=sp 15 [(0, .mp 0),(6, .ah 9 a.1),(7, .int a.1.length),(8, .int a.2.1)] [.map 9 4 a.2.2]
def u9(a:List AV×Int×List (Value×AV)):=a.1.length<=aW/\0<=a.2.1/\a.2.1<=a.1.length
def Bg(a:List AV×Int×List (Value×AV)):Out (Exit×S):= .one (.exit 0,sp 15 [] [.map 9 4 (fF a.2.2 (a.1.drop a.2.1.toNat))])
theorem l23 κ:aX (Q1 κ) 12 112 1 (aG 1 SO u9 Bg):=by
 refine aD (fun a=>a.1.length - a.2.1.toNat) ?_;rintro⟨l,i,f⟩ K ⟨b,d,g⟩ c;simp only at b d g;rw[show(Q1 κ).P=Pr κ from rfl];refine Eq.mpr (x23 κ l i f _ _ K) ?_;simp only[aW] at b;simp only[ad,ai,an9,ao1,ao0];refine⟨fun e=>⟨⟨d,e⟩,?_⟩,fun e=>?_⟩
 ·rw[az (n:=i+1) (by omega) (by omega)]
  refine⟨_,?_,(l,i+1,eD f (.string (toStr (nth l i.toNat))) (.lit (.bool true))),rfl,⟨by simpa[aW] using b,by simp only;omega,by simp only;omega⟩,rfl,?_⟩
  ·simp only;omega
  grind [Bg,Out.run,List.drop_eq_getElem_cons,fF,aV]
 ·simp only[Bg,Out.run] at c
  rw[ao7 (by omega)] at c;exact c
noncomputable def Oz κ:=(Q1 κ).aq 112 1 (aG 1 SO u9 Bg)
theorem ah1 κ:aE (Oz κ):=(e31 _).aq (m31 _) (l23 _)
theorem ab2 κ:aj (Oz κ):=(m31 _).aq aI
theorem y23 κ l es K:(a9 (Oz κ) 12 112 [.mp 0, .ah 9 l] [.map 9 4 es] K)=(
 letI a:=Dn.Obj.map
 letI b:=Pg.toProgram (Env.P (Q1 κ))
 ae b 112 1=ae b 112 1/\∃(e0:List AV×Int×List (Value×AV)),sp 15 [(0,AV.mp 0),(6,AV.ah 9 l),(7,AV.int (↑(l.length):Int)),(8,AV.int 0)]
 [a 9 4 es]=sp 15 [(0,AV.mp 0),(6,AV.ah 9 e0.1),(7,AV.int (↑(e0.1.length):Int)),(8,AV.int e0.2.1)] [a 9 4 e0.2.2]/\(e0.1.length<=
 9223372036854775807/\(0:Int)<=e0.2.1/\e0.2.1<=(↑(e0.1.length):Int))/\K (AV.aJ []) [a 9 4 (fF e0.2.2 (List.drop e0.2.1.toNat e0.1))]):=by kernel_rfl
def R8(a:List AV×List (Value×AV)):List AV×List Dn.Obj:=([.mp 0, .ah 9 a.1],[.map 9 4 a.2])
def bq(a:List AV×List (Value×AV)):=a.1.length<=aW
def Ud(a:List AV×List (Value×AV)):Out (AV×List Dn.Obj):= .one (.aJ [],[.map 9 4 (fF a.2 a.1)])
theorem c23 κ:bg (Oz κ) 12 112 (aO R8 bq Ud):=by
 refine aU ?_;rintro⟨l,b⟩ K c a;refine Eq.mpr (y23 _ l _ K) ?_;exact⟨rfl,(l,0,b),rfl,⟨c,by simp,by simp⟩,a⟩
noncomputable def RM κ:=(Oz κ).aw 112 (aO R8 bq Ud)
theorem e23 κ:aE (RM κ):=(ah1 _).aw (ab2 _) (c23 _)
theorem m23 κ:aj (RM κ):=(ab2 _).aw aH
theorem x41 κ l i es I n K:(vc (RM κ) 12 161 none 2 (ae (Pr κ).toProgram 161 2) (sp 19 [(0, .ah 9 l),(1, .bn 183 [.ptr 1 0 [] 0]),(7, .int l.length),(8, .int i)] [.map 9 4 es, .box 178 (.mp 0)]) (bj (RM κ) 161 2 2 I n K))=(
 letI a:=Dn.Obj.map
 letI b:=i<(↑(l.length):Int)
 ak (decide b) (aR (decide ((0:Int)<=i)&&decide b) (ak (!Dn.toBool (cX es (Value.string (toStr (nth l i.toNat))) (AV.bool false))) (K Exit.ret (sp 19 [(4,
 AV.int i)] [a 9 4 es,Obj.box 178 (AV.mp 0)])) (∃(e0:Nat),e0<n/\I e0 (sp 19 [(0,AV.ah 9 l),(1,AV.bn 183 [AV.ptr 1 0 [] 0]),(7,AV.int
 (↑(l.length):Int)),(8,AV.int (IntKind.wrap IntKind.i64 (i+(1:Int))))] [a 9 4 es,Obj.box 178 (AV.mp 0)])))) (K (Exit.exit 0) (sp 19 []
 [a 9 4 es,Obj.box 178 (AV.mp 0)]))):=by kernel_rfl
abbrev M3(a:List (Value×AV)):List Dn.Obj:=[.map 9 4 a, .box 178 (.mp 0)]
abbrev Tu(a:List _×Int×List _):=sp 19 [(0, .ah 9 a.1),(1, .bn 183 [.ptr 1 0 [] 0]),(7, .int a.1.length),(8, .int a.2.1)] (M3 a.2.2)
def A9(a:List AV×Int×List (Value×AV)):Out (Exit×S):=
 .ak (gg a.2.2 (a.1.drop a.2.1.toNat)) (.one (.exit 0,sp 19 [] (M3 a.2.2))) (.all (fun j=>0<=j) fun j=> .one (.ret,sp 19 [(4, .int j)] (M3 a.2.2)))
theorem l41 κ:aX (RM κ) 12 161 2 (aG 2 Tu u9 A9):=by
 refine aD (fun a=>a.1.length - a.2.1.toNat) ?_;rintro⟨l,i,c⟩ K ⟨d,f,h⟩ b;simp only at d f h;rw[show(RM κ).P=Pr κ from rfl];refine Eq.mpr (x41 κ l i c _ _ K) ?_;simp only[aW] at d;simp only[A9,Out.run,ad] at b;simp only[ad,ai,an9,ao1,ao0,Bool.not_eq_true',ap1];refine⟨fun g=>⟨⟨f,g⟩,?_⟩,fun g=>?_⟩
 ·rw[ap0 (show i.toNat<l.length by omega),←aV l i.toNat (by omega)] at b
  simp only[gg,List.all_cons] at b;refine⟨fun e=>?_,fun e=>?_⟩
  ·grind [yC,toStr,nth]
  ·have j:yC c (toStr (nth l i.toNat))=true:=e
   rw[j,ap5] at b;rw[az (n:=i+1) (by omega) (by omega)];refine⟨_,?_,(l,i+1,c),rfl,⟨by simpa[aW] using d,by simp only;omega,by simp only;omega⟩,rfl,?_⟩
   ·simp only;omega
   ·simp only[A9,Out.run,ad,show(i+1).toNat=i.toNat+1 by omega]
    exact b
 ·rw[ao7 (by omega)] at b
  exact b.1 rfl
noncomputable def LC κ:=(RM κ).aq 161 2 (aG 2 Tu u9 A9)
theorem ai7 κ:aE (LC κ):=(e23 _).aq (m23 _) (l41 _)
theorem XE κ:aj (LC κ):=(m23 _).aq aI
theorem y30 κ l es K:(a9 (LC κ) 12 154 [.mp 0, .ah 9 l] [.map 9 4 es] K)=(
 letI b:=Dn.Obj.map
 ae (Pg.toProgram (Env.P (RM κ))) 161 2=ae (Pg.toProgram (Env.P (RM κ))) 161 2/\∃(a:List AV×Int×List (Value×AV)),sp 19 [(0,AV.ah 9
 l),(1,AV.bn 183 [AV.ptr 1 0 [] 0]),(7,AV.int (↑(l.length):Int)),(8,AV.int 0)] [b 9 4 es,Obj.box 178 (AV.mp 0)]=sp 19 [(0,AV.ah 9 a.1),
 (1,AV.bn 183 [AV.ptr 1 0 [] 0]),(7,AV.int (↑(a.1.length):Int)),(8,AV.int a.2.1)] [b 9 4 a.2.2,Obj.box 178 (AV.mp 0)]/\(a.1.length<=
 9223372036854775807/\(0:Int)<=a.2.1/\a.2.1<=(↑(a.1.length):Int))/\ak (gg a.2.2 (List.drop a.2.1.toNat a.1)) (K (AV.bool true) [b 9 4
 a.2.2]) (∀(y:Int),(0:Int)<=y->K (AV.lit (Value.bool !decide (y>=(0:Int)))) [b 9 4 a.2.2])):=by kernel_rfl
def Pz(a:List AV×List (Value×AV)):Out (AV×List Dn.Obj):= .one (.bool (gg a.2 a.1),[.map 9 4 a.2])
theorem c30 κ:bg (LC κ) 12 154 (aO R8 bq Pz):=by
 refine aU ?_;rintro⟨l,a⟩ K b c;refine Eq.mpr (y30 κ l a K) ?_;refine⟨rfl,(l,0,a),rfl,⟨b,by simp only;omega,by simp⟩,?_⟩
 grind [Pz,Out.run,ad]
noncomputable def RW κ:=(LC κ).aw 154 (aO R8 bq Pz)
theorem e30 κ:aE (RW κ):=(ai7 _).aw (XE _) (c30 _)
theorem m30 κ:aj (RW κ):=(XE _).aw aH
theorem x62 κ l i vs I n K:(vc (RW κ) 12 200 none 0 (ae (Pr κ).toProgram 200 3) (sp 23 [(3, .an 0 0 vs.length),(7, .ah 38 l),(8, .int l.length),(9, .int i)] [.row 9 (strs vs)]) (bj (RW κ) 200 3 0 I n K))=(
 letI a:=AV.int
 letI b:=nth l i.toNat
 letI c:=IntKind.wrap IntKind.i64 (i+(1:Int))
 letI d:=i<(↑(l.length):Int)
 ak (decide d) (aR (decide ((0:Int)<=i)&&decide d) (ak (decide (toInt (af b 0)>=(5:Int))) (∃(e1:List AV),letI e:=List.drop 0 (strs (ax (aa e1)));letI f:=List.length (ax (aa e1));letI g:=List.take f e;([AV.ah 38 [AV.agg [a (toInt (af b 0)),AV.str (toStr (af b 1)),a (toInt (af b 2)),AV.ah 38 (ag (af b 3))]]],aL)=([AV.ah 38 e1],aL)/\bF e1/\aR (decide ((vs.length+List.length g+1)*17<=70368744177664)) (∃(e0:Nat),e0<n/\I e0 (sp 23 [(3,AV.an 0 0 (vs.length+List.length g)),(7,AV.ah 38 l),(8,a (↑(l.length):Int)),(9,a c)] [Obj.row 9 (List.take vs.length (strs vs)++List.take f e)]))) (∃(e0:Nat),e0<n/\I e0 (sp 23 [(3,AV.an 0 0 vs.length),(7,AV.ah 38 l),(8,a (↑(l.length):Int)),(9,a c)] [Obj.row 9 (strs vs)])))) (K (Exit.exit 0) (sp 23 [(3,AV.an 0 0 vs.length)] [Obj.row 9 (strs vs)]))):=by kernel_rfl
abbrev L3(a:List _×Int×List _):=sp 23 [(3, .an 0 0 a.2.2.length),(7, .ah 38 a.1),(8, .int a.1.length),(9, .int a.2.1)] [.row 9 (strs a.2.2)]
def Hr(a:List _×Int×List ByteArray):=a.1.length<=aW/\0<=a.2.1/\a.2.1<=a.1.length/\a.2.2.length+bk (aa (a.1.drop a.2.1.toNat))<=100000
def xv(a:List AV×Int×List ByteArray):Out (Exit×S):= .one (.exit 0,sp 23 [(3, .an 0 0 (a.2.2++dO (aa (a.1.drop a.2.1.toNat))).length)] [.row 9 (strs (a.2.2++dO (aa (a.1.drop a.2.1.toNat))))])
theorem l62 κ:aX (RW κ) 12 200 3 (aG 0 L3 Hr xv):=by
 refine aD (fun a=>a.1.length - a.2.1.toNat) ?_;rintro⟨l,i,e⟩ K ⟨c,h,k,m⟩ b;simp only at c h k m;rw[show(RW κ).P=Pr κ from rfl];refine Eq.mpr (x62 κ l i e _ _ K) ?_;simp only[ao9,cM];simp only[aW] at c;simp only[ad,ai,an9,ao1,ao0];refine⟨fun j=>⟨⟨h,j⟩,?_⟩,fun j=>?_⟩
 ·have g:=PH l i.toNat (by omega)
  have p:bk (aa (l.drop i.toNat))=bk [cH (nth l i.toNat)]+bk (aa (l.drop (i.toNat+1))):=by
   rw[eL l i.toNat (by omega)];simp only[bk,Nat.add_zero]
  have o:=cF [cH (nth l i.toNat)];have f:aa [.agg [.int (toInt (af (nth l i.toNat) 0)), .lit (.string (toStr (af (nth l i.toNat) 1))), .int (toInt (af (nth l i.toNat) 2)), .ah 38 (ag (af (nth l i.toNat) 3))]]=[cH (nth l i.toNat)]:=by
   simp only[aa,ap6,List.map_nil];rw[rK,←dc]
  rw[az (n:=i+1) (by omega) (by omega)];refine⟨fun d=>⟨_,rfl,?_,?_,_,?_,(l,i+1,e++ax [cH (nth l i.toNat)]),?_,⟨by simpa[aW] using c,by simp only;omega,by simp only;omega,?_⟩,rfl,?_⟩,fun d=>⟨_,?_,(l,i+1,e),rfl,⟨by simpa[aW] using c,by simp only;omega,by simp only;omega,?_⟩,rfl,?_⟩⟩
  ·simp only[bF,f];omega
  ·rw[f,bd];omega
  ·simp only;omega
  ·rw[f];simp only[L3,jr,bd,ap4]
  ·simp only[show(i+1).toNat=i.toNat+1 by omega,ap4];omega
  ·simp only[xv,Out.run,show(i+1).toNat=i.toNat+1 by omega] at b⊢
   rw[g,ao5 (show 5<=toInt (af (nth l i.toNat) 0) from d)] at b;simpa[List.append_assoc] using b
  ·simp only;omega
  ·simp only[show(i+1).toNat=i.toNat+1 by omega];omega
  ·simp only[xv,Out.run,show(i+1).toNat=i.toNat+1 by omega] at b⊢
   rw[g,ao3 (show ¬ 5<=toInt (af (nth l i.toNat) 0) from d)] at b;simpa[List.append_assoc] using b
 ·simp only[xv,Out.run] at b
  rw[ao7 (by omega)] at b;simpa[aa,dO] using b
noncomputable def NH κ:=(RW κ).aq 200 3 (aG 0 L3 Hr xv)
theorem al8 κ:aE (NH κ):=(e30 _).aq (m30 _) (l62 _)
theorem Xv κ:aj (NH κ):=(m30 _).aq aI
theorem y62 κ s l K:(a9 (NH κ) 12 200 [.agg [.lit (.string s), .ah 38 l]] [] K)=(
 ae (Pg.toProgram (Env.P (RW κ))) 200 3=ae (Pg.toProgram (Env.P (RW κ))) 200 3/\∃(a:List AV×Int×List ByteArray),letI b:=aa (List.drop a.2.1.toNat a.1);sp 23 [(3,AV.an 0 0 0),(7,AV.ah 38 l),(8,AV.int (↑(l.length):Int)),(9,AV.int 0)] [Obj.row 9 []]=sp 23 [(3,AV.an 0 0 (List.length a.2.2)),(7,AV.ah 38 a.1),(8,AV.int (↑(a.1.length):Int)),(9,AV.int a.2.1)] [Obj.row 9 (strs a.2.2)]/\(a.1.length<=9223372036854775807/\(0:Int)<=a.2.1/\a.2.1<=(↑(a.1.length):Int)/\List.length a.2.2+bk b<=100000)/\K (AV.an 0 0 (List.length (a.2.2++dO b))) [Obj.row 9 (strs (a.2.2++dO b))]):=by kernel_rfl
def Yg(a:ByteArray×List AV):List AV×List Dn.Obj:=([.agg [.lit (.string a.1), .ah 38 a.2]],[])
def j6(a:ByteArray×List _):=bk (aa a.2)<=100000
def Tn(a:ByteArray×List AV):Out (AV×List Dn.Obj):= .one (.an 0 0 (dO (aa a.2)).length,[.row 9 (strs (dO (aa a.2)))])
theorem c62 κ:bg (NH κ) 12 200 (aO Yg j6 Tn):=by
 refine aU ?_;rintro⟨s,l⟩ K a b;simp only[j6] at a;refine Eq.mpr (y62 κ s l K) ?_;have:=gF (aa l)
 rw[eE] at this;refine⟨rfl,(l,0,[]),rfl,⟨by simp only;omega,by simp,by simp only;omega,?_⟩,?_⟩
 ·grind
 ·exact b
noncomputable def XJ κ:=(NH κ).aw 200 (aO Yg j6 Tn)
theorem e62 κ:aE (XJ κ):=(al8 _).aw (Xv _) (c62 _)
theorem m62 κ:aj (XJ κ):=(Xv _).aw aH
structure LA where
 op:Int
 s:ByteArray
 l:List AV
 o1:Int
 s1:ByteArray
 n1:Int
 l1:List AV
 o2:Int
 s2:ByteArray
 n2:Int
 l2:List AV
abbrev LA.av(a:LA):AV:= .agg [.int a.op, .agg [.lit (.string a.s), .ah 38 a.l], .agg [.int a.o1, .lit (.string a.s1), .int a.n1, .ah 38 a.l1], .agg [.int a.o2, .lit (.string a.s2), .int a.n2, .ah 38 a.l2]]
theorem y21 κ(a:LA) K:(a9 (XJ κ) 12 137 [a.av] [] K)=(
 K (AV.bool (decide (a.op>=(7:Int)))) []):=by kernel_rfl
def g21:List AV->Option (Bool×AV)
 |[.agg [.lit (.int .i64 a), .agg [.lit (.string _), .ah 38 _], .agg [.lit (.int .i64 _), .lit (.string _), .lit (.int .i64 _), .ah 38 _], .agg [.lit (.int .i64 _), .lit (.string _), .lit (.int .i64 _), .ah 38 _]]]=>some (true, .bool (decide (7<=a)))
 |_=>none
theorem p21 κ:cg (XJ κ) 12 137 g21:=by
 intro b x a;unfold g21 at a;split at a
 ·rename_i d s l e s1 f g h s2 i c
  simp only[ao2,ao8,true_and] at a;subst a;exact⟨_,rfl,rfl,Eq.mpr (y21 κ ⟨d,s,l,e,s1,f,g,h,s2,i,c⟩ _) rfl⟩
 ·cases a
noncomputable def Y2 κ:=(XJ κ).aK 137 g21
theorem e21 κ:aE (Y2 κ):=(e62 _).aK (m62 _) (p21 _)
theorem m21 κ:aj (Y2 κ):=(m62 _).aK
theorem y40 κ(a:LA) K:(a9 (Y2 κ) 12 160 [a.av] [] K)=(
 letI b:=AV.ah
 letI c:=∃(e1:List AV),letI d:=ax (aa e1);([b 38 [AV.agg [AV.int a.o1,AV.str a.s1,AV.int a.n1,b 38 a.l1],AV.agg [AV.int a.o2,AV.str a.s2,AV.int a.n2,b 38 a.l2]]],aL)=([b 38 e1],aL)/\bF e1/\∃(e0:List AV),letI e:=List.drop 0 (strs (ax (aa e0)));letI f:=List.length (ax (aa e0));letI g:=List.take f e;([b 38 a.l],aL)=([b 38 e0],aL)/\bF e0/\aR (decide ((List.length d+List.length g+1)*17<=70368744177664)) (K (AV.an 0 0 (List.length d+List.length g)) [Obj.row 9 (List.take (List.length d) (strs d)++List.take f e)])
 (c/\c/\c/\c)/\(c/\c/\c)/\(c/\c)/\c):=by kernel_rfl
def LA.lt(a:LA):Lt:=⟨a.op,⟨a.s,aa a.l⟩, .mk a.o1 a.s1 a.n1 (aa a.l1), .mk a.o2 a.s2 a.n2 (aa a.l2)⟩
def XI(a:LA):List AV×List Dn.Obj:=([a.av],[])
def gq(a:LA):Prop:=jT a.lt<=100000
def PS(a:LA):Out (AV×List Dn.Obj):= .one (.an 0 0 (eu a.lt).length,[.row 9 (strs (eu a.lt))])
theorem c40 κ:bg (Y2 κ) 12 160 (aO XI gq PS):=by
 refine aU ?_;rintro a K c e;refine Eq.mpr (y40 κ a K) ?_;simp only[and_self];simp only[gq,jT,LA.lt] at c;have b:aa [.agg [.int a.o1, .lit (.string a.s1), .int a.n1, .ah 38 a.l1], .agg [.int a.o2, .lit (.string a.s2), .int a.n2, .ah 38 a.l2]]=[.mk a.o1 a.s1 a.n1 (aa a.l1), .mk a.o2 a.s2 a.n2 (aa a.l2)]:=by
  simp only[aa,ap6,List.map_nil];rw[rK,rK];rfl
 have f:=cF (aa a.l);have d:=cF [.mk a.o1 a.s1 a.n1 (aa a.l1), .mk a.o2 a.s2 a.n2 (aa a.l2)];refine⟨_,rfl,?_,_,rfl,?_,?_⟩
 ·simp only[bF,b];omega
 ·simp only[bF];omega
 ·simp only[ao9,cM,b,bd]
  rw[ai,an9]
  grind [PS,Out.run,eu,LA.lt,jr,List.length_append]
noncomputable def Ze κ:=(Y2 κ).aw 160 (aO XI gq PS)
theorem e40 κ:aE (Ze κ):=(e21 _).aw (m21 _) (c40 _)
theorem m40 κ:aj (Ze κ):=(m21 _).aw aH
structure TA where
 o1:Int
 s1:ByteArray
 n1:Int
 l1:List AV
 o2:Int
 s2:ByteArray
 n2:Int
 l2:List AV
 es:List (Value×AV)
theorem y20 κ(a:TA) K:(a9 (Ze κ) 12 136 [.mp 0, .agg [.int a.o1, .lit (.string a.s1), .int a.n1, .ah 38 a.l1], .agg [.int a.o2, .lit (.string a.s2), .int a.n2, .ah 38 a.l2]] [.map 9 4 a.es] K)=(
 letI b:=Dn.Obj.map
 letI c:=K (AV.bool false) [b 9 4 a.es]
 ak (a.o1==(1:Int)) (ak (!Dn.toBool (cX a.es (Value.string a.s1) (AV.bool false))) (∃(e1:List AV),([AV.ah 38 [AV.agg [AV.int a.o2,AV.str a.s2,AV.int
 a.n2,AV.ah 38 a.l2]]],aL)=([AV.ah 38 e1],aL)/\bF e1/\∃(e0:List AV×List (Value×AV)),([AV.mp 0,AV.ah 9 (List.take (List.length (ax (aa e1)))
 (List.drop 0 (strs (ax (aa e1)))))],[b 9 4 a.es])=([AV.mp 0,AV.ah 9 e0.1],[b 9 4 e0.2])/\bq e0/\K (AV.bool (gg e0.2 e0.1)) [b
 9 4 e0.2]) c) c):=by kernel_rfl
def TA.x(a:TA):Tm:= .mk a.o1 a.s1 a.n1 (aa a.l1)
def TA.y(a:TA):Tm:= .mk a.o2 a.s2 a.n2 (aa a.l2)
def aa0(a:TA):List AV×List Dn.Obj:=([.mp 0, .agg [.int a.o1, .lit (.string a.s1), .int a.n1, .ah 38 a.l1], .agg [.int a.o2, .lit (.string a.s2), .int a.n2, .ah 38 a.l2]],[.map 9 4 a.es])
def jd(a:TA):=bk [a.y]<=100000
def S9(a:TA):Out (AV×List Dn.Obj):= .one (.bool (mh a.es a.x a.y),[.map 9 4 a.es])
theorem c20 κ:bg (Ze κ) 12 136 (aO aa0 jd S9):=by
 refine aU ?_;rintro a K d i;refine Eq.mpr (y20 κ a K) ?_;have e:aa [.agg [.int a.o2, .lit (.string a.s2), .int a.n2, .ah 38 a.l2]]=[a.y]:=by
  simp only[aa,ap6,List.map_nil];rw[rK];rfl
 have h:=cF [a.y];have b:K (.bool (decide (a.o1=1)&&(!yC a.es a.s1&&gg a.es (strs (ax [a.y]))))) [.map 9 4 a.es]:=i;simp only[jd] at d;simp only[ad,beq_iff_eq,beq_eq_false_iff_ne,Bool.not_eq_true',ap1];refine⟨fun f=>⟨fun g=>?_,fun g=>?_⟩,fun f=>?_⟩
 ·have c:yC a.es a.s1=false:=g
  rw[ao5 f,c] at b;refine⟨_,rfl,by simp only[bF,e];exact d,(strs (ax [a.y]),a.es),?_,?_,b⟩
  ·simp only[ao9,cM,e]
  ·simp only[bq,bd,aW];omega
 ·grind [yC,decide_eq_true]
 grind
noncomputable def E20 κ:=(Ze κ).aw 136 (aO aa0 jd S9)
theorem e20 κ:aE (E20 κ):=(e40 _).aw (m40 _) (c20 _)
theorem m20 κ:aj (E20 κ):=(m40 _).aw aH
end Go.Proofs.YtioeffnadipbaaaGreatDoor
