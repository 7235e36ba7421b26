import Derived.Test.YtioeffnadipbaaaGreatDoorDeP1
import Derived.Test.YtioeffnadipbaaaGreatDoorProg
import Derived.Test.YtioeffnadipbaaaGreatDoorChecked
import Derived.WalkKit
import Derived.LaidEql
import Derived.Stop.Asserts
import Derived.RowKitTokens
namespace Go.Proofs.YtioeffnadipbaaaGreatDoor
open Go Go.Dn Go.Rl Go.Proofs
attribute [local irreducible] a7 vc
set_option maxRecDepth 20000
def Xu:=[
 (3,[(17,[(1,none),(2,none),(5,none),(6,none),(8,none),(10,none),(11,none),(12,none)]),(18004,[(1,none),(2,none),(5,none),(6,none),(8,none)]),(18001,[(4,none)]),(8,[(1,none),(2,none),(5,none),(6,none),(8,none)]),(9002,[(1,none),(2,none),(5,none),(6,none)]),(9001,[(4,none)])]),
 (6,[(10,[(2,none),(7,none),(8,none),(10,none),(11,none),(12,none),(13,none)]),(11002,[(2,none),(7,none),(8,none),(10,none),(11,none),(12,none)])]),
 (7,[(13,[(7,none),(9,none),(11,none),(13,none)]),(14002,[(7,none)]),(14001,[(6,none)])]),
 (8,[(17,[(2,none),(5,none),(6,none),(13,none)]),(18004,[(5,none)]),(18001,[(4,none)]),(11,[(1,none),(2,none),(5,none),(6,none),(10,none)]),(12002,[(2,none),(5,none),(6,none)]),(12001,[(4,none)])]),
 (10,[(6,[(1,none),(2,none),(3,none),(7,none),(8,none),(9,none)]),(7002,[(1,none),(2,none),(3,none),(7,none),(8,none)])]),
 (12,[(22,[(1,none),(8,none),(9,none),(10,none)]),(23008,[(1,none),(8,none),(9,none)]),(23001,[(4,none)]),(16,[(1,none),(8,none),(9,none)]),(17006,[]),(17001,[(4,none)]),(8,[(1,none),(2,none),(5,none),(6,none),(7,none)]),(9004,[(1,none),(2,none),(5,none),(6,none)]),(4,[(1,none),(2,none),(5,none)]),(5002,[(1,none)]),(5001,[(4,none)])]),
 (16,[(9,[(0,none),(1,none),(5,none),(6,none)]),(10004,[(0,none),(1,none),(5,none)]),(10001,[(4,none)]),(4,[(0,none),(1,none),(5,none)]),(5002,[]),(5001,[(4,none)])]),
 (18,[(15,[(7,none),(10,none),(11,none),(13,none),(49,none),(50,none),(51,none)]),(16004,[(7,none),(10,none),(11,none),(13,none)]),(11,[(7,none),(10,some 35),(11,none),(12,none)]),(12002,[(10,none)])]),
 (19,[(17,[(2,none),(3,none),(11,none),(15,none),(50,none),(51,none),(52,none)]),(18007,[(2,none),(3,none),(11,none),(50,none),(51,none),(52,none)]),(15,[(2,none),(3,none),(11,none),(50,none),(51,none),(52,none)]),(16005,[(2,none),(11,none)]),(10,[(2,none),(3,none),(8,none),(11,some 51),(38,none),(39,none),(40,none)]),(11003,[(2,none),(3,none),(8,none),(11,none)])]),
 (20,[(4,[(0,none),(1,none),(5,none)]),(5002,[]),(5001,[(4,none)])]),
 (21,[(5,[(1,none),(3,none),(4,none)]),(6004,[(1,none),(3,none)]),(6001,[(2,none)]),(2,[(1,none),(3,none)]),(3002,[]),(3001,[(2,none)])]),
 (23,[(4,[(2,none),(18,none),(19,none),(20,none)]),(5002,[]),(5001,[(4,none)])]),
 (25,[(2,[(0,none),(1,none),(6,none)]),(3002,[]),(3001,[(4,none),(5,none)])]),
 (26,[(10,[(1,none),(2,none),(6,none),(7,none)]),(11004,[(1,none),(2,none),(6,none)]),(11001,[(4,none)]),(5,[(1,none),(2,none),(6,none)]),(6002,[]),(6001,[(4,none)])]),
 (29,[(8,[(1,none),(3,none),(5,none)]),(9004,[(1,none),(3,none)]),(3,[(1,none),(3,none),(4,none)]),(4002,[(1,none),(3,none)]),(4001,[(2,none)])]),
 (30,[(2,[(0,none),(3,none)]),(3002,[]),(3001,[(2,none)])]),
 (31,[(5,[(20,none),(21,none),(22,none)]),(6002,[]),(6001,[(2,none),(3,none)])]),
 (32,[(5,[(2,none),(3,none),(4,none),(7,none),(35,none),(36,none),(37,none)]),(6002,[(4,none),(7,none)])]),
 (35,[(4,[(2,none),(3,none),(6,some 72),(26,none),(27,none),(28,none)]),(5002,[(3,none),(6,none)])]),
 (37,[(2,[(0,none),(3,none)]),(3002,[]),(3001,[(2,none)])]),
 (42,[(8,[(3,none),(45,none),(46,none)]),(9004,[(3,none)])]),
 (43,[(2,[(0,none),(3,none),(11,none),(12,none),(13,none)]),(3002,[]),(3001,[(4,none),(5,none)])]),
 (44,[(6,[(0,none),(1,none),(5,none),(11,none),(12,none),(25,none)]),(7004,[(5,none)]),(7003,[(0,none),(1,none),(11,none),(12,none)]),(2,[(0,none),(1,none),(11,none),(12,none)]),(3002,[]),(3001,[(4,none)])]),
 (45,[(3,[(0,none),(1,none),(5,some 3),(11,none),(12,none)]),(4002,[(5,none)])]),
 (46,[(3,[(1,none),(2,none),(3,none),(4,none),(9,none),(16,none),(17,none),(18,none)]),(4002,[(9,none)]),(4001,[(8,none)])]),
 (47,[(3,[(3,none),(6,none),(7,none),(8,none)]),(4002,[(3,none)])]),
 (49,[(7,[(1,none),(2,none),(9,none),(10,none),(11,none),(21,none),(22,none),(23,none)]),(8004,[(1,none),(2,none),(9,none),(10,none),(11,none)]),(8001,[(4,none)]),(2,[(1,none),(2,none),(9,none),(10,none),(11,none)]),(3002,[(1,none)]),(3001,[(4,none)])]),
 (51,[(2,[(0,none),(3,none)]),(3002,[]),(3001,[(2,none)])]),
 (53,[(3,[(0,none),(1,none),(2,none),(8,none),(9,none),(10,none)]),(4002,[(0,none),(1,none),(2,none),(8,none),(9,none)])]),
 (55,[(3,[(3,some 70),(6,none),(7,none),(8,none)]),(4002,[(3,none)])]),
 (59,[(2,[(0,none),(3,none)]),(3002,[]),(3001,[(2,none)])]),
 (60,[(3,[(1,none),(2,none),(5,none)]),(4002,[(1,none)])]),
 (61,[(11,[(1,none),(38,none),(39,none),(40,none)]),(12004,[]),(12001,[(2,none),(3,none)]),(4,[(1,none),(16,none),(17,none),(18,none)]),(5002,[(1,none)]),(5001,[(2,none),(3,none)])]),
 (64,[(3,[(3,some 38),(6,none),(7,none),(8,none)]),(4002,[(3,none)])]),
 (65,[(8,[(2,none),(8,none),(32,none),(33,none),(34,none)]),(9003,[(2,none),(8,none)])]),
 (69,[(4,[(1,none),(2,none),(15,none),(16,none),(17,none)]),(5002,[]),(5001,[(6,none)])]),
 (71,[(4,[(1,none),(2,none),(15,none),(16,none),(17,none)]),(5002,[]),(5001,[(6,none)])]),
 (80,[(9,[(0,none),(1,none),(5,none),(6,none),(7,none)]),(10004,[(0,none),(5,none)]),(4,[(0,none),(1,none),(5,none)]),(5002,[(0,none)]),(5001,[(4,none)])]),
 (82,[(0,[(0,none),(1,none),(2,none)]),(1002,[]),(1001,[])]),
 (86,[(3,[(0,none),(5,none),(6,some 3)]),(4002,[(5,none)])]),
 (94,[(4,[(1,none),(31,none),(32,none),(33,none)]),(5002,[]),(5001,[(2,none)])]),
 (98,[(4,[(2,none),(3,none),(6,some 72),(26,none),(27,none),(28,none)]),(5002,[(3,none),(6,none)])]),
 (99,[(2,[(0,none),(1,none),(5,none)]),(3002,[(0,none),(1,none)]),(3001,[(4,none)])]),
 (100,[(2,[(0,none),(1,none),(2,none),(11,none),(12,none),(13,none)]),(3002,[(0,none),(1,none)]),(3001,[(6,none)])]),
 (104,[(4,[(1,none),(2,none),(5,none)]),(5002,[(1,none)])]),
 (105,[(5,[(1,none),(2,none),(5,none)]),(6002,[(1,none)])]),
 (106,[(11,[(6,none),(8,some 3),(36,none),(37,none),(38,none)]),(12004,[(8,none)]),(12001,[(4,none),(5,none)]),(4,[(3,none),(6,none)]),(5002,[(3,none),(6,none)]),(5001,[(4,none),(5,none)])]),
 (109,[(2,[(0,none),(1,none),(7,none),(8,none)]),(3002,[]),(3001,[(4,none)])]),
 (112,[(1,[(0,none),(6,none),(7,none),(8,none)]),(2002,[])]),
 (114,[(5,[(0,none),(1,none),(5,none),(6,none)]),(6002,[(0,none),(5,none)])]),
 (119,[(2,[(0,none),(1,none),(7,none),(8,none)]),(3002,[]),(3001,[(4,none)])]),
 (120,[(4,[(0,none),(1,none),(12,none),(13,none)]),(5002,[]),(5001,[(4,none)])]),
 (121,[(4,[(0,none),(1,none),(12,none),(13,none)]),(5002,[]),(5001,[(4,none)])]),
 (122,[(17,[(0,none),(3,none),(5,none),(10,none),(11,none),(44,none),(45,none),(46,none),(72,none),(73,none),(74,none)]),(18008,[(0,none),(3,none),(5,none),(11,none),(44,none),(45,none),(46,none)]),(18005,[(0,none),(3,none),(5,none),(44,none),(45,none),(46,none)]),(12,[(0,none),(3,none),(5,none),(10,none),(11,none),(44,none),(45,none),(46,none),(52,none),(53,none),(54,none)]),(13006,[(0,none),(3,none),(5,none),(10,none),(11,none),(44,none),(45,none),(46,none)]),(8,[(0,none),(3,none),(5,none),(44,none),(45,none),(46,none)]),(9004,[]),(9001,[]),(3,[(0,none),(1,none),(2,none),(3,none),(5,none),(6,some 72),(25,none),(26,none),(27,none)]),(4002,[(0,none),(1,none),(2,none),(3,none),(5,none),(6,none)])]),
 (123,[(7,[(1,none),(2,none),(7,none),(8,none),(10,none),(18,none),(19,none),(20,none),(26,none),(27,none),(28,none)]),(8004,[(1,none),(2,none),(7,none),(8,none),(10,none),(18,none),(19,none),(20,none)]),(8003,[(1,none),(2,none),(7,none),(8,none),(18,none),(19,none),(20,none)]),(4,[(1,none),(2,none),(7,none),(8,some 70),(18,none),(19,none),(20,none)]),(5002,[(8,none)])]),
 (126,[(5,[(0,none),(3,none),(4,none)]),(6002,[(3,none)])]),
 (127,[(5,[(0,none),(3,none),(4,none)]),(6002,[(3,none)])]),
 (128,[(9,[(0,none),(1,none),(2,none),(6,none),(7,none),(8,none)]),(10006,[(0,none),(1,none),(2,none),(6,none),(7,none)]),(7,[(0,none),(1,none),(2,none),(6,none)]),(8004,[]),(2,[(0,none),(1,none),(2,none),(6,none),(7,none),(8,none)]),(3002,[(0,none),(1,none),(2,none),(6,none),(7,none)])]),
 (129,[(5,[(0,none),(1,none),(5,none),(12,none),(13,none),(14,none),(28,none),(29,none),(30,none)]),(6004,[(0,none),(1,none),(12,none),(13,none),(14,none)]),(6001,[]),(1,[(0,none),(1,none),(12,none),(13,none),(14,none)]),(2002,[]),(2001,[])]),
 (131,[(2,[(0,none),(1,none),(7,none),(8,none)]),(3002,[]),(3001,[(4,none)])]),
 (138,[(4,[(18,none)]),(5002,[]),(5001,[(2,none)])]),
 (147,[(13,[(11,none),(45,none),(46,none),(47,none)]),(14005,[(11,none)])]),
 (152,[(3,[(0,none),(5,none),(14,none),(15,none),(16,none)]),(4002,[(5,none)]),(4001,[(4,none)])]),
 (155,[(3,[(3,some 9),(6,none),(7,none),(8,none)]),(4002,[(3,none)])]),
 (156,[(12,[(6,none),(26,none),(27,none),(28,none)]),(13004,[(6,none)]),(3,[(0,none),(3,none),(9,none),(10,none),(11,none)]),(4002,[(0,none),(3,none)])]),
 (158,[(17,[(1,none),(2,none),(43,none),(44,none),(45,none)]),(18005,[]),(18001,[(6,none)]),(1,[(0,none),(1,none),(2,none)]),(2001,[(6,none)])]),
 (159,[(4,[(1,none),(2,none),(5,none),(17,none),(18,none),(19,none)]),(5002,[(1,none),(2,none),(5,none)])]),
 (161,[(2,[(0,none),(1,none),(7,none),(8,none)]),(3002,[]),(3001,[(4,none)])]),
 (166,[(4,[(0,none),(1,none),(2,none),(3,none),(8,none),(9,none)]),(5004,[(0,none),(1,none),(2,none),(3,none),(8,none)]),(1,[(0,none),(1,none),(2,none),(3,none),(8,none)]),(2002,[])]),
 (167,[(33,[(0,none),(1,none),(2,none),(3,none),(4,none),(18,none),(19,none),(20,none),(21,none),(22,none)]),(34010,[(0,none),(1,none),(2,none),(3,none),(4,none),(18,none),(19,none),(20,none)]),(21,[(0,none),(14,none),(17,none)]),(22008,[]),(15,[(0,none),(2,none),(4,none),(14,none),(15,none)]),(16006,[(0,none),(2,none),(14,none)]),(9,[(0,none),(10,none),(13,none)]),(10004,[]),(3,[(0,none),(1,none),(4,none),(10,none),(11,none)]),(4002,[(0,none),(1,none),(10,none)])]),
 (168,[(2,[(0,none),(1,none),(7,none),(8,none)]),(3002,[]),(3001,[(4,none)])]),
 (169,[(3,[(0,none),(1,none),(3,none),(4,none),(13,none),(14,none)]),(4002,[]),(4001,[])]),
 (170,[(3,[(1,none),(2,none),(3,none),(7,none),(11,none),(12,none),(13,none)]),(4002,[(7,none)]),(4001,[(6,none)])]),
 (171,[(7,[(0,none),(57,none),(58,none),(59,none)]),(8004,[]),(8001,[]),(2,[(0,none),(1,none),(25,none),(26,none),(27,none)]),(3002,[(0,none),(1,none)]),(3001,[])]),
 (172,[(4,[(24,none),(25,none),(26,none)]),(5002,[]),(5001,[(2,none)])]),
 (176,[(5,[(0,none),(2,none),(3,none),(6,none),(7,none),(10,none),(11,none),(12,none),(18,none),(19,none),(20,none)]),(6004,[(0,none),(2,none),(3,none),(7,none),(10,none),(11,none),(12,none)]),(6003,[(0,none),(2,none),(3,none),(10,none),(11,none),(12,none)]),(1,[(0,none),(2,none),(3,none),(10,none),(11,none),(12,none)]),(2002,[]),(2001,[])]),
 (178,[(2,[(0,none),(1,none),(5,none)]),(3002,[(0,none),(1,none)]),(3001,[(4,none)])]),
 (179,[(1,[(0,none),(2,none),(3,none)]),(2002,[])]),
 (180,[(7,[(0,none),(5,none),(40,none),(41,none),(42,none)]),(8003,[]),(8001,[(4,none)])]),
 (185,[(8,[(2,none),(32,none),(33,none),(34,none)]),(9004,[]),(9001,[]),(3,[(2,none),(3,some 38),(14,none),(15,none),(16,none)]),(4002,[(2,none),(3,none)])]),
 (188,[(1,[(0,none),(6,none),(7,none),(8,none)]),(2002,[]),(2001,[])]),
 (189,[(2,[(0,none),(1,none),(7,none),(8,none)]),(3002,[]),(3001,[(4,none)])]),
 (190,[(2,[(0,none),(2,none),(4,none),(10,none),(11,none)]),(3002,[(0,none),(2,none),(4,none),(10,none)])]),
 (192,[(10,[(1,none),(49,none),(50,none),(51,none)]),(11003,[]),(11001,[(4,none)])]),
 (193,[(2,[(5,none),(6,none),(7,none)]),(3002,[]),(3001,[(2,none)])]),
 (196,[(2,[(0,none),(2,none),(4,none),(12,none),(13,none),(14,none)]),(3002,[(0,none),(2,none),(4,none)]),(3001,[(6,none)])]),
 (198,[(3,[(2,none),(11,none),(12,none),(13,none)]),(4002,[]),(4001,[])]),
 (199,[(1,[(0,none),(1,none),(2,none),(3,none),(10,none)]),(2002,[])]),
 (200,[(3,[(3,some 9),(7,none),(8,none),(9,none)]),(4002,[(3,none)])])
 ]
def lk2(k:Nat):List (Nat×List (Nat×Option Nat))->List (Nat×Option Nat)
 |[]=>[]
 |(j,l)::r=>bif Nat.beq j k then l else lk2 k r
def lk1(f k:Nat):List (Nat×List (Nat×List (Nat×Option Nat)))->List (Nat×Option Nat)
 |[]=>[]
 |(g,l)::r=>bif Nat.beq g f then lk2 k l else lk1 f k r
def live(f k:Nat):List (Nat×Option TypeId):=lk1 f k Xu
structure Kp where
 tree:Addr
 stuck:Addr
 T1:TypeId
 T2:TypeId
 z1:Nat×Nat
 z2:Nat×Nat
 fL:Addr
 arity:Addr
 type:Addr
 T3:TypeId
 T4:TypeId
 T5:TypeId
 z3:Nat×Nat
 z4:Nat×Nat
 z5:Nat×Nat
 c3:Array Value
 c4:Array Value
 c5:Array Value
 t3:TypeId
 t4:TypeId
 t5:TypeId
 d1:fL≠arity
 d2:fL≠type
 d3:arity≠type
 n3: ∀g,g∈[1,0,3,4,2]->fL.block≠g
 n4: ∀g,g∈[1,0,3,4,2]->arity.block≠g
 n5: ∀g,g∈[1,0,3,4,2]->type.block≠g
def ac7(κ:Kp):Value:= .iface 273 (.pointer (some κ.tree))
def mO(κ:Kp):Value:= .iface 273 (.pointer (some κ.stuck))
def zf(κ:Kp)(b:Nat):Option Go.Obj:=
 bif Nat.beq b 1 then some (.cells #[.iface 273 (.pointer (some κ.tree))] κ.T1 κ.z1)
 else bif Nat.beq b 0 then some (.cells #[.iface 273 (.pointer (some κ.stuck))] κ.T2 κ.z2)
 else bif Nat.beq b 3 then some (.cells #[.iface 273 (.pointer (some κ.fL))] κ.T3 κ.z3)
 else bif Nat.beq b 4 then some (.cells #[.iface 273 (.pointer (some κ.arity))] κ.T4 κ.z4)
 else bif Nat.beq b 2 then some (.cells #[.iface 273 (.pointer (some κ.type))] κ.T5 κ.z5)
 else bif Nat.beq b κ.fL.block then some (.cells κ.c3 κ.t3 (0,0))
 else bif Nat.beq b κ.arity.block then some (.cells κ.c4 κ.t4 (0,0))
 else bif Nat.beq b κ.type.block then some (.cells κ.c5 κ.t5 (0,0))
 else none
def aB(κ:Kp)(ok:Bool):Value:=bif ok then .nilIface else .iface 273 (.pointer (some κ.tree))
theorem nN κ b:aC (aB κ b)=true:=by cases b<;>rfl
theorem qD κ b:bP (aB κ b)=b:=by cases b<;>rfl
theorem oW κ b:bf (aB κ b)=true:=by cases b<;>rfl
noncomputable abbrev Pr(κ:Kp):Pg:={toProgram:=Tryz.prog,kept:=zf κ}
theorem zC:re Tryz.prog:=Rs (by rfl)
def ah2:=[139,182,161,183,187,162,186,135,184,116,92,109,93,67,119,95,110,133,168,134,84,132,111,163,118,999999,999999]
def ae3:=[114,170,999999,999999,999999,999999,999999]
def UZ:=[174,138,201,194,195,173,192,172,175,193,96,164,189,137,999999,999999,999999,29,105,104,60,59,999999,999999,999999,999999,999999,999999,999999,999999,999999,999999,999999,999999,999999,999999,999999,999999,999999,999999,94,48,999999,999999,999999,999999,999999,999999,999999,153,130,90,88,85,131,999999,999999,999999,999999,999999,999999]
def Wc:=[155,200,160,115,106,999999]
def Yv:=[86]
noncomputable def E0 κ:=((Env.none (Pr κ) live (fun f=>iS f ah2) (fun f=>iS f ae3) fun f=>iS f UZ).jK fun f=>iS f Wc).jy fun f=>iS f Yv
theorem e0 κ:aE (E0 κ):=((aE.none zC).jK _).jy _
theorem m0 κ:aj (E0 κ):=(aj.none.jK _).jy _
theorem y48 κ op K:(a7 (E0 κ) 12 174 [.int op] [] K)=(
 aq (op==(5:Int)) (K (AV.bool true) []) (aq (op==(6:Int)) (K (AV.bool true) []) (K (AV.bool (op==(7:Int))) []))):=by kernel_rfl
def g48:List AV->Option (Bool×AV)
 |[.lit (.int .i64 op)]=>some (true, .bool (mI op))
 |_=>none
theorem p48 κ:cj (E0 κ) 12 174 g48:=by
 intro args x h;unfold g48 at h;split at h
 ·simp   at h
  subst h;refine⟨_,rfl,rfl,?_⟩
  grind [y48,mI,ae]
 grind
noncomputable def P0 κ:=(E0 κ).aK 174 g48
theorem e48 κ:aE (P0 κ):=(e0 _).aK (m0 _) (p48 _)
theorem m48 κ:aj (P0 κ):=(m0 _).aK
theorem x57 κ s p I n K:(vc (P0 κ) 12 138 none 0 (ad (Pr κ).toProgram 138 4) (sp 55 [(18, .ptr 0 0 [] 0)] [.dp s p]) (bh (P0 κ) 138 4 0 I n K))=(
 letI b:=∃(e0:Nat),e0<n/\I e0 (sp 55 [(18,AV.ptr 0 0 [] 0)] [Obj.dp s (p+Prod.snd (Utf8.decode s p))])
 letI a:=Prod.fst (Utf8.decode s p)
 letI c:=K Exit.ret (sp 55 [(2,AV.bool false)] [])
 letI d:=aq (!(↑a:Int)==(95:Int)) (aq ((↑p:Int)==(0:Int)) c (aq (decide ((↑a:Int)<(48:Int))) c (aq (decide ((↑a:Int)>(57:Int)))
  c b))) b
 letI e:=aq (decide ((↑a:Int)>=(65:Int))) (aq (decide ((↑a:Int)<=(90:Int))) b d) d
 aq (Nat.blt p (ByteArray.size s)) (aq (decide ((↑a:Int)>=(97:Int))) (aq (decide ((↑a:Int)<=(122:Int))) b e) e) (K (Exit.exit 0) (sp 55 [] []))):=by kernel_rfl
abbrev Wg(a:ByteArray×Nat):=sp 55 [(18, .ptr 0 0 [] 0)] [.dp a.1 a.2]
noncomputable def Dd(a:ByteArray×Nat):Out (Exit×S):=
 .aq (nameAt a.1 a.2) (.one (.exit 0,sp 55 [] [])) (.one (.ret,sp 55 [(2, .bool false)] []))
theorem l57 κ:aR (P0 κ) 12 138 4 (aG 0 Wg (fun _=>True) Dd):=by
 refine aD (fun a=>a.1.size - a.2) ?_;rintro⟨s,p⟩ K - ho;rw[show(P0 κ).P=Pr κ from rfl,x57];simp only[Dd,Out.run,ae] at ho;have hgo: ∀c:Int,c=(Utf8.decode s p).1->p<s.size->(letter c||(!(decide ((p:Int)=0)||decide (c<48)||decide ((57:Int)<c))))=true->
   ∃m,m<s.size - p/\ei Wg (fun _=>True) Dd (fun a=>a.1.size - a.2) K m (sp 55 [(18, .ptr 0 0 [] 0)] [.dp s (p+(Utf8.decode s p).2)]):=by
  rintro c rfl hp hc;have:=yY s p
  refine⟨s.size - (p+(Utf8.decode s p).2),by omega,(s,p+(Utf8.decode s p).2),rfl,trivial,rfl,?_⟩;rw[nameAt,dif_pos hp,hc,ao8] at ho;simpa only[Dd,Out.run,ae] using ho
 have hno: ∀c:Int,c=(Utf8.decode s p).1->p<s.size->(letter c||(!(decide ((p:Int)=0)||decide (c<48)||decide ((57:Int)<c))))=false->K Exit.ret (sp 55 [(2, .bool false)] []):=by
  rintro c rfl hp hc;rw[nameAt,dif_pos hp,hc,Bool.false_and] at ho;exact ho.2 rfl
 have hgo:=hgo _ rfl;have hno:=hno _ rfl;generalize ((Utf8.decode s p).1:Int)=c at*
 simp only[ae,Nat.blt_eq,an2,an4,beq_iff_eq,beq_eq_false_iff_ne,Bool.not_eq_true',ao4];refine⟨fun hp=>?_,fun hp=>ho.1 ?_⟩
 ·have hgo:=hgo hp
  have hno:=hno hp;simp only[letter,ao5,an3,Bool.not_eq_true',Bool.or_eq_false_iff,Bool.and_eq_false_iff,ao4,an2,an4] at hgo hno
  simp_all
 ·have hp: ¬ p<s.size:=fun h=>by rw[show Nat.blt p s.size=true from by rw[Nat.blt_eq];exact h] at hp;cases hp
  rw[nameAt,dif_neg hp]
noncomputable def LO κ:=(P0 κ).an 138 4 (aG 0 Wg (fun _=>True) Dd)
theorem af4 κ:aE (LO κ):=(e48 _).an (m48 _) (l57 _)
theorem ZU κ:aj (LO κ):=(m48 _).an aI
theorem y57 κ s K:(a7 (LO κ) 12 138 [.lit (.string s)] [] K)=(
 letI a:=K (AV.bool false) []
 letI b:=Pg.toProgram (Env.P (P0 κ))
 aq (ByteArray.toList s==ByteArray.toList {data:= #[]}) a (aq (ByteArray.toList s==ByteArray.toList {data:= #[OfNat.ofNat 95]}) a (aq (decide ((↑(ByteArray.size s):Int)>(40:Int))) a (ad b 138 4=ad b 138 4/\∃(e0:ByteArray×Nat),sp 55 [(18,AV.ptr 0 0 [] 0)] [Obj.dp s 0]=sp 55 [(18,AV.ptr 0 0 [] 0)] [Obj.dp e0.1 e0.2]/\True/\aq (nameAt e0.1 e0.2) (K (AV.bool true) []) a)))):=by kernel_rfl
def g57:List AV->Option (Bool×AV)
 |[.lit (.string s)]=>some (true, .bool (isName s))
 |_=>none
theorem p57 κ:cj (LO κ) 12 138 g57:=by
 intro args x h;unfold g57 at h;split at h
 ·rename_i s
  simp only[an5,ao1,true_and] at h;subst h;refine⟨_,rfl,rfl,?_⟩;rw[y57];unfold isName o7;simp only[ae,an2,an4];refine⟨fun h1=>by rw[h1];rfl,fun h1=>⟨fun h2=>by rw[h1,h2];rfl,fun h2=>⟨fun h3=>?_,fun h3=>⟨trivial,⟨s,0⟩,rfl,trivial,fun h4=>?_,fun h4=>?_⟩⟩⟩⟩
  ·rw[h1,h2,an8 (show(40:Int)<s.size from h3)];rfl
  ·simp_all
  grind
 ·cases h
noncomputable def ZE κ:=(LO κ).aK 138 g57
theorem e57 κ:aE (ZE κ):=(af4 _).aK (ZU _) (p57 _)
theorem m57 κ:aj (ZE κ):=(ZU _).aK
theorem y64 κ op s n l K:(a7 (ZE κ) 12 201 [.agg [.int op, .lit (.string s), .int n, .ah 38 l]] [] K)=(
 letI a:=K (AV.bool (n==(0:Int))) []
 letI b:=K (AV.bool false) []
 letI c:=ByteArray.toList s==ByteArray.toList {data:= #[]}
 aq (op==(1:Int)) (aq (isName s) a b) (aq (op==(2:Int)) (K (AV.bool c) []) (aq (op==(3:Int)) a (aq (op==(4:Int)) (aq c a b) (aq (op==(0:Int)) (aq (ByteArray.toList s==ByteArray.toList {data:= #[]}) a b) b))))):=by kernel_rfl
def g64:List AV->Option (Bool×AV)
 |[.agg [.lit (.int .i64 op), .lit (.string s), .lit (.int .i64 n), .ah 38 _]]=>some (true, .bool (bare op s n))
 |_=>none
theorem p64 κ:cj (ZE κ) 12 201 g64:=by
 intro args x h;unfold g64 at h;split at h
 ·rename_i op s n l
  simp only[an5,ao1,true_and] at h;subst h;refine⟨_,rfl,rfl,?_⟩;rw[y64];have e: ∀k:Int,(op==k)=decide (op=k):=fun k=>by by_cases h:op=k<;>simp[h]
  simp only[e];cases h5:isName s<;>cases h6:(ByteArray.toList s==ByteArray.toList (ByteArray.mk #[]))<;>
  by_cases h1:op=1<;>by_cases h2:op=2<;>by_cases h3:op=3<;>by_cases h4:op=4<;>by_cases h0:op=0<;>
  (simp only[aq,bare,o7,h5,h6,h1,h2,h3,h4,h0];rfl)
 ·cases h
noncomputable def QJ κ:=(ZE κ).aK 201 g64
theorem e64 κ:aE (QJ κ):=(e57 _).aK (m57 _) (p64 _)
theorem m64 κ:aj (QJ κ):=(m57 _).aK
theorem ZY(l:List AV):((l.length:Int)==0)=decide ((l.length:Int)=0):=rfl
theorem y60 κ op s n l K:(a7 (QJ κ) 12 194 [.agg [.int op, .lit (.string s), .int n, .ah 38 l]] [] K)=(
 aq (op==(0:Int)) (aq (bare op s n) (K (AV.bool ((↑(l.length):Int)==(0:Int))) []) (K (AV.bool false) [])) (K (AV.bool false) [])):=by kernel_rfl
theorem y61 κ s l K:(a7 (QJ κ) 12 195 [.agg [.lit (.string s), .ah 38 l]] [] K)=(
 aq (ByteArray.toList s==ByteArray.toList {data:= #[]}) (K (AV.bool ((↑(l.length):Int)==(0:Int))) []) (K (AV.bool false) [])):=by kernel_rfl
theorem y47 κ b K:(a7 (QJ κ) 12 173 [.bool b] [] K)=(
 aq b (K (AV.lit Value.nilIface) []) (K (AV.lit (Value.iface 273 (Value.pointer (some (Kp.tree κ))))) [])):=by kernel_rfl
def g60:List AV->Option (Bool×AV)
 |[.agg [.lit (.int .i64 op), .lit (.string s), .lit (.int .i64 n), .ah 38 l]]=>some (true, .bool (decide (op=0)&&bare op s n&&decide ((l.length:Int)=0)))
 |_=>none
theorem p60 κ:cj (QJ κ) 12 194 g60:=by
 intro args x h;unfold g60 at h;split at h
 ·simp only[an5,ao1,true_and] at h
  subst h;refine⟨_,rfl,rfl,?_⟩
  simp_all[y60,ZY,ae]
 grind
def g61:List AV->Option (Bool×AV)
 |[.agg [.lit (.string s), .ah 38 l]]=>some (true, .bool (o7 s (ByteArray.mk #[])&&decide ((l.length:Int)=0)))
 |_=>none
theorem p61 κ:cj (QJ κ) 12 195 g61:=by
 intro args x h;unfold g61 at h;split at h
 ·simp[true_and] at h
  subst h;refine⟨_,rfl,rfl,?_⟩
  simp_all[y61,o7,ZY,ae]
 grind
def g47(κ:Kp):List AV->Option (Bool×AV)
 |[.lit (.bool b)]=>some (true, .lit (aB κ b))
 |_=>none
theorem p47 κ:cj (QJ κ) 12 173 (g47 κ):=by
 intro args x h;unfold g47 at h;split at h
 ·rename_i b
  simp   at h;subst h;refine⟨_,rfl,oW _ b,?_⟩;rw[y47];cases b<;>rfl
 grind
noncomputable def E47 κ:=(((QJ κ).aK 194 g60).aK 195 g61).aK 173 (g47 κ)
theorem e47 κ:aE (E47 κ):=(((e64 _).eQ (mv (e64 κ) (m64 κ) (p60 κ))).eQ (mv (e64 _) (m64 _) (p61 κ))).eQ (mv (e64 κ) (m64 κ) (p47 κ))
theorem m47 κ:aj (E47 κ):=(m64 _).aK.aK.aK
def W6(κ:Kp):List AV->Option (Bool×AV)
 |[.agg [.lit (.int .i64 op), .lit (.string s), .lit (.int .i64 n), .ah 38 l], .lit (.int .i64 h)]=>some (decide (0<=h)&&decide (h<=1000), .lit (aB κ (ar h.toNat (.mk op s n (aa l)))))
 |_=>none
def Kz:List AV->Nat
 |[_, .lit (.int .i64 h)]=>h.toNat
 |_=>0
noncomputable def EI κ n:=(E47 κ).aK 192 (below (W6 κ) Kz n)
theorem x58 κ r h l i I n K:(vc (EI κ r) 12 192 none 0 (ad (Pr κ).toProgram 192 10) (sp 72 [(1, .int h),(49, .ah 38 l),(50, .int l.length),(51, .int i)] []) (bh (EI κ r) 192 10 0 I n K))=(
 letI a:=IntKind.wrap IntKind.i64
 letI b:=AV.int
 letI c:=nth l i.toNat
 letI f:=K Exit.ret (sp 72 [(4,AV.lit (Value.iface 273 (Value.pointer (some (Kp.tree κ)))))] [])
 letI g:=i<(↑(l.length):Int)
 letI d:=h - (1:Int)
 letI j:=a d
 letI e:=aB κ (ar (Int.toNat j) (Tm.mk (toInt (af c 0)) (toStr (af c 1)) (toInt (af c 2)) (aa (ag (af c 3)))))
 aq (decide g) (aW (decide ((0:Int)<=i)&&decide g) (aq (toInt (af c 0)==(3:Int)) f (aq (toInt (af c 0)==(4:Int)) f (aW (decide ((0:Int)<=
 a d)&&decide (a d<=(1000:Int))&&Nat.blt (Kz [AV.agg [b (toInt (af c 0)),AV.str (toStr (af c 1)),
 b (toInt (af c 2)),AV.ah 38 (ag (af c 3))],b j]) r) (aW (aC e) (aq (!bP e) (K Exit.ret (sp 72 [(4,AV.lit e)] [])) (∃(e0:Nat),e0<n/\I
 e0 (sp 72 [(1,b h),(49,AV.ah 38 l),(50,b (↑(l.length):Int)),(51,b (a (i+(1:Int))))] [])))))))) (K (Exit.exit
 1) (sp 72 [] []))):=by kernel_rfl
abbrev Z4(a:Int×List _×Int):=sp 72 [(1, .int a.1),(49, .ah 38 a.2.1),(50, .int a.2.1.length),(51, .int a.2.2)] []
def Mk r(a:Int×List AV×Int):=1<=a.1/\a.1<=1000/\a.1.toNat<=r/\a.2.1.length<=aU/\0<=a.2.2/\a.2.2<=a.2.1.length
noncomputable def Hk(κ:Kp)(a:Int×List AV×Int):Out (Exit×S):=
 .aq (lB (a.1 - 1).toNat (aa (a.2.1.drop a.2.2.toNat))) (.one (.exit 1,sp 72 [] [])) (.one (.ret,sp 72 [(4, .lit (aB κ false))] []))
theorem l58 κ r:aR (EI κ r) 12 192 10 (aG 0 Z4 (Mk r) (Hk κ)):=by
 refine aD (fun a=>a.2.1.length - a.2.2.toNat) ?_;rintro⟨h,l,i⟩ K ⟨h1,h2,h3,h4,h5,h6⟩ ho;simp only at h1 h2 h3 h4 h5 h6;rw[show(EI κ r).P=Pr κ from rfl,x58];simp only[Hk,Out.run,ae] at ho;rw[az (n:=h - 1) (by omega) (by omega)];simp only[aU] at h4;simp only[nN,qD];simp only[←da];simp only[ae,ai,an2,an4,an3,beq_iff_eq,beq_eq_false_iff_ne,Bool.not_eq_true',ao4,Kz,Nat.blt_eq];refine⟨fun hi=>⟨⟨h5,hi⟩,?_⟩,fun hi=>ho.1 ?_⟩
 ·have e:=eR l i.toNat (by omega)
  rw[e] at ho;have hop:(cE (nth l i.toNat)).op=toInt (af (nth l i.toNat) 0):=by rw[da];rfl
  simp only[lB,List.all_cons,hop] at ho;refine⟨fun ha=>ho.2 (by simp[ha]),fun ha=>⟨fun hb=>ho.2 (by simp[hb]),fun hb=>⟨⟨⟨by omega,by omega⟩,by omega⟩,trivial,fun hc=>?_,fun hc=>?_⟩⟩⟩
  ·rw[hc];exact ho.2 (by rw[hc];simp)
  ·rw[az (n:=i+1) (by omega) (by omega)]
   refine⟨_,?_,(h,l,i+1),rfl,⟨h1,h2,h3,by simpa[aU] using h4,by simp only;omega,by simp only;omega⟩,rfl,?_⟩
   ·simp only;omega
   ·rw[hc] at ho
    simp only[Hk,Out.run,ae,lB];rw[show(i+1).toNat=i.toNat+1 by omega];simpa[ha,hb] using ho
 ·rw[ao0 (by omega)];rfl
noncomputable def Pu κ r:=(EI κ r).an 192 10 (aG 0 Z4 (Mk r) (Hk κ))
theorem y58 κ r op s n l h K:(a7 (Pu κ r) 12 192 [.agg [.int op, .lit (.string s), .int n, .ah 38 l], .int h] [] K)=(
 letI a:=AV.int
 letI b:=K (AV.lit (Value.iface 273 (Value.pointer (some (Kp.tree κ))))) []
 letI c:=Pg.toProgram (Env.P (EI κ r))
 letI d:=K (AV.lit Value.nilIface) []
 aq (h==(0:Int)) b (aq (op==(0:Int)) b (aq (!mI op) (aq (!bare op s n) b (aq (decide ((↑(l.length):Int)>(0:Int))) b d)) (aq (!ByteArray.toList s==ByteArray.toList {data:= #[]}) b (aq (n != (0:Int)) b (aq ((↑(l.length):Int) != (2:Int)) b (ad c 192 10=ad c 192 10/\∃(e0:Int×List AV×Int),sp 72 [(1,a h),(49,AV.ah 38 l),(50,a (↑(l.length):Int)),(51,a 0)] []=sp 72 [(1,a e0.1),(49,AV.ah 38 e0.2.1),(50,a (↑(e0.2.1.length):Int)),(51,a e0.2.2)] []/\((1:Int)<=e0.1/\e0.1<=(1000:Int)/\e0.1.toNat<=r/\e0.2.1.length<=9223372036854775807/\(0:Int)<=e0.2.2/\e0.2.2<=(↑(e0.2.1.length):Int))/\aq (lB (Int.toNat (e0.1 - (1:Int))) (aa (List.drop (Int.toNat e0.2.2) e0.2.1))) d b))))))):=by kernel_rfl
theorem af3 κ r(hp:gy (Pr κ) 192 (below (W6 κ) Kz r)):aE (Pu κ r)/\aj (Pu κ r)/\(Pu κ r).P=Pr κ:=
 have h:=(e47 _).eQ hp;have hm:=(m47 _).aK
 ⟨h.an hm (l58 _ r),hm.an aI,rfl⟩
theorem p58 κ r:cj (Pu κ r) 12 192 fun xs=>bif Nat.beq (Kz xs) r then W6 κ xs else none:=by
 intro args x hh;cases hb:Nat.beq (Kz args) r with
 |false=>simp only[hb] at hh;cases hh
 | true=>
  simp only[hb,an9] at hh;unfold W6 at hh;split at hh
  ·rename_i op s n l h
   simp only[an5,ao1,an3,an2] at hh;obtain⟨⟨h1,h2⟩,rfl⟩:=hh;have hr:h.toNat=r:=Nat.eq_of_beq_eq_true hb;refine⟨_,rfl,oW κ _,?_⟩;rw[y58];have ef:AV.lit (.iface 273 (.pointer (some κ.tree)))= .lit (aB κ false):=rfl;have et:AV.lit .nilIface= .lit (aB κ true):=rfl;rw[ef,et];by_cases h0:h=0
   ·subst h0;rfl
   ·obtain⟨m,hm⟩: ∃m,h.toNat=m+1:=⟨h.toNat - 1,by omega⟩
    rw[hm,tJ,er];unfold o7;generalize (ByteArray.toList s==ByteArray.toList (ByteArray.mk #[]))=z
    simp only[ae,beq_iff_eq,beq_eq_false_iff_ne,Bool.not_eq_true',ao4,an2,an4,bne_iff_ne,bne_eq_false_iff_eq];refine⟨fun e=>absurd e h0,fun _=>⟨fun e=>by rw[an8 e];rfl,fun e=>?_⟩⟩;rw[an6 e,an7];refine⟨fun e2=>?_,fun e2=>?_⟩
    ·rw[e2,an7]
     refine⟨fun e3=>by rw[e3];rfl,fun e3=>⟨fun e4=>?_,fun e4=>?_⟩⟩
     ·rw[an6 (show ¬ l.length=0 by omega),Bool.and_false]
     ·rw[e3,an8 (show l.length=0 by omega)];rfl
    ·rw[e2,an9]
     refine⟨fun e3=>by rw[e3];rfl,fun e3=>⟨fun e4=>by rw[e3,an6 e4];rfl,fun e4=>⟨fun e5=>?_,fun e5=>?_⟩⟩⟩
     ·rw[an6 (show ¬ l.length=2 by omega)];simp
     ·refine⟨trivial,(h,l,0),rfl,⟨by simp only;omega,h2,by simp only;omega,by simp only;omega,by simp only;omega,by simp only;omega⟩,?_⟩
      rw[e3,an8 e4,an8 (show l.length=2 by omega)];simp only[show(h - 1).toNat=m by omega,Int.toNat_zero,ao2,ao8];exact⟨fun e=>by rw[e],fun e=>by rw[e]⟩
  ·cases hh
theorem q58 κ:gy (Pr κ) 192 (W6 κ):=aE.xl _ _ _ (af3 _) (p58 _)
noncomputable def RJ κ:=(E47 κ).aK 192 (W6 κ)
theorem e58 κ:aE (RJ κ):=(e47 _).eQ (q58 _)
theorem m58 κ:aj (RJ κ):=(m47 _).aK
theorem x46 κ l i I n K:(vc (RJ κ) 12 172 none 0 (ad (Pr κ).toProgram 172 4) (sp 36 [(24, .ah 38 l),(25, .int l.length),(26, .int i)] []) (bh (RJ κ) 172 4 0 I n K))=(
 letI a:=nth l i.toNat
 letI b:=aB κ (ar 20 (Tm.mk (toInt (af a 0)) (toStr (af a 1)) (toInt (af a 2)) (aa (ag (af a 3)))))
 letI c:=i<(↑(l.length):Int)
 aq (decide c) (aW (decide ((0:Int)<=i)&&decide c) (aW (aC b) (aq (!bP b) (K Exit.ret (sp 36 [(2,AV.lit b)] [])) (∃(e0:Nat),e0<n/\I e0 (sp 36
 [(24,AV.ah 38 l),(25,AV.int (↑(l.length):Int)),(26,AV.int (IntKind.wrap IntKind.i64 (i+(1:Int))))] []))))) (K (Exit.exit 0) (sp 36 [] []))):=by kernel_rfl
abbrev XA(a:List _×Int):=sp 36 [(24, .ah 38 a.1),(25, .int a.1.length),(26, .int a.2)] []
def Om(a:List AV×Int):=a.1.length<=aU/\0<=a.2/\a.2<=a.1.length
noncomputable def Hn(κ:Kp)(a:List AV×Int):Out (Exit×S):=
 .aq ((aa (a.1.drop a.2.toNat)).all (ar 20)) (.one (.exit 0,sp 36 [] [])) (.one (.ret,sp 36 [(2, .lit (aB κ false))] []))
theorem l46 κ:aR (RJ κ) 12 172 4 (aG 0 XA Om (Hn κ)):=by
 refine aD (fun a=>a.1.length - a.2.toNat) ?_;rintro⟨l,i⟩ K ⟨h4,h5,h6⟩ ho;simp only at h4 h5 h6;rw[show(RJ κ).P=Pr κ from rfl,x46];simp only[Hn,Out.run,ae] at ho;simp only[aU] at h4;simp only[nN,qD,←da];simp only[ae,ai,an2,an4,an3,Bool.not_eq_true',ao4];refine⟨fun hi=>⟨⟨h5,hi⟩,trivial,fun hc=>?_,fun hc=>?_⟩,fun hi=>ho.1 ?_⟩
 ·rw[hc]
  rw[eR l i.toNat (by omega),List.all_cons,hc,Bool.false_and] at ho;exact ho.2 rfl
 ·rw[az (n:=i+1) (by omega) (by omega)]
  refine⟨_,?_,(l,i+1),rfl,⟨by simpa[aU] using h4,by simp only;omega,by simp only;omega⟩,rfl,?_⟩
  ·simp only;omega
  ·rw[eR l i.toNat (by omega),List.all_cons,hc,ao8] at ho
   grind [Hn,Out.run,ae]
 ·rw[ao0 (by omega)];rfl
noncomputable def ON κ:=(RJ κ).an 172 4 (aG 0 XA Om (Hn κ))
theorem al3 κ:aE (ON κ):=(e58 _).an (m58 _) (l46 _)
theorem Yw κ:aj (ON κ):=(m58 _).an aI
theorem y46 κ s l K:(a7 (ON κ) 12 172 [.agg [.lit (.string s), .ah 38 l]] [] K)=(
 letI a:=K (AV.lit (Value.iface 273 (Value.pointer (some (Kp.tree κ))))) []
 letI b:=Pg.toProgram (Env.P (RJ κ))
 aq (!isName s) a (aq ((↑(l.length):Int)==(0:Int)) a (aq (decide ((↑(l.length):Int)>(8:Int))) a (ad b 172 4=ad b 172 4/\∃(e0:List AV×
 Int),sp 36 [(24,AV.ah 38 l),(25,AV.int (↑(l.length):Int)),(26,AV.int 0)] []=sp 36 [(24,AV.ah 38 e0.1),(25,AV.int (↑(e0.1.length):Int)),(26,
 AV.int e0.2)] []/\(e0.1.length<=9223372036854775807/\(0:Int)<=e0.2/\e0.2<=(↑(e0.1.length):Int))/\aq (List.all (aa (List.drop e0.2.toNat e0.1)) (ar
 20)) (K (AV.lit Value.nilIface) []) a)))):=by kernel_rfl
def g46(κ:Kp):List AV->Option (Bool×AV)
 |[.agg [.lit (.string s), .ah 38 l]]=>some (true, .lit (aB κ (bk ⟨s,aa l⟩)))
 |_=>none
theorem p46 κ:cj (ON κ) 12 172 (g46 κ):=by
 intro args x hh;unfold g46 at hh;split at hh
 ·rename_i s l
  simp only[an5,ao1,true_and] at hh;subst hh;refine⟨_,rfl,oW κ _,?_⟩;rw[y46];have ef:AV.lit (.iface 273 (.pointer (some κ.tree)))= .lit (aB κ false):=rfl;have et:AV.lit .nilIface= .lit (aB κ true):=rfl;rw[ef,et];simp only[bk,er];simp only[ae,beq_iff_eq,beq_eq_false_iff_ne,Bool.not_eq_true',ao4,an2,an4];refine⟨fun e=>by rw[e];rfl,fun e=>⟨fun e1=>by rw[an8 (show l.length=0 by omega)];simp,fun e1=>⟨fun e2=>by rw[an6 (show ¬ l.length<=8 by omega)];simp,fun e2=>⟨trivial,(l,0),rfl,⟨by simp only;omega,by simp only;omega,by simp only;omega⟩,?_⟩⟩⟩⟩
  grind [decide_eq_false,decide_eq_true]
 ·cases hh
noncomputable def PX κ:=(ON κ).aK 172 (g46 κ)
theorem e46 κ:aE (PX κ):=(al3 _).aK (Yw _) (p46 _)
theorem m46 κ:aj (PX κ):=(Yw _).aK
noncomputable def FT κ:=(PX κ).an 193 2 (lv (PX κ) 12 193 2 5)
theorem am7 κ:aE (FT κ):=(e46 _).an (m46 _) (tO (m46 _) 5)
theorem ZJ κ:aj (FT κ):=(m46 _).an (lL (m46 _) 5)
theorem ae7 κ u1 u2 K:(a7 (FT κ) 12 193 [.ah 171 [.lit u1, .lit u2]] [] K)=(
 letI a:=Pg.toProgram (Env.P (PX κ))
 ad a 193 2=ad a 193 2/\aW (aC u1) (aq (!bP u1) (K (AV.lit u1) []) (aW (aC u2) (aq (!bP u2) (K (AV.lit u2) []) (K (AV.lit Value.nilIface) []))))):=by kernel_rfl
theorem ad6 κ u1 u2 u3 K:(a7 (FT κ) 12 193 [.ah 171 [.lit u1, .lit u2, .lit u3]] [] K)=(
 letI a:=Pg.toProgram (Env.P (PX κ))
 ad a 193 2=ad a 193 2/\aW (aC u1) (aq (!bP u1) (K (AV.lit u1) []) (aW (aC u2) (aq (!bP u2) (K (AV.lit u2) []) (aW (aC u3) (aq (!bP u3) (K (AV.lit u3) [])
 (K (AV.lit Value.nilIface) []))))))):=by kernel_rfl
theorem aj4 κ u1 u2 u3 u4 K:(a7 (FT κ) 12 193 [.ah 171 [.lit u1, .lit u2, .lit u3, .lit u4]] [] K)=(
 letI a:=AV.lit
 letI b:=Pg.toProgram (Env.P (PX κ))
 ad b 193 2=ad b 193 2/\aW (aC u1) (aq (!bP u1) (K (a u1) []) (aW (aC u2) (aq (!bP u2) (K (a u2) []) (aW (aC u3) (aq (!bP u3) (K (a u3) [])
 (aW (aC u4) (aq (!bP u4) (K (a u4) []) (K (a Value.nilIface) []))))))))):=by kernel_rfl
def bD u v:=bif bP u then v else u
theorem GH κ a b:bD (aB κ a) (aB κ b)=aB κ (a&&b):=by cases a<;>rfl
theorem F8{u}(_h:aC u=true)(h2:bP u=true):u= .nilIface:=by grind [bP]
def g59:List AV->Option (Bool×AV)
 |[.ah 171 [.lit u1, .lit u2]]=>some (aC u1&&aC u2&&(bf u1&&bf u2), .lit (bD u1 u2))
 |[.ah 171 [.lit u1, .lit u2, .lit u3]]=>some (aC u1&&(aC u2&&aC u3)&&(bf u1&&(bf u2&&bf u3)), .lit (bD u1 (bD u2 u3)))
 |[.ah 171 [.lit u1, .lit u2, .lit u3, .lit u4]]=>some (aC u1&&(aC u2&&(aC u3&&aC u4))&&(bf u1&&(bf u2&&(bf u3&&bf u4))), .lit (bD u1 (bD u2 (bD u3 u4))))
 |_=>none
theorem p59 κ:cj (FT κ) 12 193 g59:=by
 intro args x hh;unfold g59 at hh;split at hh
 ·rename_i u1 u2
  simp only[an5,ao1,an3] at hh;obtain⟨⟨⟨h1,h2⟩,h3,h4⟩,rfl⟩:=hh;refine⟨_,rfl,by unfold bD;cases bP u1<;>assumption,?_⟩;rw[ae7,h1,h2];refine⟨rfl,?_⟩;unfold bD;cases e1:bP u1
  ·rfl
  ·cases e2:bP u2
   ·rfl
   ·rw[F8 h2 e2];rfl
 ·rename_i u1 u2 u3
  simp only[an5,ao1,an3] at hh;obtain⟨⟨⟨h1,h2,h3⟩,h4,h5,h6⟩,rfl⟩:=hh;refine⟨_,rfl,by unfold bD;cases bP u1<;>cases bP u2<;>assumption,?_⟩;rw[ad6,h1,h2,h3];refine⟨rfl,?_⟩;unfold bD;cases e1:bP u1
  ·rfl
  ·cases e2:bP u2
   ·rfl
   ·cases e3:bP u3
    ·rfl
    ·rw[F8 h3 e3];rfl
 ·rename_i u1 u2 u3 u4
  simp only[an5,ao1,an3] at hh;obtain⟨⟨⟨h1,h2,h3,k1⟩,h4,h5,h6,k2⟩,rfl⟩:=hh;refine⟨_,rfl,by unfold bD;cases bP u1<;>cases bP u2<;>cases bP u3<;>assumption,?_⟩;rw[aj4,h1,h2,h3,k1];refine⟨rfl,?_⟩;unfold bD;cases e1:bP u1
  ·rfl
  ·cases e2:bP u2
   ·rfl
   ·cases e3:bP u3
    ·rfl
    ·cases e4:bP u4
     ·rfl
     ·rw[F8 k1 e4];rfl
 ·cases hh
noncomputable def Y8 κ:=(FT κ).aK 193 g59
theorem e59 κ:aE (Y8 κ):=(am7 _).aK (ZJ _) (p59 _)
theorem m59 κ:aj (Y8 κ):=(ZJ _).aK
theorem y49(κ:Kp)(op:Int) s(l:List AV)(o1:Int) s1(n1:Int)(l1:List AV)(o2:Int) s2(n2:Int)(l2:List AV) K:(a7 (Y8 κ) 12 175 [.agg [.int op, .agg [.lit (.string s), .ah 38 l], .agg [.int o1, .lit (.string s1), .int n1, .ah 38 l1], .agg [.int o2, .lit (.string s2), .int n2, .ah 38 l2]]] [] K)=(
 letI a:=AV.lit
 letI d:=aB κ (ar 20 (Tm.mk o1 s1 n1 (aa l1)))
 letI q:=aB κ (ar 20 (Tm.mk o2 s2 n2 (aa l2)))
 letI b:=aB κ (bk {rel:=s,l:=aa l})
 letI i:=aB κ (decide (o2=(0:Int))&&bare o2 s2 n2&&decide ((↑(l2.length):Int)=(0:Int)))
 letI y:=Value.iface 273 (Value.pointer (some (Kp.tree κ)))
 letI w:=aB κ (o2==(1:Int))
 letI c:=aB κ (bk {rel:=s,l:=aa l})
 letI g:=K (a (bD b (bD w (bD d q)))) []
 letI e:=aC d&&aC q
 letI f:=bf d&&bf q
 letI k:=K (a (bD b y)) []
 letI x:=aq (decide (o1=(0:Int))&&bare o1 s1 n1&&decide ((↑(l1.length):Int)=(0:Int))) (aW (aC b&&aC i&&(bf b&&bf i)) (K (a (bD b
  i)) [])) (aW (aC b&&true&&(bf b&&true)) k)
 letI r:=aW (aC b&&(true&&e)&&(bf b&&(true&&f))) k
 letI m:=aB κ (o2 != (4:Int))
 letI h:=o1==(2:Int)
 letI n:=K (a y) []
 letI t:=aW (true&&e&&(true&&f)) n
 letI j:=aq (o7 s {data:= #[]}&&decide ((↑(l.length):Int)=(0:Int))) (aq (o1 != (4:Int)) (aW (aC m&&e&&(bf m&&f)) (K (a (bD m (bD d q))) [])) t) t
 letI u:=bf b&&(bf i&&bf d)
 letI o:=aC w&&e
 letI p:=bf w&&f
 letI z:=aC b&&o&&(bf b&&p)
 letI v:=aW z (K (a (bD c (bD w (bD d q)))) [])
 aq (o1==(1:Int)) (aq (op==(1:Int)) x (aq (op==(2:Int)) x (aq (op==(3:Int)) j (aq (op==(4:Int)) j (aq (op==(5:Int)) j (aq (op==(6
 :Int)) j (aq (op==(7:Int)) (aW (aC b&&(aC i&&aC d)&&u) (K (a (bD b (bD i d))) [])) (aq (op==(8:Int)) (aW z g) (aq (op==(9:
 Int)) (aW (aC c&&o&&(bf b&&p)) g) (aq (op==(10:Int)) v n)))))))))) (aq (op==(1:Int)) x (aq (op==(2:Int)) x (aq (op==(3:
 Int)) j (aq (op==(4:Int)) j (aq (op==(5:Int)) j (aq (op==(6:Int)) j (aq (op==(7:Int)) (aq h (aW (aC c&&(aC i&&aC d)&&u) (K
 (a (bD c (bD i d))) [])) (aW (aC b&&(true&&aC d)&&(bf b&&(true&&bf d))) (K (a (bD c y)) []))) (aq (op==(8:Int)) (aq h (aW
 z g) r) (aq (op==(9:Int)) (aq h (aW (aC b&&o&&(bf c&&p)) g) (aW (aC b&&(true&&e)&&(bf c&&(true&&f))) k)) (aq (op==
 (10:Int)) (aq h v r) n))))))))))):=by kernel_rfl
theorem QO κ b x y r:aq b (AV.lit (aB κ x)=AV.lit (aB κ r)) (AV.lit (aB κ y)=AV.lit (aB κ r))↔AV.lit (aB κ (bif b then x else y))=AV.lit (aB κ r):=by
 cases b<;>rfl
theorem SC(a b:Int):(a==b)=decide (a=b):=rfl
theorem HU(a b:Int):(a != b)= !decide (a=b):=rfl
def g49(κ:Kp):List AV->Option (Bool×AV)
 |[.agg [.lit (.int .i64 op), .agg [.lit (.string s), .ah 38 l], .agg [.lit (.int .i64 o1), .lit (.string s1), .lit (.int .i64 n1), .ah 38 l1], .agg [.lit (.int .i64 o2), .lit (.string s2), .lit (.int .i64 n2), .ah 38 l2]]]=>
  some (true, .lit (aB κ (j6 ⟨op,⟨s,aa l⟩, .mk o1 s1 n1 (aa l1), .mk o2 s2 n2 (aa l2)⟩)))
 |_=>none
theorem p49 κ:cj (Y8 κ) 12 175 (g49 κ):=by
 intro args x hh;unfold g49 at hh;split at hh
 ·rename_i op s l o1 s1 n1 l1 o2 s2 n2 l2
  simp only[an5,ao1,true_and] at hh;subst hh;refine⟨_,rfl,oW κ _,?_⟩;rw[y49];have ef:Value.iface 273 (.pointer (some κ.tree))=aB κ false:=rfl;rw[ef];simp only[nN,oW,GH,Bool.and_self,aW];simp only[←UK,←UT,SC,HU,QO];refine congrArg (fun b=>AV.lit (aB κ b)) ?_;have ix:Vn (.mk o1 s1 n1 (aa l1))=(decide (o1=1)||decide (o1=2)):=rfl;rw[Ks,ix];generalize bk ⟨s,aa l⟩=A
  generalize VM ⟨s,aa l⟩=N0
  generalize Le (.mk o1 s1 n1 (aa l1))=N1
  generalize Le (.mk o2 s2 n2 (aa l2))=N2
  generalize ar 20 (.mk o1 s1 n1 (aa l1))=R1
  generalize ar 20 (.mk o2 s2 n2 (aa l2))=R2
  generalize decide (o1=1)=a1
  generalize decide (o1=2)=a2
  generalize decide (o1=4)=a4
  generalize decide (o2=4)=b4
  generalize decide (o2=1)=b1
  generalize decide (op=1)=p1
  generalize decide (op=2)=p2
  generalize decide (op=3)=p3
  generalize decide (op=4)=p4
  generalize decide (op=5)=p5
  generalize decide (op=6)=p6
  generalize decide (op=7)=p7
  generalize decide (op=8)=p8
  generalize decide (op=9)=p9
  generalize decide (op=10)=p10
  cases p1
  case true=>cases a1<;>cases N1<;>cases A<;>cases N2<;>rfl
  cases p2
  case true=>cases a1<;>cases N1<;>cases A<;>cases N2<;>rfl
  cases p3
  case true=>cases a1<;>cases N0<;>cases a4<;>cases b4<;>cases R1<;>cases R2<;>rfl
  cases p4
  case true=>cases a1<;>cases N0<;>cases a4<;>cases b4<;>cases R1<;>cases R2<;>rfl
  cases p5
  case true=>cases a1<;>cases N0<;>cases a4<;>cases b4<;>cases R1<;>cases R2<;>rfl
  cases p6
  case true=>cases a1<;>cases N0<;>cases a4<;>cases b4<;>cases R1<;>cases R2<;>rfl
  cases p7
  case true=>cases a1<;>cases a2<;>cases A<;>cases N2<;>cases R1<;>rfl
  cases p8
  case true=>cases a1<;>cases a2<;>cases A<;>cases b1<;>cases R1<;>cases R2<;>rfl
  cases p9
  case true=>cases a1<;>cases a2<;>cases A<;>cases b1<;>cases R1<;>cases R2<;>rfl
  cases p10
  case true=>cases a1<;>cases a2<;>cases A<;>cases b1<;>cases R1<;>cases R2<;>rfl
  cases a1<;>rfl
 ·cases hh
noncomputable def RQ κ:=(Y8 κ).aK 175 (g49 κ)
theorem e49 κ:aE (RQ κ):=(e59 _).aK (m59 _) (p49 _)
theorem m49 κ:aj (RQ κ):=(m59 _).aK
structure dh where
 xs:List AV
 more:List AV
 rel:ByteArray
 hl:List AV
 bl:List AV
 line:Int
 i:Int
abbrev au(a:dh):AV:= .agg [.agg [.lit (.string a.rel), .ah 38 a.hl], .ah 80 a.bl, .int a.line]
abbrev Dm a:=sp 69 [(0, .cf 0),(1, .ptr 1 0 [] 0),(25, .ah 38 a.hl),(26, .int a.hl.length),(27, .int a.i)] [.ext (some a.xs), .box 48 (au a)]
abbrev OD a:=sp 69 [(0, .cf 0),(57, .ah 80 a.bl),(58, .int a.bl.length),(59, .int a.i)] [.ext (some a.xs), .box 48 (au a)]
def ni(κ:Kp)(l:List Bool):List AV:=l.map fun b=> .aJ [.lit (aB κ b)]
def Ah κ(a:dh):=a.hl.length<=aU/\0<=a.i/\a.i<=a.hl.length/\a.xs=ni κ ((aa (a.hl.drop a.i.toNat)).map (tC a.bl.length))++a.more
def HA κ(a:dh):=a.bl.length<=aU/\0<=a.i/\a.i<=a.bl.length/\a.xs=ni κ ((dv (a.bl.drop a.i.toNat)).map j6)
def FK(a:dh):Out (Exit×S):= .all (fun _=>True) fun b=> .aq b (.one (.exit 0,sp 69 [(0, .cf 0),(1, .ptr 1 0 [] 0)] [.ext (some a.more), .box 48 (au a)]))
 (.one (.ret,sp 69 [] [.ext none, .box 48 (au a)]))
def LR(a:dh):Out (Exit×S):= .all (fun _=>True) fun b=> .aq b (.one (.exit 2,sp 69 [] [.ext (some []), .box 48 (au a)]))
 (.one (.ret,sp 69 [] [.ext none, .box 48 (au a)]))
theorem ag6 κ a I n K:(vc (RQ κ) 12 171 none 2 (ad (Pr κ).toProgram 171 2) (Dm a) (bh (RQ κ) 171 2 2 I n K))=(
 letI b:=AV.int
 letI c:=Obj.box
 letI d:=Obj.ext
 letI f:=IntKind.wrap IntKind.i64 (a.i+(1:Int))
 letI g:=sp 69 [] [d none,c 48 (au a)]
 letI h:=af (nth a.hl a.i.toNat) 0
 letI e:=a.hl.length
 letI i:=∃(e1:List AV),a.xs=AV.aJ [AV.lit (Value.iface 273 (Value.pointer (some (Kp.tree κ))))]::e1/\(∃(e0:Nat),e0<n/\I e0 (sp 69 [(0,AV.cf
  0),(1,AV.ptr 1 0 [] 0),(25,AV.ah 38 a.hl),(26,b (↑e:Int)),(27,b f)] [d (some e1),c 48 (au a)]))/\K Exit.ret g
 aq (decide (a.i<(↑e:Int))) (aW (decide ((0:Int)<=a.i)&&decide (a.i<(↑e:Int))) (aq (toInt h != (4:Int)) (aq (!mI (toInt h)) (aq (toInt h !=
 (1:Int)) (∃(e1:List AV),a.xs=AV.aJ [AV.lit Value.nilIface]::e1/\(∃(e0:Nat),e0<n/\I e0 (sp 69 [(0,AV.cf 0),(1,AV.ptr 1 0 [] 0),(25,AV.ah
 38 a.hl),(26,b (↑e:Int)),(27,b f)] [d (some e1),c 48 (au a)]))/\K Exit.ret g) (∃(e1:List AV),a.xs=AV.aJ [AV.lit (aB κ
 (decide ((↑(a.bl.length):Int)>(0:Int))))]::e1/\(∃(e0:Nat),e0<n/\I e0 (sp 69 [(0,AV.cf 0),(1,AV.ptr 1 0 [] 0),(25,AV.ah 38 a.hl),(26,
 b (↑e:Int)),(27,b f)] [d (some e1),c 48 (au a)]))/\K Exit.ret g)) i) i)) (K (Exit.exit 0) (sp 69 [(0,AV.cf 0),(1,AV.ptr 1 0
 [] 0)] [d (some a.xs),c 48 (au a)]))):=by kernel_rfl
theorem ah4 κ:aR (RQ κ) 12 171 2 (aG 2 Dm (Ah κ) FK):=by
 refine aD (fun a=>a.hl.length - a.i.toNat) ?_;rintro⟨xs,more,rel,hl,bl,line,i⟩ K ⟨h1,h2,h3,h4⟩ ho;simp only at h1 h2 h3 h4;rw[show(RQ κ).P=Pr κ from rfl,ag6];have ef:Value.iface 273 (.pointer (some κ.tree))=aB κ false:=rfl;have et:Value.nilIface=aB κ true:=rfl;have ho1:=ho true trivial;have ho2:=ho false trivial;simp only[Out.run,aq] at ho1 ho2;simp only[ef,et];simp only[aU] at h1;simp only[ae,ai,an2,an4,an3];refine⟨fun hi=>⟨⟨h2,hi⟩,?_⟩,fun hi=>?_⟩
 ·rw[eR hl i.toNat (by omega)] at h4
  have hop:(cE (nth hl i.toNat)).op=toInt (af (nth hl i.toNat) 0):=by rw[da];rfl
  simp only[ao9,ni,tC,hop,List.cons_append] at h4;rw[az (n:=i+1) (by omega) (by omega)];have go: ∀b,b=(!decide (toInt (af (nth hl i.toNat) 0)=4)&& !mI (toInt (af (nth hl i.toNat) 0))&&(!decide (toInt (af (nth hl i.toNat) 0)=1)||decide (0<bl.length)))->
    ∃rest,xs=AV.aJ [AV.lit (aB κ b)]::rest/\(∃m,m<hl.length - i.toNat/\ei Dm (Ah κ) FK (fun a=>a.hl.length - a.i.toNat) K m (Dm ⟨rest,more,rel,hl,bl,line,i+1⟩))/\K Exit.ret (sp 69 [] [.ext none, .box 48 (au ⟨xs,more,rel,hl,bl,line,i⟩)]):=by
   rintro b rfl;refine⟨_,h4,⟨_,?_,⟨_,more,rel,hl,bl,line,i+1⟩,rfl,⟨by simpa[aU] using h1,by simp only;omega,by simp only;omega,?_⟩,rfl,ho⟩,ho2⟩
   ·simp only;omega
   ·simp only[ni,show(i+1).toNat=i.toNat+1 by omega]
  simp only[HU,Bool.not_eq_true',ao4,an2,an4]
  grind [decide_eq_true,decide_eq_false]
 ·rw[ao0 (by omega)] at h4
  simp only[aa,ni,List.map_nil,List.nil_append] at h4;subst h4;exact ho1
noncomputable def A6 κ:=(RQ κ).an 171 2 (aG 2 Dm (Ah κ) FK)
theorem af9 κ:aE (A6 κ):=(e49 _).an (m49 _) (ah4 _)
theorem Zj κ:aj (A6 κ):=(m49 _).an aI
theorem ah5 κ a I n K:(vc (A6 κ) 12 171 none 2 (ad (Pr κ).toProgram 171 7) (OD a) (bh (A6 κ) 171 7 2 I n K))=(
 letI b:=nth a.bl a.i.toNat
 letI c:=AV.agg [AV.agg [AV.str a.rel,AV.ah 38 a.hl],AV.ah 80 a.bl,AV.int a.line]
 letI d:=a.i<(↑(a.bl.length):Int)
 aq (decide d) (aW (decide ((0:Int)<=a.i)&&decide d) (∃(e1:List AV),a.xs=AV.aJ [AV.lit (aB κ (j6 {op:=toInt (af b 0),a:={rel:=toStr (af (af b 1) 0),l:=aa (ag (af (af b 1) 1))},x:=Tm.mk (toInt (af (af b 2) 0)) (toStr (af (af b 2) 1)) (toInt (af (af b 2) 2)) (aa (ag (af (af b 2) 3))),y:=Tm.mk (toInt (af (af b 3) 0)) (toStr (af (af b 3) 1)) (toInt (af (af b 3) 2)) (aa (ag (af (af b 3) 3)))}))]::e1/\(∃(e0:Nat),e0<n/\I e0 (sp 69 [(0,AV.cf 0),(57,AV.ah 80 a.bl),(58,AV.int (↑(a.bl.length):Int)),(59,AV.int (IntKind.wrap IntKind.i64 (a.i+(1:Int))))] [Obj.ext (some e1),Obj.box 48 c]))/\K Exit.ret (sp 69 [] [Obj.ext none,Obj.box 48 c]))) (K (Exit.exit 2) (sp 69 [] [Obj.ext (some a.xs),Obj.box 48 c]))):=by kernel_rfl
theorem aj3 κ:aR (A6 κ) 12 171 7 (aG 2 OD (HA κ) LR):=by
 refine aD (fun a=>a.bl.length - a.i.toNat) ?_;rintro⟨xs,more,rel,hl,bl,line,i⟩ K ⟨h1,h2,h3,h4⟩ ho;simp only at h1 h2 h3 h4;rw[show(A6 κ).P=Pr κ from rfl,ah5];have ho1:=ho true trivial;have ho2:=ho false trivial;simp only[Out.run,aq] at ho1 ho2;simp only[aU] at h1;simp only[ae,ai,an2,an4,an3,←lt_eq];refine⟨fun hi=>⟨⟨h2,hi⟩,?_⟩,fun hi=>?_⟩
 ·rw[o5 bl i.toNat (by omega)] at h4
  simp only[ao9,ni] at h4;rw[az (n:=i+1) (by omega) (by omega)];refine⟨_,h4,⟨_,?_,⟨_,more,rel,hl,bl,line,i+1⟩,rfl,⟨by simpa[aU] using h1,by simp only;omega,by simp only;omega,?_⟩,rfl,ho⟩,ho2⟩
  ·simp only;omega
  ·simp only[ni,show(i+1).toNat=i.toNat+1 by omega]
 ·rw[ao0 (by omega)] at h4
  simp only[dv,ni,List.map_nil] at h4;subst h4;exact ho1
noncomputable def NJ κ:=(A6 κ).an 171 7 (aG 2 OD (HA κ) LR)
theorem am8 κ:aE (NJ κ):=(af9 _).an (Zj _) (aj3 _)
theorem ZB κ:aj (NJ κ):=(Zj _).an aI
theorem y45 κ a K:(a7 (NJ κ) 12 171 [.cf 0, .ptr 1 0 [] 0] [.ext (some a.xs), .box 48 (au a)] K)=(
 letI b:=AV.int
 letI c:=AV.agg
 letI d:=Obj.box
 letI e:=Obj.ext
 letI f:=AV.aJ
 letI g:=AV.ah
 letI h:=c [c [AV.str a.rel,g 38 a.hl],g 80 a.bl,b a.line]
 letI k:=Pg.toProgram (Env.P (RQ κ))
 letI m:=Pg.toProgram (Env.P (A6 κ))
 ∃(e5:List AV),a.xs=f [AV.lit (aB κ (bk {rel:=a.rel,l:=aa a.hl}))]::e5/\(∃(e4:List AV),e5=f [AV.lit (aB κ (decide ((↑(a.bl.length):Int)<=(20:Int))))]::e4/\(ad k 171 2=ad k 171 2/\∃(e3:dh),letI i:=c [c [AV.str e3.rel,g 38 e3.hl],g 80 e3.bl,b e3.line];sp 69 [(0,AV.cf 0),(1,AV.ptr 1 0 [] 0),(25,g 38 a.hl),(26,b (↑(a.hl.length):Int)),(27,b 0)] [e (some e4),d 48 h]=sp 69 [(0,AV.cf 0),(1,AV.ptr 1 0 [] 0),(25,g 38 e3.hl),(26,b (↑(e3.hl.length):Int)),(27,b e3.i)] [e (some e3.xs),d 48 i]/\(e3.hl.length<=9223372036854775807/\(0:Int)<=e3.i/\e3.i<=(↑(e3.hl.length):Int)/\e3.xs=ni κ (List.map (tC e3.bl.length) (aa (List.drop e3.i.toNat e3.hl)))++e3.more)/\∀(e2:Bool),True->aq e2 (ad m 171 7=ad m 171 7/\∃(e1:dh),letI j:=c [c [AV.str e1.rel,g 38 e1.hl],g 80 e1.bl,b e1.line];sp 69 [(0,AV.cf 0),(57,g 80 e3.bl),(58,b (↑(e3.bl.length):Int)),(59,b 0)] [e (some e3.more),d 48 i]=sp 69 [(0,AV.cf 0),(57,g 80 e1.bl),(58,b (↑(e1.bl.length):Int)),(59,b e1.i)] [e (some e1.xs),d 48 j]/\(e1.bl.length<=9223372036854775807/\(0:Int)<=e1.i/\e1.i<=(↑(e1.bl.length):Int)/\e1.xs=ni κ (List.map j6 (dv (List.drop e1.i.toNat e1.bl))))/\∀(e0:Bool),True->aq e0 (K (f []) [e (some []),d 48 j]) (K (f []) [e none,d 48 j])) (K (f []) [e none,d 48 i]))/\K (f []) [e none,d 48 h])/\K (f []) [e none,d 48 h]):=by kernel_rfl
def LX(a:dh):List AV×List Dn.Obj:=([.cf 0, .ptr 1 0 [] 0],[.ext (some a.xs), .box 48 (au a)])
def FR κ(a:dh):=a.hl.length<=aU/\a.bl.length<=aU/\a.xs=ni κ (ud ⟨⟨a.rel,aa a.hl⟩,dv a.bl⟩)
def Oa:dh->Out (AV×List Dn.Obj):=fun _=> .all (fun st'=>sv st') fun st'=> .one (.aJ [],st')
theorem c45 κ:bg (NJ κ) 12 171 (aO LX (FR κ) Oa):=by
 refine aQ ?_;rintro⟨xs,more,rel,hl,bl,line,i⟩ K ⟨h1,h2,h3⟩ ho;simp only at h1 h2 h3;simp only[LX];rw[y45 κ ⟨xs,more,rel,hl,bl,line,i⟩];simp only;have hn: ∀b,K (.aJ []) [.ext none,b]:=fun b=>ho _ trivial
 have h0: ∀b,K (.aJ []) [.ext (some []),b]:=fun b=>ho _ trivial
 subst h3;have e20:decide ((bl.length:Int)<=20)=decide (bl.length<=20):=by
  by_cases h:bl.length<=20
  ·rw[an8 h,an8 (by omega)]
  ·rw[an6 h,an6 (by omega)]
 rw[e20];simp only[ud,ni,ao9,Al];refine⟨_,rfl,⟨_,rfl,⟨trivial,⟨_,ni κ ((dv bl).map j6),rel,hl,bl,line,0⟩,rfl,⟨h1,by simp only;omega,by simp only;omega,?_⟩,?_⟩,hn _⟩,hn _⟩
 ·simp[ni]
 ·intro y _
  cases y
  ·exact hn _
  ·refine⟨trivial,⟨_,[],rel,hl,bl,line,0⟩,rfl,⟨h2,by simp only;omega,by simp only;omega,by simp[ni]⟩,?_⟩
   intro y _;cases y
   ·exact hn _
   ·exact h0 _
set_option maxRecDepth 20000 in
noncomputable def TV(κ:Kp):Env:=(NJ κ).aw 171 (aO LX (FR κ) Oa)
theorem e45 κ:aE (TV κ):=(am8 _).aw (ZB _) (c45 _)
theorem m45 κ:aj (TV κ):=(ZB _).aw aH
noncomputable abbrev U6(κ:Kp)(a:dh)(st:LoopState)(p:Option Code):Dn.Obj:=
 .loop (iO (Pr κ).toProgram 96 3 st p (ik (bO 15) [(0,au a),(1, .ptr 0 0 [] 0),(2, .bool false),(3, .ptr 1 0 [] 0),(5,au a),(6, .bm 171 [.ptr 2 0 [] 0])]))
noncomputable abbrev qk κ a:=[.box 48 (au a), .box 171 (.lit .nilIface), .box 48 (au a),U6 κ a .ready none]
noncomputable abbrev GI κ a:=[.box 48 (au a), .box 171 (.lit .nilIface), .dead,U6 κ a .ready none]
theorem s16 κ a Q:(tidy (Pr κ).toProgram 4 (dy (qk κ a) (b8 (qk κ a) [.ptr 2 0 [] 0])) Q)=(
 Q [Obj.box 48 (au a),Obj.box 171 (AV.lit Value.nilIface),Obj.dead,Dn.Obj.loop (iO Tryz.prog 96 3 LoopState.ready none (ik (bO 15) [(0,au a),(1,AV.ptr 0 0
 [] 0),(2,AV.bool false),(3,AV.ptr 1 0 [] 0),(5,au a),(6,AV.bm 171 [AV.ptr 2 0 [] 0])]))]):=by kernel_rfl
theorem r16 κ a u Q(K2:List Dn.Obj->Prop):(gu (vc (TV κ) 12) 3 [.lit u] (GI κ a) (fun r st''=>match r with| .lit (.bool true)=>tidy (Pr κ).toProgram 4 st'' Q| .lit (.bool false)=>K2 st''|_=>False))=(
 letI b:=Obj.box
 letI c:=ik (bO 15) [(0,au a),(1,AV.ptr 0 0 [] 0),(2,AV.bool false),(3,AV.ptr 1 0 [] 0),(5,au a),(6,AV.bm 171 [AV.ptr 2 0 [] 0])]
 aW (aC u) (aq (!bP u) (K2 [b 48 (au a),b 171 (AV.lit u),Obj.dead,Dn.Obj.loop (iO Tryz.prog 96 3 LoopState.done (some (Code.exit 0)) c)]) (Q
 [b 48 (au a),b 171 (AV.lit Value.nilIface),Obj.dead,Dn.Obj.loop (iO Tryz.prog 96 3 LoopState.ready none c)]))):=by kernel_rfl
noncomputable abbrev VP κ a:=[.box 48 (au a), .box 171 (.lit (aB κ false)), .dead,U6 κ a .done (some (.exit 0))]
def wU(a:dh):Rl:=⟨⟨a.rel,aa a.hl⟩,dv a.bl⟩
theorem k16 κ a xs:(AV.cf 0::fP (iW (b8 (qk κ a) [.ptr 2 0 [] 0])) [.ptr 2 0 [] 0],Obj.ext (some xs)::gx (iW (b8 (qk κ a) [.ptr 2 0 [] 0])) (gz (qk κ a) (b8 (qk κ a) [.ptr 2 0 [] 0])))=LX {a with xs:=xs}:=by kernel_rfl
theorem o16 κ a:my (qk κ a) [.ptr 2 0 [] 0]=true:=by kernel_rfl
noncomputable def Ve(κ:Kp):eH:=fun caps st K=>∃a,(caps,st)=([AV.ptr 2 0 [] 0],qk κ a)/\(a.hl.length<=aU/\a.bl.length<=aU)/\aq (a9 (wU a)) (K (GI κ a)) (K (VP κ a))
theorem KG κ:(Ve κ).gw:=by
 rintro caps st K K' hK ⟨a,h1,h2,h3⟩;refine⟨a,h1,h2,?_⟩
 grind [ae]
theorem call45 κ args st K(h:aO LX (FR κ) Oa args st K):(TV κ).call 171 args st K:=h
theorem af5 κ:jb (TV κ) 12 171 (Ve κ):=by
 rintro caps st K ⟨a,h1,h2,h3⟩;obtain⟨rfl,rfl⟩:=Prod.mk.inj h1;rw[ae] at h3;refine⟨ni κ (ud (wU a)),fun items st'=>∃l,items=ni κ l/\st'=GI κ a/\a9 (wU a)=l.all id,⟨o16 κ a,?_,?_,?_,?_⟩⟩
 ·refine call45 κ _ _ _ ?_
  refine⟨{a with xs:=ni κ (ud (wU a))},?_,⟨h2.1,h2.2,rfl⟩,fun st' h=>h⟩;exact k16 κ a _
 ·rw[show(TV κ).P=Pr κ from rfl,show(qk κ a).length=4 from rfl,s16]
  exact⟨_,rfl,rfl,Ff _⟩
 ·rintro us rest st' ⟨l,e1,rfl,e3⟩
  cases l with
  |nil=>cases e1
  |cons b l=>
   simp only[ni,ao9,List.cons.injEq,AV.aJ.injEq] at e1;obtain⟨rfl,rfl⟩:=e1;rw[show(TV κ).P=Pr κ from rfl,show(qk κ a).length=4 from rfl];refine Eq.mpr (r16 κ a (aB κ b) _ _) ?_;rw[nN,qD];cases b with
   |true=>exact⟨l,rfl,rfl,by rw[e3];rfl⟩
   |false=>exact h3.2 (by rw[e3];rfl)
 ·rintro st' ⟨l,e1,rfl,e3⟩
  cases l with
  |nil=>exact h3.1 (by rw[e3];rfl)
  |cons b l=>cases e1
def ah7:List Nat:=[171]
noncomputable def VR κ:=((TV κ).addRange 96 3 171 (Ve κ)).cO fun f=>iS f ah7
theorem aj6 κ:aE (VR κ):=((e45 _).addRange (m45 _) (af5 _)).cO _
theorem ad2 κ:aj (VR κ):=((m45 _).addRange (KG _)).cO _
end Go.Proofs.YtioeffnadipbaaaGreatDoor
namespace Go.Proofs.YtioeffnadipbaaaGreatDoor
open Go Go.Dn Go.Rl Go.Proofs Go.RowKit Go.Extern.Stop Go.Stop Go.Extern
theorem xm v w:(Extern.ReflectliteType.typeOf #[.iface 273 v]).run Tryz.prog w= .ok (.iface 257 (.agg #[.pointer (some ⟨5,273,none⟩)])) w:=by kernel_rfl
theorem mW w:((Extern.ReflectliteType.method fun t=>do Go.Extern.Rtype.noPackHeld "Comparable" t;(fun a=>Value.bool a.comparable)<$>typeInfo t) #[.agg #[.pointer (some ⟨5,273,none⟩)]]).run Tryz.prog w= .ok (.bool true) w:=by kernel_rfl
theorem iG v w:(Go.method 411 257 v "Comparable").run Tryz.prog w= .ok (222,v) w:=by kernel_rfl
theorem Gf:(Tryz.prog.info? 273).map (·.comparable)=some true:=by kernel_rfl
theorem Fk:(Tryz.prog.info? 299).map (·.size)=some 1:=by kernel_rfl
set_option maxRecDepth 4000 in
theorem G8(a:Addr)(w:World):
  Calls Tryz.prog 108 #[.iface 273 (.pointer (some a)), .iface 273 (.pointer (some a))] w fun e w'=>e= .returned (.bool true)/\w'=w:=by
 obtain⟨i,hi,hcmp⟩:=Option.map_eq_some_iff.1 Gf;obtain⟨j,hj,hjs⟩:=Option.map_eq_some_iff.1 Fk;have h8:= @run_callFunc_extern Tryz.prog 157 _ Extern.ReflectliteType.typeOf Tryz.func157 (by kernel_rfl) (by kernel_rfl) (by kernel_rfl) (by kernel_rfl);have h32:= @run_callFunc_extern Tryz.prog 222 _ (Extern.ReflectliteType.method fun t=>do Go.Extern.Rtype.noPackHeld "Comparable" t;pure (.bool (←typeInfo t).comparable)) Tryz.func222 (by kernel_rfl) (by kernel_rfl) (by kernel_rfl) (by kernel_rfl);have tT:=xm;have cT:=mW;have mR:=iG;have heq:=run_eql_iface_ptr_same (P:=Tryz.prog) w a Tryz.underlying171 Tryz.underlying273 hi hcmp hj
 go_enter Tryz.func108,Tryz.ntmps108
 go_wp2
 refine wp_loop_rounds 1 ?_;rw[rounds_succ]
 go_wp2
 go_ret
 exact⟨rfl,rfl⟩
theorem O8 b w:
  Calls Tryz.prog 108 #[.nilIface, .iface 273 (.pointer (some b))] w fun e w'=>e= .returned (.bool false)/\w'=w:=by
 have hn:=run_eql_iface_nil_left  w 273 (.pointer (some b)) Tryz.underlying171
 go_wp2
 go_ret
 simp
def gIs:List AV->Option (Bool×AV)
 |[.lit .nilIface, .lit (.iface 273 (.pointer (some _)))]=>some (true, .bool false)
 |[.lit (.iface 273 (.pointer (some a))), .lit (.iface 273 (.pointer (some b)))]=>some (decide (a=b), .bool true)
 |_=>none
theorem xw{C u v vs}(h:MT C [.lit u, .lit v] vs.toList):vs= #[u,v]:=by
 obtain⟨l⟩:=vs;match l,h with
 |[a,b],h=>
  simp only[MT] at h;have h1:Rel C (.lit u) a:=⟨h.1,h.2.1,h.2.2.1⟩
  have h2:Rel C (.lit v) b:=⟨h.2.2.2.1,h.2.2.2.2.1,h.2.2.2.2.2.1⟩
  rw[aV h1,aV h2]
 |[],h=>simp[MT] at h
 |[_],h=>simp[MT] at h
 |_::_::_::_,h=>simp[MT] at h
theorem qIs κ:gy (Pr κ) 108 gIs:=by
 intro args x hn hg;unfold gIs at hg;split at hg
 ·simp only[an5,ao1,true_and] at hg
  subst hg;refine⟨_,_,Tryz.func108,rfl,rfl,rfl,fun C vs hC hI hm=>?_⟩;rw[xw hm];refine(callsIn_wide.2 (O8 _ C.w)).mono ?_;rintro e w' ⟨rfl,rfl⟩;exact⟨rfl,ir.refl _⟩
 ·simp only[an5,ao1,an2] at hg
  obtain⟨rfl,rfl⟩:=hg;refine⟨_,_,Tryz.func108,rfl,rfl,rfl,fun C vs hC hI hm=>?_⟩;rw[xw hm];refine(callsIn_wide.2 (G8 _ C.w)).mono ?_;rintro e w' ⟨rfl,rfl⟩;exact⟨rfl,ir.refl _⟩
 ·cases hg
end Go.Proofs.YtioeffnadipbaaaGreatDoor
namespace Go.Proofs.YtioeffnadipbaaaGreatDoor
open Go Go.Dn Go.Rl Go.Proofs
attribute [local irreducible] a7 vc
set_option maxRecDepth 20000
noncomputable def Yn κ:=(VR κ).aK 108 gIs
theorem eIs κ:aE (Yn κ):=(aj6 _).eQ (qIs _)
theorem mIs κ:aj (Yn κ):=(ad2 _).aK
theorem y16 κ a K:(a7 (Yn κ) 12 96 [au a] [] K)=(
 letI b:=AV.ptr
 letI c:=AV.bool
 letI d:=Obj.box
 ∃(e0:dh),([b 2 0 [] 0],[d 48 (au a),d 171 (AV.lit Value.nilIface),d 48 (au a),Dn.Obj.loop (iO Tryz.prog 96 3 LoopState.ready none
 (ik (bO 15) [(0,au a),(1,b 0 0 [] 0),(2,c false),(3,b 1 0 [] 0),(5,au a),(6,AV.bm 171 [b 2 0 [] 0])]))])=([b 2 0 [] 0],
 [d 48 (au e0),d 171 (AV.lit Value.nilIface),d 48 (au e0),Dn.Obj.loop (iO Tryz.prog 96 3 LoopState.ready none (ik (bO 15) [(0,au e0),(1,
 b 0 0 [] 0),(2,c false),(3,b 1 0 [] 0),(5,au e0),(6,AV.bm 171 [b 2 0 [] 0])]))])/\(e0.hl.length<=9223372036854775807/\
 e0.bl.length<=9223372036854775807)/\aq (a9 (wU e0)) (K (c true) []) (aW (decide (Kp.tree κ=Kp.tree κ)) (K (c false) []))):=by kernel_rfl
def g16:List AV->Option (Bool×AV)
 |[.agg [.agg [.lit (.string rel), .ah 38 hl], .ah 80 bl, .lit (.int .i64 _)]]=>some (decide (hl.length<=aU)&&decide (bl.length<=aU), .bool (a9 ⟨⟨rel,aa hl⟩,dv bl⟩))
 |_=>none
theorem p16 κ:cj (Yn κ) 12 96 g16:=by
 intro args x hh;unfold g16 at hh;split at hh
 ·rename_i rel hl bl line
  simp only[an5,ao1,an3,an2] at hh;obtain⟨⟨h1,h2⟩,rfl⟩:=hh;refine⟨_,rfl,rfl,?_⟩;rw[y16 κ ⟨[],[],rel,hl,bl,line,0⟩];refine⟨⟨[],[],rel,hl,bl,line,0⟩,rfl,⟨h1,h2⟩,?_⟩;rw[ae];refine⟨fun e=>?_,fun e=>?_⟩
  ·rw[show a9 ⟨⟨rel,aa hl⟩,dv bl⟩=true from e]
  ·rw[show a9 ⟨⟨rel,aa hl⟩,dv bl⟩=false from e]
   simp[aW]
 ·cases hh
noncomputable def E16 κ:=(Yn κ).aK 96 g16
theorem e16 κ:aE (E16 κ):=(eIs _).aK (mIs _) (p16 _)
theorem m16 κ:aj (E16 κ):=(mIs _).aK
def UM(l:List AV):List AV×List Dn.Obj:=([.ah 38 l],[])
def Vl n l:=bj (aa l)=n/\n<=100000
def Ml(l:List AV):Out (AV×List Dn.Obj):= .one (.ak 0 0 (ax (aa l)).length,[.row 9 (strs (ax (aa l)))])
def SA n:=aO UM (Vl n) Ml
noncomputable def F4 κ r:=(E16 κ).aw 155 fun args st K=>∃m,m<r/\SA m args st K
theorem x31 κ r l i xs k I n K:(vc (F4 κ r) 12 155 none 0 (ad (Pr κ).toProgram 155 3) (sp 27 [(3, .ak 0 0 k),(6, .ah 38 l),(7, .int l.length),(8, .int i)] [.row 9 xs]) (bh (F4 κ r) 155 3 0 I n K))=(
 letI a:=AV.ah
 letI c:=IntKind.wrap IntKind.i64 (i+(1:Int))
 letI b:=nth l i.toNat
 letI d:=i<(↑(l.length):Int)
 aq (decide d) (aW (decide ((0:Int)<=i)&&decide d) (aq (toInt (af b 0)==(1:Int)) (aW (decide ((k+1+1)*17<=70368744177664)) (∃(e2:Nat),e2<r/\∃(e1:List AV),letI e:=List.drop 0 (strs (ax (aa e1)));letI f:=List.length (ax (aa e1));letI g:=List.take f e;([a 38 (ag (af b 3))],aL)=([a 38 e1],aL)/\(bj (aa e1)=e2/\e2<=100000)/\aW (decide ((k+1+List.length g+1)*17<=70368744177664)) (∃(e0:Nat),e0<n/\I e0 (sp 27 [(3,AV.ak 0 0 (k+1+List.length g)),(6,a 38 l),(7,AV.int (↑(l.length):Int)),(8,AV.int c)] [Obj.row 9 (List.take (k+1) (List.take k xs++[AV.str (toStr (af b 1))])++List.take f e)])))) (∃(e2:Nat),e2<r/\∃(e1:List AV),letI h:=List.drop 0 (strs (ax (aa e1)));letI j:=List.length (ax (aa e1));letI m:=List.take j h;([a 38 (ag (af b 3))],aL)=([a 38 e1],aL)/\(bj (aa e1)=e2/\e2<=100000)/\aW (decide ((k+List.length m+1)*17<=70368744177664)) (∃(e0:Nat),e0<n/\I e0 (sp 27 [(3,AV.ak 0 0 (k+List.length m)),(6,a 38 l),(7,AV.int (↑(l.length):Int)),(8,AV.int c)] [Obj.row 9 (List.take k xs++List.take j h)]))))) (K (Exit.exit 0) (sp 27 [(3,AV.ak 0 0 k)] [Obj.row 9 xs]))):=by kernel_rfl
abbrev Ir(a:List _×Int×List _):=sp 27 [(3, .ak 0 0 a.2.2.length),(6, .ah 38 a.1),(7, .int a.1.length),(8, .int a.2.1)] [.row 9 (strs a.2.2)]
def HE r(a:List _×Int×List ByteArray):=a.1.length<=aU/\0<=a.2.1/\a.2.1<=a.1.length/\bj (aa (a.1.drop a.2.1.toNat))<=r/\a.2.2.length+bj (aa (a.1.drop a.2.1.toNat))<=100000
def wb(a:List AV×Int×List ByteArray):Out (Exit×S):= .one (.exit 0,sp 27 [(3, .ak 0 0 (a.2.2++ax (aa (a.1.drop a.2.1.toNat))).length)] [.row 9 (strs (a.2.2++ax (aa (a.1.drop a.2.1.toNat))))])
theorem Q7 l i(h:i<l.length):bj (aa (l.drop i))=1+bj (aa (ag (af (nth l i) 3)))+bj (aa (l.drop (i+1))):=by
 grind [eR,bj,da,Tm.mS]
theorem Ph l i(h:i<l.length):ax (aa (l.drop i))=(bif decide (toInt (af (nth l i) 0)=1) then[toStr (af (nth l i) 1)] else[])++ax (aa (ag (af (nth l i) 3)))++ax (aa (l.drop (i+1))):=by
 grind [eR,ax,da,Tm.vars]
theorem l31 κ r:aR (F4 κ r) 12 155 3 (aG 0 Ir (HE r) wb):=by
 refine aD (fun a=>a.1.length - a.2.1.toNat) ?_;rintro⟨l,i,vs⟩ K ⟨h1,h2,h3,h4,h5⟩ ho;simp only at h1 h2 h3 h4 h5;rw[show(F4 κ r).P=Pr κ from rfl];refine Eq.mpr (x31 κ r l i (strs vs) vs.length _ _ K) ?_;simp only[ao2,cL];simp only[aU] at h1;simp only[ae,ai,an2,an4,an3,beq_iff_eq,beq_eq_false_iff_ne];refine⟨fun hi=>⟨⟨h2,hi⟩,?_⟩,fun hi=>?_⟩
 ·have hc:=Q7 l i.toNat (by omega)
  have hv:=Ph l i.toNat (by omega);have hle:=cF (aa (ag (af (nth l i.toNat) 3)));rw[az (n:=i+1) (by omega) (by omega)];refine⟨fun e1=>⟨by omega,_,?_,ag (af (nth l i.toNat) 3),rfl,⟨rfl,by omega⟩,?_,_,?_,(l,i+1,vs++[toStr (af (nth l i.toNat) 1)]++ax (aa (ag (af (nth l i.toNat) 3)))),?_,⟨by simpa[aU] using h1,by simp only;omega,by simp only;omega,?_,?_⟩,rfl,?_⟩,
   fun e1=>⟨_,?_,ag (af (nth l i.toNat) 3),rfl,⟨rfl,by omega⟩,?_,_,?_,(l,i+1,vs++ax (aa (ag (af (nth l i.toNat) 3)))),?_,⟨by simpa[aU] using h1,by simp only;omega,by simp only;omega,?_,?_⟩,rfl,?_⟩⟩
  all_goals first
   |omega
   |(simp only[bc];omega)
   |(simp only[show(i+1).toNat=i.toNat+1 by omega,ao7,List.length_cons,List.length_nil];omega)
   |skip
  ·simp only[Ir,iY,bc,ao7,List.length_cons,List.length_nil]
   rw[List.take_of_length_le (by simp[bc])];rfl
  ·simp only[wb,Out.run,show(i+1).toNat=i.toNat+1 by omega] at ho⊢
   rw[hv,an8 e1] at ho;simpa[List.append_assoc] using ho
  ·simp only[Ir,iY,bc,ao7]
  ·simp only[wb,Out.run,show(i+1).toNat=i.toNat+1 by omega] at ho⊢
   rw[hv,an6 e1] at ho;simpa[List.append_assoc] using ho
 ·simp only[wb,Out.run] at ho
  rw[ao0 (by omega)] at ho;simpa[aa,ax] using ho
noncomputable def Mf κ r:=(F4 κ r).an 155 3 (aG 0 Ir (HE r) wb)
theorem y31 κ r l K:(a7 (Mf κ r) 12 155 [.ah 38 l] [] K)=(
 ad (Pg.toProgram (Env.P (F4 κ r))) 155 3=ad (Pg.toProgram (Env.P (F4 κ r))) 155 3/\∃(a:List AV×Int×List ByteArray),letI b:=aa (List.drop a.2.1.toNat a.1);sp 27 [(3,AV.ak 0 0 0),(6,AV.ah 38 l),(7,AV.int (↑(l.length):Int)),(8,AV.int 0)] [Obj.row 9 []]=sp 27 [(3,AV.ak 0 0 (List.length a.2.2)),(6,AV.ah 38 a.1),(7,AV.int (↑(a.1.length):Int)),(8,AV.int a.2.1)] [Obj.row 9 (strs a.2.2)]/\(a.1.length<=9223372036854775807/\(0:Int)<=a.2.1/\a.2.1<=(↑(a.1.length):Int)/\bj b<=r/\List.length a.2.2+bj b<=100000)/\K (AV.ak 0 0 (List.length (a.2.2++ax b))) [Obj.row 9 (strs (a.2.2++ax b))]):=by kernel_rfl
theorem Ju n:(SA n).gw:=aH
theorem af7 κ r(hp: ∀args st K,(∃m,m<r/\SA m args st K)->b6 (Pr κ) 155 args st K):aE (Mf κ r)/\aj (Mf κ r)/\(Mf κ r).P=Pr κ:=
 have h:=(e16 _).fV hp;have hm:=(m16 _).aw fun _ _ _ _ hK ⟨m,h1,h2⟩=>⟨m,h1,Ju m _ _ _ _ hK h2⟩
 ⟨h.an hm (l31 _ r),hm.an aI,rfl⟩
theorem c31 κ r:bg (Mf κ r) 12 155 (SA r):=by
 refine aQ ?_;rintro l K ⟨h1,h2⟩ ho;refine Eq.mpr (y31 κ r l K) ?_;have:=gI (aa l)
 rw[er] at this;refine⟨rfl,(l,0,[]),rfl,⟨by simp only;omega,by simp only;omega,by simp only;omega,?_,?_⟩,?_⟩
 ·grind
 ·grind
 ·exact ho
def bE l:=bj (aa l)<=100000
theorem q31 κ: ∀args st K,aO UM bE Ml args st K->b6 (Pr κ) 155 args st K:=by
 rintro args st K ⟨l,h1,h2,h3⟩;exact aE.pJ _ _ (af7 _) (c31 _) _ _ _ K ⟨l,h1,⟨rfl,h2⟩,h3⟩
noncomputable def RT κ:=(E16 κ).aw 155 (aO UM bE Ml)
theorem e31 κ:aE (RT κ):=(e16 _).fV (q31 _)
theorem m31 κ:aj (RT κ):=(m16 _).aw aH
theorem x23 κ l i es I n K:(vc (RT κ) 12 112 none 1 (ad (Pr κ).toProgram 112 1) (sp 15 [(0, .mp 0),(6, .ah 9 l),(7, .int l.length),(8, .int i)] [.map 9 4 es]) (bh (RT κ) 112 1 1 I n K))=(
 letI a:=i<(↑(l.length):Int)
 aq (decide a) (aW (decide ((0:Int)<=i)&&decide a) (∃(e0:Nat),e0<n/\I e0 (sp 15 [(0,AV.mp 0),(6,AV.ah 9 l),(7,AV.int (↑(l.length):Int)),(8,
 AV.int (IntKind.wrap IntKind.i64 (i+(1:Int))))] [Dn.Obj.map 9 4 (eC es (Value.string (toStr (nth l i.toNat))) (AV.bool true))]))) (K (Exit.exit 0) (sp 15 []
 [Dn.Obj.map 9 4 es]))):=by kernel_rfl
abbrev Tj(a:List _×Int×List _):=sp 15 [(0, .mp 0),(6, .ah 9 a.1),(7, .int a.1.length),(8, .int a.2.1)] [.map 9 4 a.2.2]
def vk(a:List AV×Int×List (Value×AV)):=a.1.length<=aU/\0<=a.2.1/\a.2.1<=a.1.length
def Bn(a:List AV×Int×List (Value×AV)):Out (Exit×S):= .one (.exit 0,sp 15 [] [.map 9 4 (fK a.2.2 (a.1.drop a.2.1.toNat))])
theorem l23 κ:aR (RT κ) 12 112 1 (aG 1 Tj vk Bn):=by
 refine aD (fun a=>a.1.length - a.2.1.toNat) ?_;rintro⟨l,i,es⟩ K ⟨h1,h2,h3⟩ ho;simp only at h1 h2 h3;rw[show(RT κ).P=Pr κ from rfl];refine Eq.mpr (x23 κ l i es _ _ K) ?_;simp only[aU] at h1;simp only[ae,ai,an2,an4,an3];refine⟨fun hi=>⟨⟨h2,hi⟩,?_⟩,fun hi=>?_⟩
 ·rw[az (n:=i+1) (by omega) (by omega)]
  refine⟨_,?_,(l,i+1,eC es (.string (toStr (nth l i.toNat))) (.lit (.bool true))),rfl,⟨by simpa[aU] using h1,by simp only;omega,by simp only;omega⟩,rfl,?_⟩
  ·simp only;omega
  grind [Bn,Out.run,List.drop_eq_getElem_cons,fK,aX]
 ·simp only[Bn,Out.run] at ho
  rw[ao0 (by omega)] at ho;exact ho
noncomputable def OL κ:=(RT κ).an 112 1 (aG 1 Tj vk Bn)
theorem al6 κ:aE (OL κ):=(e31 _).an (m31 _) (l23 _)
theorem Ys κ:aj (OL κ):=(m31 _).an aI
theorem y23 κ l es K:(a7 (OL κ) 12 112 [.mp 0, .ah 9 l] [.map 9 4 es] K)=(
 letI a:=Dn.Obj.map
 letI b:=Pg.toProgram (Env.P (RT κ))
 ad b 112 1=ad b 112 1/\∃(e0:List AV×Int×List (Value×AV)),sp 15 [(0,AV.mp 0),(6,AV.ah 9 l),(7,AV.int (↑(l.length):Int)),(8,AV.int 0)]
 [a 9 4 es]=sp 15 [(0,AV.mp 0),(6,AV.ah 9 e0.1),(7,AV.int (↑(e0.1.length):Int)),(8,AV.int e0.2.1)] [a 9 4 e0.2.2]/\(e0.1.length<=
 9223372036854775807/\(0:Int)<=e0.2.1/\e0.2.1<=(↑(e0.1.length):Int))/\K (AV.aJ []) [a 9 4 (fK e0.2.2 (List.drop e0.2.1.toNat e0.1))]):=by kernel_rfl
def P7(a:List AV×List (Value×AV)):List AV×List Dn.Obj:=([.mp 0, .ah 9 a.1],[.map 9 4 a.2])
def bq(a:List AV×List (Value×AV)):=a.1.length<=aU
def TC(a:List AV×List (Value×AV)):Out (AV×List Dn.Obj):= .one (.aJ [],[.map 9 4 (fK a.2 a.1)])
theorem c23 κ:bg (OL κ) 12 112 (aO P7 bq TC):=by
 refine aQ ?_;rintro⟨l,es⟩ K h1 ho;refine Eq.mpr (y23 _ l _ K) ?_;exact⟨rfl,(l,0,es),rfl,⟨h1,by simp,by simp⟩,ho⟩
noncomputable def QY κ:=(OL κ).aw 112 (aO P7 bq TC)
theorem e23 κ:aE (QY κ):=(al6 _).aw (Ys _) (c23 _)
theorem m23 κ:aj (QY κ):=(Ys _).aw aH
theorem x41 κ l i es I n K:(vc (QY κ) 12 161 none 2 (ad (Pr κ).toProgram 161 2) (sp 19 [(0, .ah 9 l),(1, .bm 183 [.ptr 1 0 [] 0]),(7, .int l.length),(8, .int i)] [.map 9 4 es, .box 178 (.mp 0)]) (bh (QY κ) 161 2 2 I n K))=(
 letI a:=Dn.Obj.map
 letI b:=i<(↑(l.length):Int)
 aq (decide b) (aW (decide ((0:Int)<=i)&&decide b) (aq (!Dn.toBool (cV es (Value.string (toStr (nth l i.toNat))) (AV.bool false))) (K Exit.ret (sp 19 [(4,
 AV.int i)] [a 9 4 es,Obj.box 178 (AV.mp 0)])) (∃(e0:Nat),e0<n/\I e0 (sp 19 [(0,AV.ah 9 l),(1,AV.bm 183 [AV.ptr 1 0 [] 0]),(7,AV.int
 (↑(l.length):Int)),(8,AV.int (IntKind.wrap IntKind.i64 (i+(1:Int))))] [a 9 4 es,Obj.box 178 (AV.mp 0)])))) (K (Exit.exit 0) (sp 19 []
 [a 9 4 es,Obj.box 178 (AV.mp 0)]))):=by kernel_rfl
abbrev L8(es:List (Value×AV)):List Dn.Obj:=[.map 9 4 es, .box 178 (.mp 0)]
abbrev Ub(a:List _×Int×List _):=sp 19 [(0, .ah 9 a.1),(1, .bm 183 [.ptr 1 0 [] 0]),(7, .int a.1.length),(8, .int a.2.1)] (L8 a.2.2)
def Bz(a:List AV×Int×List (Value×AV)):Out (Exit×S):=
 .aq (gi a.2.2 (a.1.drop a.2.1.toNat)) (.one (.exit 0,sp 19 [] (L8 a.2.2))) (.all (fun j=>0<=j) fun j=> .one (.ret,sp 19 [(4, .int j)] (L8 a.2.2)))
theorem l41 κ:aR (QY κ) 12 161 2 (aG 2 Ub vk Bz):=by
 refine aD (fun a=>a.1.length - a.2.1.toNat) ?_;rintro⟨l,i,es⟩ K ⟨h1,h2,h3⟩ ho;simp only at h1 h2 h3;rw[show(QY κ).P=Pr κ from rfl];refine Eq.mpr (x41 κ l i es _ _ K) ?_;simp only[aU] at h1;simp only[Bz,Out.run,ae] at ho;simp only[ae,ai,an2,an4,an3,Bool.not_eq_true',ao4];refine⟨fun hi=>⟨⟨h2,hi⟩,?_⟩,fun hi=>?_⟩
 ·rw[ao3 (show i.toNat<l.length by omega),←aX l i.toNat (by omega)] at ho
  simp only[gi,List.all_cons] at ho;refine⟨fun e=>?_,fun e=>?_⟩
  ·grind [yH,toStr,nth]
  ·have e':yH es (toStr (nth l i.toNat))=true:=e
   rw[e',ao8] at ho;rw[az (n:=i+1) (by omega) (by omega)];refine⟨_,?_,(l,i+1,es),rfl,⟨by simpa[aU] using h1,by simp only;omega,by simp only;omega⟩,rfl,?_⟩
   ·simp only;omega
   ·simp only[Bz,Out.run,ae,show(i+1).toNat=i.toNat+1 by omega]
    exact ho
 ·rw[ao0 (by omega)] at ho
  exact ho.1 rfl
noncomputable def OJ κ:=(QY κ).an 161 2 (aG 2 Ub vk Bz)
theorem ak5 κ:aE (OJ κ):=(e23 _).an (m23 _) (l41 _)
theorem aa3 κ:aj (OJ κ):=(m23 _).an aI
theorem y30 κ l es K:(a7 (OJ κ) 12 154 [.mp 0, .ah 9 l] [.map 9 4 es] K)=(
 letI b:=Dn.Obj.map
 ad (Pg.toProgram (Env.P (QY κ))) 161 2=ad (Pg.toProgram (Env.P (QY κ))) 161 2/\∃(a:List AV×Int×List (Value×AV)),sp 19 [(0,AV.ah 9
 l),(1,AV.bm 183 [AV.ptr 1 0 [] 0]),(7,AV.int (↑(l.length):Int)),(8,AV.int 0)] [b 9 4 es,Obj.box 178 (AV.mp 0)]=sp 19 [(0,AV.ah 9 a.1),
 (1,AV.bm 183 [AV.ptr 1 0 [] 0]),(7,AV.int (↑(a.1.length):Int)),(8,AV.int a.2.1)] [b 9 4 a.2.2,Obj.box 178 (AV.mp 0)]/\(a.1.length<=
 9223372036854775807/\(0:Int)<=a.2.1/\a.2.1<=(↑(a.1.length):Int))/\aq (gi a.2.2 (List.drop a.2.1.toNat a.1)) (K (AV.bool true) [b 9 4
 a.2.2]) (∀(y:Int),(0:Int)<=y->K (AV.lit (Value.bool !decide (y>=(0:Int)))) [b 9 4 a.2.2])):=by kernel_rfl
def LM(a:List AV×List (Value×AV)):Out (AV×List Dn.Obj):= .one (.bool (gi a.2 a.1),[.map 9 4 a.2])
theorem c30 κ:bg (OJ κ) 12 154 (aO P7 bq LM):=by
 refine aQ ?_;rintro⟨l,es⟩ K h1 ho;refine Eq.mpr (y30 κ l es K) ?_;refine⟨rfl,(l,0,es),rfl,⟨h1,by simp only;omega,by simp⟩,?_⟩
 grind [LM,Out.run,ae]
noncomputable def RF κ:=(OJ κ).aw 154 (aO P7 bq LM)
theorem e30 κ:aE (RF κ):=(ak5 _).aw (aa3 _) (c30 _)
theorem m30 κ:aj (RF κ):=(aa3 _).aw aH
theorem x62 κ l i vs I n K:(vc (RF κ) 12 200 none 0 (ad (Pr κ).toProgram 200 3) (sp 23 [(3, .ak 0 0 vs.length),(7, .ah 38 l),(8, .int l.length),(9, .int i)] [.row 9 (strs vs)]) (bh (RF κ) 200 3 0 I n K))=(
 letI a:=AV.int
 letI b:=nth l i.toNat
 letI c:=IntKind.wrap IntKind.i64 (i+(1:Int))
 letI d:=i<(↑(l.length):Int)
 aq (decide d) (aW (decide ((0:Int)<=i)&&decide d) (aq (decide (toInt (af b 0)>=(5:Int))) (∃(e1:List AV),letI e:=List.drop 0 (strs (ax (aa e1)));letI f:=List.length (ax (aa e1));letI g:=List.take f e;([AV.ah 38 [AV.agg [a (toInt (af b 0)),AV.str (toStr (af b 1)),a (toInt (af b 2)),AV.ah 38 (ag (af b 3))]]],aL)=([AV.ah 38 e1],aL)/\bE e1/\aW (decide ((vs.length+List.length g+1)*17<=70368744177664)) (∃(e0:Nat),e0<n/\I e0 (sp 23 [(3,AV.ak 0 0 (vs.length+List.length g)),(7,AV.ah 38 l),(8,a (↑(l.length):Int)),(9,a c)] [Obj.row 9 (List.take vs.length (strs vs)++List.take f e)]))) (∃(e0:Nat),e0<n/\I e0 (sp 23 [(3,AV.ak 0 0 vs.length),(7,AV.ah 38 l),(8,a (↑(l.length):Int)),(9,a c)] [Obj.row 9 (strs vs)])))) (K (Exit.exit 0) (sp 23 [(3,AV.ak 0 0 vs.length)] [Obj.row 9 (strs vs)]))):=by kernel_rfl
abbrev Pv(a:List _×Int×List _):=sp 23 [(3, .ak 0 0 a.2.2.length),(7, .ah 38 a.1),(8, .int a.1.length),(9, .int a.2.1)] [.row 9 (strs a.2.2)]
def HW(a:List _×Int×List ByteArray):=a.1.length<=aU/\0<=a.2.1/\a.2.1<=a.1.length/\a.2.2.length+bj (aa (a.1.drop a.2.1.toNat))<=100000
def xd(a:List AV×Int×List ByteArray):Out (Exit×S):= .one (.exit 0,sp 23 [(3, .ak 0 0 (a.2.2++dK (aa (a.1.drop a.2.1.toNat))).length)] [.row 9 (strs (a.2.2++dK (aa (a.1.drop a.2.1.toNat))))])
theorem l62 κ:aR (RF κ) 12 200 3 (aG 0 Pv HW xd):=by
 refine aD (fun a=>a.1.length - a.2.1.toNat) ?_;rintro⟨l,i,vs⟩ K ⟨h1,h2,h3,h5⟩ ho;simp only at h1 h2 h3 h5;rw[show(RF κ).P=Pr κ from rfl];refine Eq.mpr (x62 κ l i vs _ _ K) ?_;simp only[ao2,cL];simp only[aU] at h1;simp only[ae,ai,an2,an4,an3];refine⟨fun hi=>⟨⟨h2,hi⟩,?_⟩,fun hi=>?_⟩
 ·have hv:=Mz l i.toNat (by omega)
  have hc:bj (aa (l.drop i.toNat))=bj [cE (nth l i.toNat)]+bj (aa (l.drop (i.toNat+1))):=by
   rw[eR l i.toNat (by omega)];simp only[bj,Nat.add_zero]
  have hle:=cF [cE (nth l i.toNat)];have ht:aa [.agg [.int (toInt (af (nth l i.toNat) 0)), .lit (.string (toStr (af (nth l i.toNat) 1))), .int (toInt (af (nth l i.toNat) 2)), .ah 38 (ag (af (nth l i.toNat) 3))]]=[cE (nth l i.toNat)]:=by
   simp only[aa,ao9,List.map_nil];rw[sc,←da]
  rw[az (n:=i+1) (by omega) (by omega)];refine⟨fun e1=>⟨_,rfl,?_,?_,_,?_,(l,i+1,vs++ax [cE (nth l i.toNat)]),?_,⟨by simpa[aU] using h1,by simp only;omega,by simp only;omega,?_⟩,rfl,?_⟩,fun e1=>⟨_,?_,(l,i+1,vs),rfl,⟨by simpa[aU] using h1,by simp only;omega,by simp only;omega,?_⟩,rfl,?_⟩⟩
  ·simp only[bE,ht];omega
  ·rw[ht,bc];omega
  ·simp only;omega
  ·rw[ht];simp only[Pv,iY,bc,ao7]
  ·simp only[show(i+1).toNat=i.toNat+1 by omega,ao7];omega
  ·simp only[xd,Out.run,show(i+1).toNat=i.toNat+1 by omega] at ho⊢
   rw[hv,an8 (show 5<=toInt (af (nth l i.toNat) 0) from e1)] at ho;simpa[List.append_assoc] using ho
  ·simp only;omega
  ·simp only[show(i+1).toNat=i.toNat+1 by omega];omega
  ·simp only[xd,Out.run,show(i+1).toNat=i.toNat+1 by omega] at ho⊢
   rw[hv,an6 (show ¬ 5<=toInt (af (nth l i.toNat) 0) from e1)] at ho;simpa[List.append_assoc] using ho
 ·simp only[xd,Out.run] at ho
  rw[ao0 (by omega)] at ho;simpa[aa,dK] using ho
noncomputable def NY κ:=(RF κ).an 200 3 (aG 0 Pv HW xd)
theorem al4 κ:aE (NY κ):=(e30 _).an (m30 _) (l62 _)
theorem XX κ:aj (NY κ):=(m30 _).an aI
theorem y62 κ s l K:(a7 (NY κ) 12 200 [.agg [.lit (.string s), .ah 38 l]] [] K)=(
 ad (Pg.toProgram (Env.P (RF κ))) 200 3=ad (Pg.toProgram (Env.P (RF κ))) 200 3/\∃(a:List AV×Int×List ByteArray),letI b:=aa (List.drop a.2.1.toNat a.1);sp 23 [(3,AV.ak 0 0 0),(7,AV.ah 38 l),(8,AV.int (↑(l.length):Int)),(9,AV.int 0)] [Obj.row 9 []]=sp 23 [(3,AV.ak 0 0 (List.length a.2.2)),(7,AV.ah 38 a.1),(8,AV.int (↑(a.1.length):Int)),(9,AV.int a.2.1)] [Obj.row 9 (strs a.2.2)]/\(a.1.length<=9223372036854775807/\(0:Int)<=a.2.1/\a.2.1<=(↑(a.1.length):Int)/\List.length a.2.2+bj b<=100000)/\K (AV.ak 0 0 (List.length (a.2.2++dK b))) [Obj.row 9 (strs (a.2.2++dK b))]):=by kernel_rfl
def ZL(a:ByteArray×List AV):List AV×List Dn.Obj:=([.agg [.lit (.string a.1), .ah 38 a.2]],[])
def kf(a:ByteArray×List _):=bj (aa a.2)<=100000
def Tz(a:ByteArray×List AV):Out (AV×List Dn.Obj):= .one (.ak 0 0 (dK (aa a.2)).length,[.row 9 (strs (dK (aa a.2)))])
theorem c62 κ:bg (NY κ) 12 200 (aO ZL kf Tz):=by
 refine aQ ?_;rintro⟨s,l⟩ K h1 ho;simp only[kf] at h1;refine Eq.mpr (y62 κ s l K) ?_;have:=gI (aa l)
 rw[er] at this;refine⟨rfl,(l,0,[]),rfl,⟨by simp only;omega,by simp,by simp only;omega,?_⟩,?_⟩
 ·grind
 ·exact ho
noncomputable def E62 κ:=(NY κ).aw 200 (aO ZL kf Tz)
theorem e62 κ:aE (E62 κ):=(al4 _).aw (XX _) (c62 _)
theorem m62 κ:aj (E62 κ):=(XX _).aw aH
structure LA where
 op:Int
 s:ByteArray
 l:List AV
 o1:Int
 s1:ByteArray
 n1:Int
 l1:List AV
 o2:Int
 s2:ByteArray
 n2:Int
 l2:List AV
abbrev LA.av(a:LA):AV:= .agg [.int a.op, .agg [.lit (.string a.s), .ah 38 a.l], .agg [.int a.o1, .lit (.string a.s1), .int a.n1, .ah 38 a.l1], .agg [.int a.o2, .lit (.string a.s2), .int a.n2, .ah 38 a.l2]]
theorem y21 κ(a:LA) K:(a7 (E62 κ) 12 137 [a.av] [] K)=(
 K (AV.bool (decide (a.op>=(7:Int)))) []):=by kernel_rfl
def g21:List AV->Option (Bool×AV)
 |[.agg [.lit (.int .i64 op), .agg [.lit (.string _), .ah 38 _], .agg [.lit (.int .i64 _), .lit (.string _), .lit (.int .i64 _), .ah 38 _], .agg [.lit (.int .i64 _), .lit (.string _), .lit (.int .i64 _), .ah 38 _]]]=>some (true, .bool (decide (7<=op)))
 |_=>none
theorem p21 κ:cj (E62 κ) 12 137 g21:=by
 intro args x hh;unfold g21 at hh;split at hh
 ·rename_i op s l o1 s1 n1 l1 o2 s2 n2 l2
  simp only[an5,ao1,true_and] at hh;subst hh;exact⟨_,rfl,rfl,Eq.mpr (y21 κ ⟨op,s,l,o1,s1,n1,l1,o2,s2,n2,l2⟩ _) rfl⟩
 ·cases hh
noncomputable def E21 κ:=(E62 κ).aK 137 g21
theorem e21 κ:aE (E21 κ):=(e62 _).aK (m62 _) (p21 _)
theorem m21 κ:aj (E21 κ):=(m62 _).aK
theorem y40 κ(a:LA) K:(a7 (E21 κ) 12 160 [a.av] [] K)=(
 letI b:=AV.ah
 letI c:=∃(e1:List AV),letI d:=ax (aa e1);([b 38 [AV.agg [AV.int a.o1,AV.str a.s1,AV.int a.n1,b 38 a.l1],AV.agg [AV.int a.o2,AV.str a.s2,AV.int a.n2,b 38 a.l2]]],aL)=([b 38 e1],aL)/\bE e1/\∃(e0:List AV),letI e:=List.drop 0 (strs (ax (aa e0)));letI f:=List.length (ax (aa e0));letI g:=List.take f e;([b 38 a.l],aL)=([b 38 e0],aL)/\bE e0/\aW (decide ((List.length d+List.length g+1)*17<=70368744177664)) (K (AV.ak 0 0 (List.length d+List.length g)) [Obj.row 9 (List.take (List.length d) (strs d)++List.take f e)])
 (c/\c/\c/\c)/\(c/\c/\c)/\(c/\c)/\c):=by kernel_rfl
def LA.lt(a:LA):Lt:=⟨a.op,⟨a.s,aa a.l⟩, .mk a.o1 a.s1 a.n1 (aa a.l1), .mk a.o2 a.s2 a.n2 (aa a.l2)⟩
def Xv(a:LA):List AV×List Dn.Obj:=([a.av],[])
def gr(a:LA):Prop:=jZ a.lt<=100000
def OM(a:LA):Out (AV×List Dn.Obj):= .one (.ak 0 0 (ej a.lt).length,[.row 9 (strs (ej a.lt))])
theorem c40 κ:bg (E21 κ) 12 160 (aO Xv gr OM):=by
 refine aQ ?_;rintro a K h1 ho;refine Eq.mpr (y40 κ a K) ?_;simp only[and_self];simp only[gr,jZ,LA.lt] at h1;have ht:aa [.agg [.int a.o1, .lit (.string a.s1), .int a.n1, .ah 38 a.l1], .agg [.int a.o2, .lit (.string a.s2), .int a.n2, .ah 38 a.l2]]=[.mk a.o1 a.s1 a.n1 (aa a.l1), .mk a.o2 a.s2 a.n2 (aa a.l2)]:=by
  simp only[aa,ao9,List.map_nil];rw[sc,sc];rfl
 have e1:=cF (aa a.l);have e2:=cF [.mk a.o1 a.s1 a.n1 (aa a.l1), .mk a.o2 a.s2 a.n2 (aa a.l2)];refine⟨_,rfl,?_,_,rfl,?_,?_⟩
 ·simp only[bE,ht];omega
 ·simp only[bE];omega
 ·simp only[ao2,cL,ht,bc]
  rw[ai,an2]
  grind [OM,Out.run,ej,LA.lt,iY,List.length_append]
noncomputable def E40 κ:=(E21 κ).aw 160 (aO Xv gr OM)
theorem e40 κ:aE (E40 κ):=(e21 _).aw (m21 _) (c40 _)
theorem m40 κ:aj (E40 κ):=(m21 _).aw aH
structure TA where
 o1:Int
 s1:ByteArray
 n1:Int
 l1:List AV
 o2:Int
 s2:ByteArray
 n2:Int
 l2:List AV
 es:List (Value×AV)
theorem y20 κ(a:TA) K:(a7 (E40 κ) 12 136 [.mp 0, .agg [.int a.o1, .lit (.string a.s1), .int a.n1, .ah 38 a.l1], .agg [.int a.o2, .lit (.string a.s2), .int a.n2, .ah 38 a.l2]] [.map 9 4 a.es] K)=(
 letI b:=Dn.Obj.map
 letI c:=K (AV.bool false) [b 9 4 a.es]
 aq (a.o1==(1:Int)) (aq (!Dn.toBool (cV a.es (Value.string a.s1) (AV.bool false))) (∃(e1:List AV),([AV.ah 38 [AV.agg [AV.int a.o2,AV.str a.s2,AV.int
 a.n2,AV.ah 38 a.l2]]],aL)=([AV.ah 38 e1],aL)/\bE e1/\∃(e0:List AV×List (Value×AV)),([AV.mp 0,AV.ah 9 (List.take (List.length (ax (aa e1)))
 (List.drop 0 (strs (ax (aa e1)))))],[b 9 4 a.es])=([AV.mp 0,AV.ah 9 e0.1],[b 9 4 e0.2])/\bq e0/\K (AV.bool (gi e0.2 e0.1)) [b
 9 4 e0.2]) c) c):=by kernel_rfl
def TA.x(a:TA):Tm:= .mk a.o1 a.s1 a.n1 (aa a.l1)
def TA.y(a:TA):Tm:= .mk a.o2 a.s2 a.n2 (aa a.l2)
def YO(a:TA):List AV×List Dn.Obj:=([.mp 0, .agg [.int a.o1, .lit (.string a.s1), .int a.n1, .ah 38 a.l1], .agg [.int a.o2, .lit (.string a.s2), .int a.n2, .ah 38 a.l2]],[.map 9 4 a.es])
def jf(a:TA):=bj [a.y]<=100000
def SV(a:TA):Out (AV×List Dn.Obj):= .one (.bool (mb a.es a.x a.y),[.map 9 4 a.es])
theorem c20 κ:bg (E40 κ) 12 136 (aO YO jf SV):=by
 refine aQ ?_;rintro a K h1 ho;refine Eq.mpr (y20 κ a K) ?_;have ht:aa [.agg [.int a.o2, .lit (.string a.s2), .int a.n2, .ah 38 a.l2]]=[a.y]:=by
  simp only[aa,ao9,List.map_nil];rw[sc];rfl
 have hle:=cF [a.y];have ho':K (.bool (decide (a.o1=1)&&(!yH a.es a.s1&&gi a.es (strs (ax [a.y]))))) [.map 9 4 a.es]:=ho;simp only[jf] at h1;simp only[ae,beq_iff_eq,beq_eq_false_iff_ne,Bool.not_eq_true',ao4];refine⟨fun e1=>⟨fun e2=>?_,fun e2=>?_⟩,fun e1=>?_⟩
 ·have e2':yH a.es a.s1=false:=e2
  rw[an8 e1,e2'] at ho';refine⟨_,rfl,by simp only[bE,ht];exact h1,(strs (ax [a.y]),a.es),?_,?_,ho'⟩
  ·simp only[ao2,cL,ht]
  ·simp only[bq,bc,aU];omega
 ·grind [yH,decide_eq_true]
 grind
noncomputable def E20 κ:=(E40 κ).aw 136 (aO YO jf SV)
theorem e20 κ:aE (E20 κ):=(e40 _).aw (m40 _) (c20 _)
theorem m20 κ:aj (E20 κ):=(m40 _).aw aH
end Go.Proofs.YtioeffnadipbaaaGreatDoor
