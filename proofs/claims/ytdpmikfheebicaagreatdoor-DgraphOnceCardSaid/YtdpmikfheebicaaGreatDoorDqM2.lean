import Derived.Test.YtdpmikfheebicaaGreatDoorDqM1
import Derived.Test.YtdpmikfheebicaaGreatDoorProg
import Derived.Test.YtdpmikfheebicaaGreatDoorChecked
import Derived.WalkKit
import Derived.LaidEql
import Derived.Stop.Asserts
import Derived.RowKitTokens
namespace Go.Proofs.YtdpmikfheebicaaGreatDoor
open Go Go.Dn Go.Rl Go.Proofs
attribute [local irreducible] bg vc
set_option maxRecDepth 20000
def Pd:List (Nat×List (Nat×List (Nat×Option Nat))):=[
 (8,[(13,[(1,none),(2,none),(3,none),(7,none),(8,none),(11,none),(12,none),(13,none),(14,none)]),(14004,[(1,none),(2,none),(3,none),(7,none),(8,none),(11,none),(12,none),(13,none)]),(14001,[(6,none)]),(10,[(1,none),(2,none),(3,none),(7,none),(8,none),(11,none),(12,none),(13,none)]),(11002,[(1,none),(2,none),(3,none),(7,none),(8,none),(11,none),(12,none)]),(11001,[(6,none)])]),
 (11,[(8,[(1,none),(3,none),(5,none)]),(9004,[(1,none),(3,none)]),(3,[(1,none),(3,none),(4,none)]),(4002,[(1,none),(3,none)]),(4001,[(2,none)])]),
 (12,[(5,[(20,none),(21,none),(22,none)]),(6002,[]),(6001,[(2,none),(3,none)])]),
 (13,[(5,[(1,none),(6,none)]),(6002,[]),(6001,[(2,none),(3,none)])]),
 (15,[(15,[(7,none),(10,none),(11,none),(13,none),(49,none),(50,none),(51,none)]),(16004,[(7,none),(10,none),(11,none),(13,none)]),(11,[(7,none),(10,some 48),(11,none),(12,none)]),(12002,[(10,none)])]),
 (16,[(25,[(7,none),(14,none),(15,none),(18,none),(19,none)]),(26006,[(7,none),(14,none),(15,none),(18,none)]),(19,[(7,none),(14,some 48),(15,none),(16,none)]),(20004,[(14,none)]),(6,[(1,none),(7,none),(8,none)]),(7002,[(7,none)]),(7001,[(2,none),(3,none),(4,none)])]),
 (17,[(4,[(0,none),(1,none),(5,none)]),(5002,[]),(5001,[(4,none)])]),
 (20,[(5,[(0,none),(1,none),(5,none),(6,none)]),(6004,[(0,none),(1,none),(5,none)]),(6001,[(4,none)]),(2,[(0,none),(1,none),(5,none)]),(3002,[]),(3001,[(4,none)])]),
 (28,[(4,[(0,none),(1,none),(5,none)]),(5002,[]),(5001,[(4,none)])]),
 (29,[(2,[(0,none),(3,none)]),(3002,[]),(3001,[(2,none)])]),
 (30,[(3,[(1,none),(2,none),(5,none)]),(4002,[(1,none)])]),
 (31,[(11,[(1,none),(38,none),(39,none),(40,none)]),(12004,[]),(12001,[(2,none),(3,none)]),(4,[(1,none),(16,none),(17,none),(18,none)]),(5002,[(1,none)]),(5001,[(2,none),(3,none)])]),
 (32,[(11,[(1,none),(8,none)]),(12004,[]),(12001,[(2,none),(3,none)]),(5,[(1,none),(5,none)]),(6002,[(1,none)]),(6001,[(2,none),(3,none)])]),
 (36,[(8,[(3,none),(45,none),(46,none)]),(9004,[(3,none)])]),
 (37,[(2,[(0,none),(3,none),(11,none),(12,none),(13,none)]),(3002,[]),(3001,[(4,none),(5,none)])]),
 (38,[(6,[(0,none),(1,none),(5,none),(11,none),(12,none),(25,none)]),(7004,[(5,none)]),(7003,[(0,none),(1,none),(11,none),(12,none)]),(2,[(0,none),(1,none),(11,none),(12,none)]),(3002,[]),(3001,[(4,none)])]),
 (39,[(3,[(0,none),(1,none),(5,some 3),(11,none),(12,none)]),(4002,[(5,none)])]),
 (40,[(19,[(3,none),(4,none),(8,none),(9,none),(10,none)]),(20010,[(3,none),(4,none),(8,none),(9,none)]),(16,[(3,none),(4,none),(8,none),(9,none)]),(17008,[(3,none),(4,none),(8,none)]),(13,[(3,none),(4,none),(8,none)]),(14006,[(4,none)]),(8,[(1,none),(3,none),(4,none),(5,none),(6,none),(7,none)]),(9004,[(1,none),(3,none),(4,none),(5,none),(6,none)]),(4,[(1,none),(3,none),(4,some 47),(5,none)]),(5002,[(3,none),(4,none)])]),
 (41,[(3,[(1,none),(3,none),(5,none),(7,none),(9,none)]),(4002,[]),(4001,[(6,none)])]),
 (42,[(3,[(1,none),(3,none),(5,none),(7,none),(9,none)]),(4002,[]),(4001,[(6,none)])]),
 (43,[(5,[(1,none),(4,none),(6,none)]),(6002,[]),(6001,[(2,none),(3,none)])]),
 (44,[(2,[(0,none),(1,none),(2,none),(7,none)]),(3002,[]),(3001,[(6,none)])]),
 (45,[(3,[(0,none),(1,none),(5,some 3),(6,none)]),(4002,[(5,none)])]),
 (50,[(2,[(1,none),(2,none),(3,none),(7,none)]),(3002,[]),(3001,[(6,none)])]),
 (57,[(4,[(1,none),(2,none),(5,none)]),(5002,[(1,none)])]),
 (58,[(5,[(1,none),(2,none),(5,none)]),(6002,[(1,none)])]),
 (61,[(11,[(6,none),(8,some 3),(36,none),(37,none),(38,none)]),(12004,[(8,none)]),(12001,[(4,none),(5,none)]),(4,[(3,none),(6,none)]),(5002,[(3,none),(6,none)]),(5001,[(4,none),(5,none)])]),
 (62,[(10,[(1,none),(5,none)]),(11004,[]),(11001,[(2,none)]),(4,[(1,none),(3,none)]),(5002,[(1,none)]),(5001,[(2,none)])]),
 (63,[(2,[(0,none),(1,none),(6,none)]),(3002,[]),(3001,[(4,none),(5,none)])]),
 (64,[(23,[(0,none),(3,none),(9,none),(10,none),(14,none)]),(24008,[(0,none),(3,none),(9,none),(10,none)]),(24001,[(4,none),(5,none)]),(18,[(0,none),(3,none),(9,none),(10,none),(11,none),(12,none)]),(19006,[(0,none),(3,none),(9,none),(10,none),(11,none)]),(15,[(0,none),(3,none),(9,none),(10,none),(11,none)]),(16004,[(0,none),(3,none),(9,none),(10,none)]),(6,[(0,none),(3,none),(7,none),(8,none)]),(7002,[(0,none),(3,none),(7,none)])]),
 (65,[(11,[(1,none),(6,none)]),(12004,[]),(12001,[(2,none)]),(5,[(1,none),(4,none)]),(6002,[(1,none)]),(6001,[(2,none)])]),
 (66,[(4,[(1,none),(2,none),(7,none),(8,some 3),(9,some 1000000009)]),(5002,[(8,none),(9,none)]),(5001,[(4,none),(5,none),(6,none)])]),
 (67,[(2,[(0,none),(1,none),(5,none)]),(3002,[]),(3001,[(4,none)])]),
 (68,[(3,[(1,none),(3,some 1000000009),(4,none)]),(4002,[(3,none)])]),
 (71,[(3,[(0,none),(5,none),(6,some 3)]),(4002,[(5,none)])]),
 (75,[(2,[(0,none),(1,none),(7,none),(8,none)]),(3002,[]),(3001,[(4,none)])]),
 (76,[(2,[(1,none),(2,none),(5,none)]),(3002,[]),(3001,[(4,none)])]),
 (81,[(1,[(0,none),(6,none),(7,none),(8,none)]),(2002,[])]),
 (84,[(3,[(3,some 9),(6,none),(7,none),(8,none)]),(4002,[(3,none)])]),
 (85,[(12,[(6,none),(26,none),(27,none),(28,none)]),(13004,[(6,none)]),(3,[(0,none),(3,none),(9,none),(10,none),(11,none)]),(4002,[(0,none),(3,none)])]),
 (87,[(17,[(1,none),(2,none),(43,none),(44,none),(45,none)]),(18005,[]),(18001,[(6,none)]),(1,[(0,none),(1,none),(2,none)]),(2001,[(6,none)])]),
 (90,[(4,[(1,none),(31,none),(32,none),(33,none)]),(5002,[]),(5001,[(2,none)])]),
 (93,[(2,[(0,none),(1,none),(7,none),(8,none)]),(3002,[]),(3001,[(4,none)])]),
 (95,[(3,[(0,none),(5,none),(14,none),(15,none),(16,none)]),(4002,[(5,none)]),(4001,[(4,none)])]),
 (98,[(5,[(1,none),(4,none)]),(6002,[]),(6001,[(2,none)])]),
 (100,[(6,[(1,none),(4,some 1000000009),(5,none)]),(7002,[(4,none)])]),
 (101,[(4,[(0,none),(2,none),(3,none),(5,none),(9,none),(11,none),(12,none)]),(5002,[(11,none)])]),
 (103,[(3,[(0,none),(2,none),(3,none),(5,none),(9,none),(10,none)]),(4002,[(9,none)])]),
 (104,[(5,[(1,none),(4,none)]),(6002,[]),(6001,[(2,none)])]),
 (107,[(5,[(1,none),(2,none),(3,none),(7,none),(8,none)]),(6004,[(1,none),(2,none),(3,none),(7,none)]),(6001,[(6,none)]),(2,[(1,none),(2,none),(3,none),(7,none)]),(3002,[]),(3001,[(6,none)])]),
 (108,[(3,[(1,none),(5,some 9),(6,none)]),(4002,[(5,none)])]),
 (111,[(3,[(1,none),(5,some 9),(6,none)]),(4002,[(5,none)])]),
 (112,[(5,[(1,none),(3,some 1000000009),(4,none)]),(6002,[(3,none)])]),
 (113,[(5,[(0,none),(1,none),(5,none),(12,none),(13,none),(14,none),(28,none),(29,none),(30,none)]),(6004,[(0,none),(1,none),(12,none),(13,none),(14,none)]),(6001,[]),(1,[(0,none),(1,none),(12,none),(13,none),(14,none)]),(2002,[]),(2001,[])]),
 (119,[(2,[(0,none),(1,none),(7,none),(8,none)]),(3002,[]),(3001,[(4,none)])]),
 (120,[(7,[(0,none),(57,none),(58,none),(59,none)]),(8004,[]),(8001,[]),(2,[(0,none),(1,none),(25,none),(26,none),(27,none)]),(3002,[(0,none),(1,none)]),(3001,[])]),
 (121,[(4,[(24,none),(25,none),(26,none)]),(5002,[]),(5001,[(2,none)])]),
 (125,[(3,[(0,none),(1,none),(3,none),(4,none),(13,none),(14,none)]),(4002,[]),(4001,[])]),
 (126,[(3,[(1,none),(2,none),(3,none),(7,none),(11,none),(12,none),(13,none)]),(4002,[(7,none)]),(4001,[(6,none)])]),
 (127,[(4,[(1,none),(2,none),(5,none),(17,none),(18,none),(19,none)]),(5002,[(1,none),(2,none),(5,none)])]),
 (131,[(4,[(18,none)]),(5002,[]),(5001,[(2,none)])]),
 (132,[(2,[(0,none),(1,none),(7,none),(8,none)]),(3002,[]),(3001,[(4,none)])]),
 (133,[(7,[(0,none),(5,none),(40,none),(41,none),(42,none)]),(8003,[]),(8001,[(4,none)])]),
 (136,[(4,[(0,none),(3,none)]),(5002,[]),(5001,[(2,none)])]),
 (138,[(9,[(2,none),(3,none),(4,none),(10,none),(11,none)]),(10002,[(10,none)])]),
 (140,[(3,[(0,none),(2,none),(3,none),(5,none),(9,none),(11,none)]),(4002,[]),(4001,[(8,none)])]),
 (142,[(8,[(1,none),(2,none),(5,none)]),(9002,[]),(9001,[(4,none)])]),
 (146,[(6,[(5,some 9),(6,none),(7,none),(8,none),(9,none)]),(7002,[(5,none)])]),
 (147,[(2,[(0,none),(1,none),(5,none)]),(3002,[]),(3001,[(4,none)])]),
 (148,[(10,[(1,none),(49,none),(50,none),(51,none)]),(11003,[]),(11001,[(4,none)])]),
 (149,[(2,[(5,none),(6,none),(7,none)]),(3002,[]),(3001,[(2,none)])]),
 (153,[(5,[(0,none),(1,none),(5,none),(6,none)]),(6002,[(0,none),(5,none)])]),
 (155,[(2,[(0,none),(1,none),(7,none),(8,none)]),(3002,[]),(3001,[(4,none)])]),
 (156,[(2,[(0,none),(2,none),(4,none),(12,none),(13,none),(14,none)]),(3002,[(0,none),(2,none),(4,none)]),(3001,[(6,none)])]),
 (158,[(8,[(2,none),(32,none),(33,none),(34,none)]),(9004,[]),(9001,[]),(3,[(2,none),(3,some 52),(14,none),(15,none),(16,none)]),(4002,[(2,none),(3,none)])]),
 (165,[(3,[(1,none),(3,some 1000000009),(4,none)]),(4002,[(3,none)])]),
 (166,[(3,[(1,none),(2,none),(5,some 1000000009),(6,none)]),(4002,[(5,none)])]),
 (168,[(3,[(3,some 9),(7,none),(8,none),(9,none)]),(4002,[(3,none)])]),
 (170,[(3,[(2,none),(11,none),(12,none),(13,none)]),(4002,[]),(4001,[])]),
 (171,[(2,[(0,none),(1,none),(7,none),(8,none)]),(3002,[]),(3001,[(4,none)])])
 ]
def TD(k:Nat):List (Nat×List (Nat×Option Nat))->List (Nat×Option Nat)
 |[]=>[]
 |(j,l)::r=>bif Nat.beq j k then l else TD k r
def UZ(f k:Nat):List (Nat×List (Nat×List (Nat×Option Nat)))->List (Nat×Option Nat)
 |[]=>[]
 |(g,l)::r=>bif Nat.beq g f then TD k l else UZ f k r
def live(f k:Nat):List (Nat×Option TypeId):=UZ f k Pd
structure Kp where
 tree:Addr
 stuck:Addr
 T1:TypeId
 T2:TypeId
 z1:Nat×Nat
 z2:Nat×Nat
 eU:Addr
 arity:Addr
 type:Addr
 T3:TypeId
 T4:TypeId
 T5:TypeId
 z3:Nat×Nat
 z4:Nat×Nat
 z5:Nat×Nat
 c3:Array Value
 c4:Array Value
 c5:Array Value
 t3:TypeId
 t4:TypeId
 t5:TypeId
 d1:eU≠arity
 d2:eU≠type
 d3:arity≠type
 n3: ∀g,g∈[1,0,3,4,2]->eU.block≠g
 n4: ∀g,g∈[1,0,3,4,2]->arity.block≠g
 n5: ∀g,g∈[1,0,3,4,2]->type.block≠g
def Q1(κ:Kp):Value:= .iface 189 (.pointer (some κ.tree))
def kQ(κ:Kp):Value:= .iface 189 (.pointer (some κ.stuck))
def vK(κ:Kp)(b:Nat):Option Go.Obj:=
 bif Nat.beq b 1 then some (.cells #[.iface 189 (.pointer (some κ.tree))] κ.T1 κ.z1)
 else bif Nat.beq b 0 then some (.cells #[.iface 189 (.pointer (some κ.stuck))] κ.T2 κ.z2)
 else bif Nat.beq b 3 then some (.cells #[.iface 189 (.pointer (some κ.eU))] κ.T3 κ.z3)
 else bif Nat.beq b 4 then some (.cells #[.iface 189 (.pointer (some κ.arity))] κ.T4 κ.z4)
 else bif Nat.beq b 2 then some (.cells #[.iface 189 (.pointer (some κ.type))] κ.T5 κ.z5)
 else bif Nat.beq b κ.eU.block then some (.cells κ.c3 κ.t3 (0,0))
 else bif Nat.beq b κ.arity.block then some (.cells κ.c4 κ.t4 (0,0))
 else bif Nat.beq b κ.type.block then some (.cells κ.c5 κ.t5 (0,0))
 else none
def ay(κ:Kp)(ok:Bool):Value:=bif ok then .nilIface else .iface 189 (.pointer (some κ.tree))
theorem lT(κ:Kp)(b:Bool):aD (ay κ b)=true:=by cases b<;>rfl
theorem oL(κ:Kp)(b:Bool):bD (ay κ b)=b:=by cases b<;>rfl
theorem mM(κ:Kp)(b:Bool):a0 (ay κ b)=true:=by cases b<;>rfl
noncomputable abbrev Pr(κ:Kp):Pg:={toProgram:=Tryz.prog,kept:=vK κ}
theorem nG:oX Tryz.prog:=LQ (by kernel_rfl)
def St:List Nat:=[79,129,155,130,160,135,159,80,154,999999,88,93,89,91,132,92,94,77,119,78,70,115]
def SL:List Nat:=[153,126,107,138,101,102,139]
def BK:List Nat:=[123,131,167,150,151,122,148,121,124,149,54,169,171,117,110,147,28,11,58,57,30,29,999999,25,26,161,162,136,105,164,142,104,143,144,106,65,999999,67,74,145,90,59,98,62,99,163,140,141,103,96,114,53,72,48,75,69,34,14,10]
def MV:List Nat:=[84,168,128,97,61,64]
def O4:List Nat:=[71]
noncomputable def E0(κ:Kp):Env:=((Env.none (Pr κ) live (fun f=>kh f St) (fun f=>kh f SL) (fun f=>kh f BK)).iG (fun f=>kh f MV)).kf (fun f=>kh f O4)
theorem e0(κ:Kp):aC (E0 κ):=((aC.none nG).iG _).kf _
theorem m0(κ:Kp):ai (E0 κ):=(ai.none.iG _).kf _
theorem y48(κ:Kp)(op:Int)(K:AV->List Dn.Obj->Prop):(bg (E0 κ) 12 123 [.int op] [] K)=(
 ax (op==(5:Int)) (K (AV.bool true) []) (ax (op==(6:Int)) (K (AV.bool true) []) (K (AV.bool (op==(7:Int))) []))):=by kernel_rfl
def Sp:List AV->Option (Bool×AV)
 |[.lit (.int .i64 op)]=>some (true, .bool (jV op))
 |_=>none
theorem Y4(κ:Kp):cy (E0 κ) 12 123 Sp:=by
 intro args x h
 unfold Sp at h
 split at h
 ·rename_i op
  simp only[aa3,aa9,true_and] at h
  subst h
  refine⟨_,rfl,rfl,?_⟩
  rw[y48]
  unfold jV
  by_cases h1:op=5<;>by_cases h2:op=6<;>by_cases h3:op=7<;>simp[af,h1,h2,h3]<;>omega
 ·cases h
noncomputable def Kl(κ:Kp):Env:=(E0 κ).aF 123 Sp
theorem XZ(κ:Kp):aC (Kl κ):=(e0 κ).aF (m0 κ) (Y4 κ)
theorem Ta(κ:Kp):ai (Kl κ):=(m0 κ).aF
theorem ZA(κ:Kp)(s:ByteArray)(p:Nat)(I:Nat->S->Prop)(n:Nat)(K:Exit->S->Prop):(vc (Kl κ) 12 131 none 0 (ag (Pr κ).toProgram 131 4) (sp 55 [(18, .ptr 0 0 [] 0)] [.cR s p]) (bI (Kl κ) 131 4 0 I n K))=(
 letI z2:=∃(e0:Nat),e0<n/\I e0 (sp 55 [(18,AV.ptr 0 0 [] 0)] [Obj.cR s (p+Prod.snd (Utf8.decode s p))])
 letI z3:=Prod.fst (Utf8.decode s p)
 letI z5:=K Exit.ret (sp 55 [(2,AV.bool false)] [])
 letI z1:=ax (!(↑z3:Int)==(95:Int)) (ax ((↑p:Int)==(0:Int)) z5 (ax (decide ((↑z3:Int)<(48:Int))) z5 (ax (decide ((↑z3:Int)>(57:Int)))
  z5 z2))) z2
 letI z4:=ax (decide ((↑z3:Int)>=(65:Int))) (ax (decide ((↑z3:Int)<=(90:Int))) z2 z1) z1
 ax (Nat.blt p (ByteArray.size s)) (ax (decide ((↑z3:Int)>=(97:Int))) (ax (decide ((↑z3:Int)<=(122:Int))) z2 z4) z4) (K (Exit.exit 0) (sp 55 [] []))):=by kernel_rfl
abbrev NT(a:ByteArray×Nat):S:=sp 55 [(18, .ptr 0 0 [] 0)] [.cR a.1 a.2]
noncomputable def Ao(a:ByteArray×Nat):Out (Exit×S):=
 .ax (nameAt a.1 a.2) (.one (.exit 0,sp 55 [] [])) (.one (.ret,sp 55 [(2, .bool false)] []))
theorem Yx(κ:Kp):bn (Kl κ) 12 131 4 (aQ 0 NT (fun _=>True) Ao):=by
 refine aR (fun a=>a.1.size - a.2) ?_
 rintro⟨s,p⟩ K - ho
 rw[show(Kl κ).P=Pr κ from rfl,ZA]
 simp only[Ao,Out.run,af] at ho
 have hgo: ∀c:Int,c=(Utf8.decode s p).1->p<s.size->(letter c||(!(decide ((p:Int)=0)||decide (c<48)||decide ((57:Int)<c))))=true->
   ∃m,m<s.size - p/\fw NT (fun _=>True) Ao (fun a=>a.1.size - a.2) K m (sp 55 [(18, .ptr 0 0 [] 0)] [.cR s (p+(Utf8.decode s p).2)]):=by
  rintro c rfl hp hc
  have:=xd s p
  refine⟨s.size - (p+(Utf8.decode s p).2),by omega,(s,p+(Utf8.decode s p).2),rfl,trivial,rfl,?_⟩
  rw[nameAt,dif_pos hp,hc,ab9] at ho
  simpa only[Ao,Out.run,af] using ho
 have hno: ∀c:Int,c=(Utf8.decode s p).1->p<s.size->(letter c||(!(decide ((p:Int)=0)||decide (c<48)||decide ((57:Int)<c))))=false->K Exit.ret (sp 55 [(2, .bool false)] []):=by
  rintro c rfl hp hc
  rw[nameAt,dif_pos hp,hc,Bool.false_and] at ho
  exact ho.2 rfl
 have hgo:=hgo _ rfl
 have hno:=hno _ rfl
 generalize ((Utf8.decode s p).1:Int)=c at*
 simp only[af,Nat.blt_eq,aa0,aa2,beq_iff_eq,beq_eq_false_iff_ne,Bool.not_eq_true',ab2,bne_iff_ne]
 refine⟨fun hp=>?_,fun hp=>ho.1 ?_⟩
 ·have hgo:=hgo hp
  have hno:=hno hp
  simp only[letter,ab5,aa1,Bool.not_eq_true',Bool.or_eq_false_iff,Bool.and_eq_false_iff,ab2,aa0,aa2] at hgo hno
  repeat' (first|apply And.intro|intro _)
  all_goals first|(refine hgo ?_;omega)|(refine hno ?_;omega)
 ·have hp: ¬ p<s.size:=fun h=>by rw[show Nat.blt p s.size=true from by rw[Nat.blt_eq];exact h] at hp;cases hp
  rw[nameAt,dif_neg hp]
noncomputable def JS(κ:Kp):Env:=(Kl κ).aj 131 4 (aQ 0 NT (fun _=>True) Ao)
theorem RW(κ:Kp):aC (JS κ):=(XZ κ).aj (Ta κ) (Yx κ)
theorem Pc(κ:Kp):ai (JS κ):=(Ta κ).aj aG
theorem VW(κ:Kp)(s:ByteArray)(K:AV->List Dn.Obj->Prop):(bg (JS κ) 12 131 [.lit (.string s)] [] K)=(
 letI z1:=K (AV.bool false) []
 letI z2:=Pg.toProgram (Env.P (Kl κ))
 ax (ByteArray.toList s==ByteArray.toList {data:= #[]}) z1 (ax (ByteArray.toList s==ByteArray.toList {data:= #[OfNat.ofNat 95]}) z1 (ax (decide ((↑(ByteArray.size s):Int)>(40:Int))) z1 (ag z2 131 4=ag z2 131 4/\∃(e0:ByteArray×Nat),sp 55 [(18,AV.ptr 0 0 [] 0)] [Obj.cR s 0]=sp 55 [(18,AV.ptr 0 0 [] 0)] [Obj.cR e0.1 e0.2]/\True/\ax (nameAt e0.1 e0.2) (K (AV.bool true) []) z1)))):=by kernel_rfl
def Se:List AV->Option (Bool×AV)
 |[.lit (.string s)]=>some (true, .bool (isName s))
 |_=>none
theorem Wj(κ:Kp):cy (JS κ) 12 131 Se:=by
 intro args x h
 unfold Se at h
 split at h
 ·rename_i s
  simp only[aa3,aa9,true_and] at h
  subst h
  refine⟨_,rfl,rfl,?_⟩
  rw[VW]
  unfold isName lB
  simp only[af,aa0,aa2]
  refine⟨fun h1=>by rw[h1];rfl,fun h1=>⟨fun h2=>by rw[h1,h2];rfl,fun h2=>⟨fun h3=>?_,fun h3=>⟨trivial,⟨s,0⟩,rfl,trivial,fun h4=>?_,fun h4=>?_⟩⟩⟩⟩
  ·rw[h1,h2,aa6 (show(40:Int)<s.size from h3)];rfl
  ·rw[h1,h2,aa4 (show ¬ (40:Int)<s.size from h3),h4];rfl
  ·rw[h1,h2,aa4 (show ¬ (40:Int)<s.size from h3),h4];rfl
 ·cases h
noncomputable def Ou(κ:Kp):Env:=(JS κ).aF 131 Se
theorem VY(κ:Kp):aC (Ou κ):=(RW κ).aF (Pc κ) (Wj κ)
theorem TF(κ:Kp):ai (Ou κ):=(Pc κ).aF
theorem Vc(κ:Kp)(op:Int)(s:ByteArray)(n:Int)(l:List AV)(K:AV->List Dn.Obj->Prop):(bg (Ou κ) 12 167 [.agg [.int op, .lit (.string s), .int n, .ae 52 l]] [] K)=(
 letI z1:=K (AV.bool (n==(0:Int))) []
 letI z2:=K (AV.bool false) []
 letI z3:=ByteArray.toList s==ByteArray.toList {data:= #[]}
 ax (op==(1:Int)) (ax (isName s) z1 z2) (ax (op==(2:Int)) (K (AV.bool z3) []) (ax (op==(3:Int)) z1 (ax (op==(4:Int)) (ax z3 z1 z2) (ax (op==(0:Int)) (ax (ByteArray.toList s==ByteArray.toList {data:= #[]}) z1 z2) z2))))):=by kernel_rfl
def Rj:List AV->Option (Bool×AV)
 |[.agg [.lit (.int .i64 op), .lit (.string s), .lit (.int .i64 n), .ae 52 _]]=>some (true, .bool (bare op s n))
 |_=>none
theorem Yd(κ:Kp):cy (Ou κ) 12 167 Rj:=by
 intro args x h
 unfold Rj at h
 split at h
 ·rename_i op s n l
  simp only[aa3,aa9,true_and] at h
  subst h
  refine⟨_,rfl,rfl,?_⟩
  rw[Vc]
  have e: ∀k:Int,(op==k)=decide (op=k):=fun k=>by by_cases h:op=k<;>simp[h]
  simp only[e]
  cases h5:isName s<;>cases h6:(ByteArray.toList s==ByteArray.toList (ByteArray.mk #[]))<;>
  by_cases h1:op=1<;>by_cases h2:op=2<;>by_cases h3:op=3<;>by_cases h4:op=4<;>by_cases h0:op=0<;>
  first|omega|(simp only[ax,bare,lB,h5,h6,h1,h2,h3,h4,h0];rfl)|(simp[ax,bare,lB,h5,h6,h1,h2,h3,h4,h0];done)|(simp[ax,bare,lB,h5,h6,h1,h2,h3,h4,h0];rfl)|skip
 ·cases h
noncomputable def KC(κ:Kp):Env:=(Ou κ).aF 167 Rj
theorem QW(κ:Kp):aC (KC κ):=(VY κ).aF (TF κ) (Yd κ)
theorem m64(κ:Kp):ai (KC κ):=(TF κ).aF
theorem PR(l:List AV):((l.length:Int)==0)=decide ((l.length:Int)=0):=by
 cases h:decide ((l.length:Int)=0) with
 |true=>rw[aa0] at h;rw[h];rfl
 |false=>rw[aa2] at h;exact beq_eq_false_iff_ne.2 h
theorem Yw(κ:Kp)(op:Int)(s:ByteArray)(n:Int)(l:List AV)(K:AV->List Dn.Obj->Prop):(bg (KC κ) 12 150 [.agg [.int op, .lit (.string s), .int n, .ae 52 l]] [] K)=(
 ax (op==(0:Int)) (ax (bare op s n) (K (AV.bool ((↑(l.length):Int)==(0:Int))) []) (K (AV.bool false) [])) (K (AV.bool false) [])):=by kernel_rfl
theorem Yu(κ:Kp)(s:ByteArray)(l:List AV)(K:AV->List Dn.Obj->Prop):(bg (KC κ) 12 151 [.agg [.lit (.string s), .ae 52 l]] [] K)=(
 ax (ByteArray.toList s==ByteArray.toList {data:= #[]}) (K (AV.bool ((↑(l.length):Int)==(0:Int))) []) (K (AV.bool false) [])):=by kernel_rfl
theorem W6(κ:Kp)(b:Bool)(K:AV->List Dn.Obj->Prop):(bg (KC κ) 12 122 [.bool b] [] K)=(
 ax b (K (AV.lit Value.nilIface) []) (K (AV.lit (Value.iface 189 (Value.pointer (some (Kp.tree κ))))) [])):=by kernel_rfl
def R3:List AV->Option (Bool×AV)
 |[.agg [.lit (.int .i64 op), .lit (.string s), .lit (.int .i64 n), .ae 52 l]]=>some (true, .bool (decide (op=0)&&bare op s n&&decide ((l.length:Int)=0)))
 |_=>none
theorem YV(κ:Kp):cy (KC κ) 12 150 R3:=by
 intro args x h
 unfold R3 at h
 split at h
 ·rename_i op s n l
  simp only[aa3,aa9,true_and] at h
  subst h
  refine⟨_,rfl,rfl,?_⟩
  rw[Yw]
  rw[PR]
  cases h5:bare op s n<;>by_cases h0:op=0<;>simp[af,h5,h0]<;>first|rfl|skip
 ·cases h
def SO:List AV->Option (Bool×AV)
 |[.agg [.lit (.string s), .ae 52 l]]=>some (true, .bool (lB s (ByteArray.mk #[])&&decide ((l.length:Int)=0)))
 |_=>none
theorem ZT(κ:Kp):cy (KC κ) 12 151 SO:=by
 intro args x h
 unfold SO at h
 split at h
 ·rename_i s l
  simp only[aa3,aa9,true_and] at h
  subst h
  refine⟨_,rfl,rfl,?_⟩
  rw[Yu]
  unfold lB
  rw[PR]
  cases h5:(ByteArray.toList s==ByteArray.toList (ByteArray.mk #[]))<;>simp[af]<;>first|rfl|skip
 ·cases h
def Sh(κ:Kp):List AV->Option (Bool×AV)
 |[.lit (.bool b)]=>some (true, .lit (ay κ b))
 |_=>none
theorem Vr(κ:Kp):cy (KC κ) 12 122 (Sh κ):=by
 intro args x h
 unfold Sh at h
 split at h
 ·rename_i b
  simp only[aa3,aa9,true_and] at h
  subst h
  refine⟨_,rfl,mM κ b,?_⟩
  rw[W6]
  cases b<;>rfl
 ·cases h
noncomputable def Q3(κ:Kp):Env:=(((KC κ).aF 150 R3).aF 151 SO).aF 122 (Sh κ)
theorem S7(κ:Kp):aC (Q3 κ):=(((QW κ).eK (mZ (QW κ) (m64 κ) (YV κ))).eK (mZ (QW κ) (m64 κ) (ZT κ))).eK (mZ (QW κ) (m64 κ) (Vr κ))
theorem To(κ:Kp):ai (Q3 κ):=(((m64 κ).aF).aF).aF
def Nv(κ:Kp):List AV->Option (Bool×AV)
 |[.agg [.lit (.int .i64 op), .lit (.string s), .lit (.int .i64 n), .ae 52 l], .lit (.int .i64 h)]=>some (decide (0<=h)&&decide (h<=1000), .lit (ay κ (ak h.toNat (.mk op s n (aa l)))))
 |_=>none
def CB:List AV->Nat
 |[_, .lit (.int .i64 h)]=>h.toNat
 |_=>0
noncomputable def xK(κ:Kp)(n:Nat):Env:=(Q3 κ).aF 148 (below (Nv κ) CB n)
theorem Wk(κ:Kp)(r:Nat)(h:Int)(l:List AV)(i:Int)(I:Nat->S->Prop)(n:Nat)(K:Exit->S->Prop):(vc (xK κ r) 12 148 none 0 (ag (Pr κ).toProgram 148 10) (sp 72 [(1, .int h),(49, .ae 52 l),(50, .int l.length),(51, .int i)] []) (bI (xK κ r) 148 10 0 I n K))=(
 letI z2:=nth l i.toNat
 letI z3:=K Exit.ret (sp 72 [(4,AV.lit (Value.iface 189 (Value.pointer (some (Kp.tree κ)))))] [])
 letI z5:=i<(↑(l.length):Int)
 letI z6:=h - (1:Int)
 letI z4:=IntKind.wrap IntKind.i64 z6
 letI z1:=ay κ (ak (Int.toNat z4) (Tm.mk (toInt (ad z2 0)) (toStr (ad z2 1)) (toInt (ad z2 2)) (aa (ah (ad z2 3)))))
 ax (decide z5) (aO (decide ((0:Int)<=i)&&decide z5) (ax (toInt (ad z2 0)==(3:Int)) z3 (ax (toInt (ad z2 0)==(4:Int)) z3 (aO (decide ((0:Int)<=
 IntKind.wrap IntKind.i64 z6)&&decide (IntKind.wrap IntKind.i64 z6<=(1000:Int))&&Nat.blt (CB [AV.agg [AV.int (toInt (ad z2 0)),AV.str (toStr (ad z2 1)),
 AV.int (toInt (ad z2 2)),AV.ae 52 (ah (ad z2 3))],AV.int z4]) r) (aO (aD z1) (ax (!bD z1) (K Exit.ret (sp 72 [(4,AV.lit z1)] [])) (∃(e0:Nat),e0<n/\I
 e0 (sp 72 [(1,AV.int h),(49,AV.ae 52 l),(50,AV.int (↑(l.length):Int)),(51,AV.int (IntKind.wrap IntKind.i64 (i+(1:Int))))] [])))))))) (K (Exit.exit
 1) (sp 72 [] []))):=by kernel_rfl
abbrev OZ(a:Int×List AV×Int):S:=sp 72 [(1, .int a.1),(49, .ae 52 a.2.1),(50, .int a.2.1.length),(51, .int a.2.2)] []
def HQ(r:Nat)(a:Int×List AV×Int):Prop:=1<=a.1/\a.1<=1000/\a.1.toNat<=r/\a.2.1.length<=aP/\0<=a.2.2/\a.2.2<=a.2.1.length
noncomputable def Ek(κ:Kp)(a:Int×List AV×Int):Out (Exit×S):=
 .ax (lY (a.1 - 1).toNat (aa (a.2.1.drop a.2.2.toNat))) (.one (.exit 1,sp 72 [] [])) (.one (.ret,sp 72 [(4, .lit (ay κ false))] []))
theorem Vs(κ:Kp)(r:Nat):bn (xK κ r) 12 148 10 (aQ 0 OZ (HQ r) (Ek κ)):=by
 refine aR (fun a=>a.2.1.length - a.2.2.toNat) ?_
 rintro⟨h,l,i⟩ K ⟨h1,h2,h3,h4,h5,h6⟩ ho
 simp only at h1 h2 h3 h4 h5 h6
 rw[show(xK κ r).P=Pr κ from rfl,Wk]
 simp only[Ek,Out.run,af] at ho
 rw[a5 (n:=h - 1) (by omega) (by omega)]
 simp only[aP] at h4
 simp only[lT,oL]
 simp only[←cE]
 simp only[af,au,aa0,aa2,aa1,beq_iff_eq,beq_eq_false_iff_ne,Bool.not_eq_true',ab2,CB,Nat.blt_eq]
 refine⟨fun hi=>⟨⟨h5,hi⟩,?_⟩,fun hi=>ho.1 ?_⟩
 ·have e:=dS l i.toNat (by omega)
  rw[e] at ho
  have hop:(cG (nth l i.toNat)).op=toInt (ad (nth l i.toNat) 0):=by rw[cE];rfl
  simp only[lY,List.all_cons,hop] at ho
  refine⟨fun ha=>ho.2 (by simp[ha]),fun ha=>⟨fun hb=>ho.2 (by simp[hb]),fun hb=>⟨⟨⟨by omega,by omega⟩,by omega⟩,trivial,fun hc=>?_,fun hc=>?_⟩⟩⟩
  ·rw[hc];exact ho.2 (by rw[hc];simp)
  ·rw[a5 (n:=i+1) (by omega) (by omega)]
   refine⟨_,?_,(h,l,i+1),rfl,⟨h1,h2,h3,by simpa[aP] using h4,by simp only;omega,by simp only;omega⟩,rfl,?_⟩
   ·simp only;omega
   ·rw[hc] at ho
    simp only[Ek,Out.run,af,lY]
    rw[show(i+1).toNat=i.toNat+1 by omega]
    simpa[ha,hb] using ho
 ·rw[aa8 (by omega)];rfl
noncomputable def FW(κ:Kp)(r:Nat):Env:=(xK κ r).aj 148 10 (aQ 0 OZ (HQ r) (Ek κ))
theorem Vq(κ:Kp)(r:Nat)(op:Int)(s:ByteArray)(n:Int)(l:List AV)(h:Int)(K:AV->List Dn.Obj->Prop):(bg (FW κ r) 12 148 [.agg [.int op, .lit (.string s), .int n, .ae 52 l], .int h] [] K)=(
 letI z1:=K (AV.lit (Value.iface 189 (Value.pointer (some (Kp.tree κ))))) []
 letI z2:=Pg.toProgram (Env.P (xK κ r))
 letI z3:=K (AV.lit Value.nilIface) []
 ax (h==(0:Int)) z1 (ax (op==(0:Int)) z1 (ax (!jV op) (ax (!bare op s n) z1 (ax (decide ((↑(l.length):Int)>(0:Int))) z1 z3)) (ax (!ByteArray.toList s==ByteArray.toList {data:= #[]}) z1 (ax (n != (0:Int)) z1 (ax ((↑(l.length):Int) != (2:Int)) z1 (ag z2 148 10=ag z2 148 10/\∃(e0:Int×List AV×Int),sp 72 [(1,AV.int h),(49,AV.ae 52 l),(50,AV.int (↑(l.length):Int)),(51,AV.int 0)] []=sp 72 [(1,AV.int e0.1),(49,AV.ae 52 e0.2.1),(50,AV.int (↑(e0.2.1.length):Int)),(51,AV.int e0.2.2)] []/\((1:Int)<=e0.1/\e0.1<=(1000:Int)/\e0.1.toNat<=r/\e0.2.1.length<=9223372036854775807/\(0:Int)<=e0.2.2/\e0.2.2<=(↑(e0.2.1.length):Int))/\ax (lY (Int.toNat (e0.1 - (1:Int))) (aa (List.drop (Int.toNat e0.2.2) e0.2.1))) z3 z1))))))):=by kernel_rfl
theorem R8(κ:Kp)(r:Nat)(hp:gr (Pr κ) 148 (below (Nv κ) CB r)):aC (FW κ r)/\ai (FW κ r)/\(FW κ r).P=Pr κ:=
 have h:aC (xK κ r):=(S7 κ).eK hp
 have hm:ai (xK κ r):=(To κ).aF
 ⟨h.aj hm (Vs κ r),hm.aj aG,rfl⟩
theorem VJ(κ:Kp)(r:Nat):cy (FW κ r) 12 148 (fun xs=>bif Nat.beq (CB xs) r then Nv κ xs else none):=by
 intro args x hh
 cases hb:Nat.beq (CB args) r with
 |false=>simp only[hb] at hh;cases hh
 | true=>
  simp only[hb,aa7] at hh
  unfold Nv at hh
  split at hh
  ·rename_i op s n l h
   simp only[aa3,aa9,aa1,aa0] at hh
   obtain⟨⟨h1,h2⟩,rfl⟩:=hh
   have hr:h.toNat=r:=Nat.eq_of_beq_eq_true hb
   refine⟨_,rfl,mM κ _,?_⟩
   rw[Vq]
   have ef:AV.lit (.iface 189 (.pointer (some κ.tree)))= .lit (ay κ false):=rfl
   have et:AV.lit .nilIface= .lit (ay κ true):=rfl
   rw[ef,et]
   by_cases h0:h=0
   ·subst h0;rfl
   ·obtain⟨m,hm⟩: ∃m,h.toNat=m+1:=⟨h.toNat - 1,by omega⟩
    rw[hm,qE,eY]
    unfold lB
    generalize (ByteArray.toList s==ByteArray.toList (ByteArray.mk #[]))=z
    simp only[af,beq_iff_eq,beq_eq_false_iff_ne,Bool.not_eq_true',ab2,aa0,aa2,bne_iff_ne,bne_eq_false_iff_eq]
    refine⟨fun e=>absurd e h0,fun _=>⟨fun e=>by rw[aa6 e];rfl,fun e=>?_⟩⟩
    rw[aa4 e,aa5]
    refine⟨fun e2=>?_,fun e2=>?_⟩
    ·rw[e2,aa5]
     refine⟨fun e3=>by rw[e3];rfl,fun e3=>⟨fun e4=>?_,fun e4=>?_⟩⟩
     ·rw[aa4 (show ¬ l.length=0 by omega),Bool.and_false]
     ·rw[e3,aa6 (show l.length=0 by omega)];rfl
    ·rw[e2,aa7]
     refine⟨fun e3=>by rw[e3];rfl,fun e3=>⟨fun e4=>by rw[e3,aa4 e4];rfl,fun e4=>⟨fun e5=>?_,fun e5=>?_⟩⟩⟩
     ·rw[aa4 (show ¬ l.length=2 by omega)];simp
     ·refine⟨trivial,(h,l,0),rfl,⟨by simp only;omega,h2,by simp only;omega,by simp only;omega,by simp only;omega,by simp only;omega⟩,?_⟩
      rw[e3,aa6 e4,aa6 (show l.length=2 by omega)]
      simp only[show(h - 1).toNat=m by omega,ab7,ab0,ab9]
      exact⟨fun e=>by rw[e],fun e=>by rw[e]⟩
  ·cases hh
theorem q58(κ:Kp):gr (Pr κ) 148 (Nv κ):=aC.ua (Nv κ) CB (FW κ) (R8 κ) (VJ κ)
noncomputable def Lm(κ:Kp):Env:=(Q3 κ).aF 148 (Nv κ)
theorem WU(κ:Kp):aC (Lm κ):=(S7 κ).eK (q58 κ)
theorem Tn(κ:Kp):ai (Lm κ):=(To κ).aF
theorem WO(κ:Kp)(l:List AV)(i:Int)(I:Nat->S->Prop)(n:Nat)(K:Exit->S->Prop):(vc (Lm κ) 12 121 none 0 (ag (Pr κ).toProgram 121 4) (sp 36 [(24, .ae 52 l),(25, .int l.length),(26, .int i)] []) (bI (Lm κ) 121 4 0 I n K))=(
 letI z2:=nth l i.toNat
 letI z1:=ay κ (ak 20 (Tm.mk (toInt (ad z2 0)) (toStr (ad z2 1)) (toInt (ad z2 2)) (aa (ah (ad z2 3)))))
 letI z3:=i<(↑(l.length):Int)
 ax (decide z3) (aO (decide ((0:Int)<=i)&&decide z3) (aO (aD z1) (ax (!bD z1) (K Exit.ret (sp 36 [(2,AV.lit z1)] [])) (∃(e0:Nat),e0<n/\I e0 (sp 36
 [(24,AV.ae 52 l),(25,AV.int (↑(l.length):Int)),(26,AV.int (IntKind.wrap IntKind.i64 (i+(1:Int))))] []))))) (K (Exit.exit 0) (sp 36 [] []))):=by kernel_rfl
abbrev Qw(a:List AV×Int):S:=sp 36 [(24, .ae 52 a.1),(25, .int a.1.length),(26, .int a.2)] []
def Im(a:List AV×Int):Prop:=a.1.length<=aP/\0<=a.2/\a.2<=a.1.length
noncomputable def Ec(κ:Kp)(a:List AV×Int):Out (Exit×S):=
 .ax ((aa (a.1.drop a.2.toNat)).all (ak 20)) (.one (.exit 0,sp 36 [] [])) (.one (.ret,sp 36 [(2, .lit (ay κ false))] []))
theorem l46(κ:Kp):bn (Lm κ) 12 121 4 (aQ 0 Qw Im (Ec κ)):=by
 refine aR (fun a=>a.1.length - a.2.toNat) ?_
 rintro⟨l,i⟩ K ⟨h4,h5,h6⟩ ho
 simp only at h4 h5 h6
 rw[show(Lm κ).P=Pr κ from rfl,WO]
 simp only[Ec,Out.run,af] at ho
 simp only[aP] at h4
 simp only[lT,oL,←cE]
 simp only[af,au,aa0,aa2,aa1,beq_iff_eq,beq_eq_false_iff_ne,Bool.not_eq_true',ab2]
 refine⟨fun hi=>⟨⟨h5,hi⟩,trivial,fun hc=>?_,fun hc=>?_⟩,fun hi=>ho.1 ?_⟩
 ·rw[hc]
  rw[dS l i.toNat (by omega),List.all_cons,hc,Bool.false_and] at ho
  exact ho.2 rfl
 ·rw[a5 (n:=i+1) (by omega) (by omega)]
  refine⟨_,?_,(l,i+1),rfl,⟨by simpa[aP] using h4,by simp only;omega,by simp only;omega⟩,rfl,?_⟩
  ·simp only;omega
  ·rw[dS l i.toNat (by omega),List.all_cons,hc,ab9] at ho
   simp only[Ec,Out.run,af,show(i+1).toNat=i.toNat+1 by omega]
   exact ho
 ·rw[aa8 (by omega)];rfl
noncomputable def JG(κ:Kp):Env:=(Lm κ).aj 121 4 (aQ 0 Qw Im (Ec κ))
theorem RR(κ:Kp):aC (JG κ):=(WU κ).aj (Tn κ) (l46 κ)
theorem PW(κ:Kp):ai (JG κ):=(Tn κ).aj aG
theorem XD(κ:Kp)(s:ByteArray)(l:List AV)(K:AV->List Dn.Obj->Prop):(bg (JG κ) 12 121 [.agg [.lit (.string s), .ae 52 l]] [] K)=(
 letI z1:=K (AV.lit (Value.iface 189 (Value.pointer (some (Kp.tree κ))))) []
 letI z2:=Pg.toProgram (Env.P (Lm κ))
 ax (!isName s) z1 (ax ((↑(l.length):Int)==(0:Int)) z1 (ax (decide ((↑(l.length):Int)>(8:Int))) z1 (ag z2 121 4=ag z2 121 4/\∃(e0:List AV×
 Int),sp 36 [(24,AV.ae 52 l),(25,AV.int (↑(l.length):Int)),(26,AV.int 0)] []=sp 36 [(24,AV.ae 52 e0.1),(25,AV.int (↑(e0.1.length):Int)),(26,
 AV.int e0.2)] []/\(e0.1.length<=9223372036854775807/\(0:Int)<=e0.2/\e0.2<=(↑(e0.1.length):Int))/\ax (List.all (aa (List.drop e0.2.toNat e0.1)) (ak
 20)) (K (AV.lit Value.nilIface) []) z1)))):=by kernel_rfl
def SE(κ:Kp):List AV->Option (Bool×AV)
 |[.agg [.lit (.string s), .ae 52 l]]=>some (true, .lit (ay κ (a7 ⟨s,aa l⟩)))
 |_=>none
theorem Wy(κ:Kp):cy (JG κ) 12 121 (SE κ):=by
 intro args x hh
 unfold SE at hh
 split at hh
 ·rename_i s l
  simp only[aa3,aa9,true_and] at hh
  subst hh
  refine⟨_,rfl,mM κ _,?_⟩
  rw[XD]
  have ef:AV.lit (.iface 189 (.pointer (some κ.tree)))= .lit (ay κ false):=rfl
  have et:AV.lit .nilIface= .lit (ay κ true):=rfl
  rw[ef,et]
  simp only[a7,eY]
  simp only[af,beq_iff_eq,beq_eq_false_iff_ne,Bool.not_eq_true',ab2,aa0,aa2]
  refine⟨fun e=>by rw[e];rfl,fun e=>⟨fun e1=>by rw[aa6 (show l.length=0 by omega)];simp,fun e1=>⟨fun e2=>by rw[aa4 (show ¬ l.length<=8 by omega)];simp,fun e2=>⟨trivial,(l,0),rfl,⟨by simp only;omega,by simp only;omega,by simp only;omega⟩,?_⟩⟩⟩⟩
  rw[e,aa4 (show ¬ l.length=0 by omega),aa6 (show l.length<=8 by omega)]
  simp only[ab7,ab0,ab9,Bool.not_false]
  exact⟨fun e=>by rw[e],fun e=>by rw[e]⟩
 ·cases hh
noncomputable def JT(κ:Kp):Env:=(JG κ).aF 121 (SE κ)
theorem ZD(κ:Kp):aC (JT κ):=(RR κ).aF (PW κ) (Wy κ)
theorem QV(κ:Kp):ai (JT κ):=(PW κ).aF
noncomputable def By(κ:Kp):Env:=(JT κ).aj 149 2 (jZ (JT κ) 12 149 2 5)
theorem Sf(κ:Kp):aC (By κ):=(ZD κ).aj (QV κ) (qL (QV κ) 5)
theorem Pf(κ:Kp):ai (By κ):=(QV κ).aj (ky (QV κ) 5)
theorem Rs(κ:Kp)(u1 u2:Value)(K:AV->List Dn.Obj->Prop):(bg (By κ) 12 149 [.ae 88 [.lit u1, .lit u2]] [] K)=(
 letI z1:=Pg.toProgram (Env.P (JT κ))
 ag z1 149 2=ag z1 149 2/\aO (aD u1) (ax (!bD u1) (K (AV.lit u1) []) (aO (aD u2) (ax (!bD u2) (K (AV.lit u2) []) (K (AV.lit Value.nilIface) []))))):=by kernel_rfl
theorem Rd(κ:Kp)(u1 u2 u3:Value)(K:AV->List Dn.Obj->Prop):(bg (By κ) 12 149 [.ae 88 [.lit u1, .lit u2, .lit u3]] [] K)=(
 letI z1:=Pg.toProgram (Env.P (JT κ))
 ag z1 149 2=ag z1 149 2/\aO (aD u1) (ax (!bD u1) (K (AV.lit u1) []) (aO (aD u2) (ax (!bD u2) (K (AV.lit u2) []) (aO (aD u3) (ax (!bD u3) (K (AV.lit u3) [])
 (K (AV.lit Value.nilIface) []))))))):=by kernel_rfl
theorem So(κ:Kp)(u1 u2 u3 u4:Value)(K:AV->List Dn.Obj->Prop):(bg (By κ) 12 149 [.ae 88 [.lit u1, .lit u2, .lit u3, .lit u4]] [] K)=(
 letI z1:=Pg.toProgram (Env.P (JT κ))
 ag z1 149 2=ag z1 149 2/\aO (aD u1) (ax (!bD u1) (K (AV.lit u1) []) (aO (aD u2) (ax (!bD u2) (K (AV.lit u2) []) (aO (aD u3) (ax (!bD u3) (K (AV.lit u3) [])
 (aO (aD u4) (ax (!bD u4) (K (AV.lit u4) []) (K (AV.lit Value.nilIface) []))))))))):=by kernel_rfl
def bt(u v:Value):Value:=bif bD u then v else u
theorem Bt(κ:Kp)(a b:Bool):bt (ay κ a) (ay κ b)=ay κ (a&&b):=by cases a<;>rfl
theorem B8{u:Value}(h:aD u=true)(h2:bD u=true):u= .nilIface:=by cases u<;>simp_all[bD,aD]
def SX:List AV->Option (Bool×AV)
 |[.ae 88 [.lit u1, .lit u2]]=>some ((aD u1&&aD u2)&&(a0 u1&&a0 u2), .lit (bt u1 u2))
 |[.ae 88 [.lit u1, .lit u2, .lit u3]]=>some ((aD u1&&(aD u2&&aD u3))&&(a0 u1&&(a0 u2&&a0 u3)), .lit (bt u1 (bt u2 u3)))
 |[.ae 88 [.lit u1, .lit u2, .lit u3, .lit u4]]=>some ((aD u1&&(aD u2&&(aD u3&&aD u4)))&&(a0 u1&&(a0 u2&&(a0 u3&&a0 u4))), .lit (bt u1 (bt u2 (bt u3 u4))))
 |_=>none
theorem Zk(κ:Kp):cy (By κ) 12 149 SX:=by
 intro args x hh
 unfold SX at hh
 split at hh
 ·rename_i u1 u2
  simp only[aa3,aa9,aa1] at hh
  obtain⟨⟨⟨h1,h2⟩,h3,h4⟩,rfl⟩:=hh
  refine⟨_,rfl,by unfold bt;cases bD u1<;>assumption,?_⟩
  rw[Rs,h1,h2]
  refine⟨rfl,?_⟩
  unfold bt
  cases e1:bD u1
  ·rfl
  ·cases e2:bD u2
   ·rfl
   ·rw[B8 h2 e2];rfl
 ·rename_i u1 u2 u3
  simp only[aa3,aa9,aa1] at hh
  obtain⟨⟨⟨h1,h2,h3⟩,h4,h5,h6⟩,rfl⟩:=hh
  refine⟨_,rfl,by unfold bt;cases bD u1<;>cases bD u2<;>assumption,?_⟩
  rw[Rd,h1,h2,h3]
  refine⟨rfl,?_⟩
  unfold bt
  cases e1:bD u1
  ·rfl
  ·cases e2:bD u2
   ·rfl
   ·cases e3:bD u3
    ·rfl
    ·rw[B8 h3 e3];rfl
 ·rename_i u1 u2 u3 u4
  simp only[aa3,aa9,aa1] at hh
  obtain⟨⟨⟨h1,h2,h3,k1⟩,h4,h5,h6,k2⟩,rfl⟩:=hh
  refine⟨_,rfl,by unfold bt;cases bD u1<;>cases bD u2<;>cases bD u3<;>assumption,?_⟩
  rw[So,h1,h2,h3,k1]
  refine⟨rfl,?_⟩
  unfold bt
  cases e1:bD u1
  ·rfl
  ·cases e2:bD u2
   ·rfl
   ·cases e3:bD u3
    ·rfl
    ·cases e4:bD u4
     ·rfl
     ·rw[B8 k1 e4];rfl
 ·cases hh
noncomputable def QQ(κ:Kp):Env:=(By κ).aF 149 SX
theorem Zy(κ:Kp):aC (QQ κ):=(Sf κ).aF (Pf κ) (Zk κ)
theorem TB(κ:Kp):ai (QQ κ):=(Pf κ).aF
theorem y49(κ:Kp)(op:Int)(s:ByteArray)(l:List AV)(o1:Int)(s1:ByteArray)(n1:Int)(l1:List AV)(o2:Int)(s2:ByteArray)(n2:Int)(l2:List AV)(K:AV->List Dn.Obj->Prop):(bg (QQ κ) 12 124 [.agg [.int op, .agg [.lit (.string s), .ae 52 l], .agg [.int o1, .lit (.string s1), .int n1, .ae 52 l1], .agg [.int o2, .lit (.string s2), .int n2, .ae 52 l2]]] [] K)=(
 letI z3:=ay κ (ak 20 (Tm.mk o1 s1 n1 (aa l1)))
 letI z4:=ay κ (ak 20 (Tm.mk o2 s2 n2 (aa l2)))
 letI z5:=ay κ (a7 {rel:=s,l:=aa l})
 letI z6:=ay κ (decide (o2=(0:Int))&&bare o2 s2 n2&&decide ((↑(l2.length):Int)=(0:Int)))
 letI z7:=Value.iface 189 (Value.pointer (some (Kp.tree κ)))
 letI z8:=ay κ (o2==(1:Int))
 letI z10:=ay κ (a7 {rel:=s,l:=aa l})
 letI z11:=K (AV.lit (bt z5 (bt z8 (bt z3 z4)))) []
 letI z13:=aD z3&&aD z4
 letI z14:=a0 z3&&a0 z4
 letI z17:=K (AV.lit (bt z5 z7)) []
 letI z2:=ax (decide (o1=(0:Int))&&bare o1 s1 n1&&decide ((↑(l1.length):Int)=(0:Int))) (aO (aD z5&&aD z6&&(a0 z5&&a0 z6)) (K (AV.lit (bt z5
  z6)) [])) (aO (aD z5&&true&&(a0 z5&&true)) z17)
 letI z12:=aO (aD z5&&(true&&z13)&&(a0 z5&&(true&&z14))) z17
 letI z18:=ay κ (o2 != (4:Int))
 letI z19:=o1==(2:Int)
 letI z20:=K (AV.lit z7) []
 letI z15:=aO (true&&z13&&(true&&z14)) z20
 letI z1:=ax (lB s {data:= #[]}&&decide ((↑(l.length):Int)=(0:Int))) (ax (o1 != (4:Int)) (aO (aD z18&&z13&&(a0 z18&&z14)) (K (AV.lit (bt z18 (bt z3 z4))) [])) z15) z15
 letI z21:=a0 z5&&(a0 z6&&a0 z3)
 letI z22:=aD z8&&z13
 letI z23:=a0 z8&&z14
 letI z9:=aD z5&&z22&&(a0 z5&&z23)
 letI z16:=aO z9 (K (AV.lit (bt z10 (bt z8 (bt z3 z4)))) [])
 ax (o1==(1:Int)) (ax (op==(1:Int)) z2 (ax (op==(2:Int)) z2 (ax (op==(3:Int)) z1 (ax (op==(4:Int)) z1 (ax (op==(5:Int)) z1 (ax (op==(6
 :Int)) z1 (ax (op==(7:Int)) (aO (aD z5&&(aD z6&&aD z3)&&z21) (K (AV.lit (bt z5 (bt z6 z3))) [])) (ax (op==(8:Int)) (aO z9 z11) (ax (op==(9:
 Int)) (aO (aD z10&&z22&&(a0 z5&&z23)) z11) (ax (op==(10:Int)) z16 z20)))))))))) (ax (op==(1:Int)) z2 (ax (op==(2:Int)) z2 (ax (op==(3:
 Int)) z1 (ax (op==(4:Int)) z1 (ax (op==(5:Int)) z1 (ax (op==(6:Int)) z1 (ax (op==(7:Int)) (ax z19 (aO (aD z10&&(aD z6&&aD z3)&&z21) (K
 (AV.lit (bt z10 (bt z6 z3))) [])) (aO (aD z5&&(true&&aD z3)&&(a0 z5&&(true&&a0 z3))) (K (AV.lit (bt z10 z7)) []))) (ax (op==(8:Int)) (ax z19 (aO
 z9 z11) z12) (ax (op==(9:Int)) (ax z19 (aO (aD z5&&z22&&(a0 z10&&z23)) z11) (aO (aD z5&&(true&&z13)&&(a0 z10&&(true&&z14))) z17)) (ax (op==
 (10:Int)) (ax z19 z16 z12) z20))))))))))):=by kernel_rfl
theorem LC(κ:Kp)(b x y r:Bool):ax b (AV.lit (ay κ x)=AV.lit (ay κ r)) (AV.lit (ay κ y)=AV.lit (ay κ r))↔(AV.lit (ay κ (bif b then x else y))=AV.lit (ay κ r)):=by
 cases b<;>rfl
theorem KU(a b:Int):(a==b)=decide (a=b):=by by_cases h:a=b<;>simp[h]
theorem Ea(a b:Int):(a != b)= !decide (a=b):=by by_cases h:a=b<;>simp[h]
def Rv(κ:Kp):List AV->Option (Bool×AV)
 |[.agg [.lit (.int .i64 op), .agg [.lit (.string s), .ae 52 l], .agg [.lit (.int .i64 o1), .lit (.string s1), .lit (.int .i64 n1), .ae 52 l1], .agg [.lit (.int .i64 o2), .lit (.string s2), .lit (.int .i64 n2), .ae 52 l2]]]=>
  some (true, .lit (ay κ (fU ⟨op,⟨s,aa l⟩, .mk o1 s1 n1 (aa l1), .mk o2 s2 n2 (aa l2)⟩)))
 |_=>none
theorem VV(κ:Kp):cy (QQ κ) 12 124 (Rv κ):=by
 intro args x hh
 unfold Rv at hh
 split at hh
 ·rename_i op s l o1 s1 n1 l1 o2 s2 n2 l2
  simp only[aa3,aa9,true_and] at hh
  subst hh
  refine⟨_,rfl,mM κ _,?_⟩
  rw[y49]
  have ef:Value.iface 189 (.pointer (some κ.tree))=ay κ false:=rfl
  rw[ef]
  simp only[lT,mM,Bt,Bool.and_true,Bool.and_self,aO]
  simp only[←Nu,←NO,KU,Ea,LC]
  refine congrArg (fun b=>AV.lit (ay κ b)) ?_
  have ix:OQ (.mk o1 s1 n1 (aa l1))=(decide (o1=1)||decide (o1=2)):=rfl
  rw[Fv,ix]
  generalize a7 ⟨s,aa l⟩=A
  generalize NZ ⟨s,aa l⟩=N0
  generalize Dm (.mk o1 s1 n1 (aa l1))=N1
  generalize Dm (.mk o2 s2 n2 (aa l2))=N2
  generalize ak 20 (.mk o1 s1 n1 (aa l1))=R1
  generalize ak 20 (.mk o2 s2 n2 (aa l2))=R2
  generalize decide (o1=1)=a1
  generalize decide (o1=2)=a2
  generalize decide (o1=4)=a4
  generalize decide (o2=4)=b4
  generalize decide (o2=1)=b1
  generalize decide (op=1)=p1
  generalize decide (op=2)=p2
  generalize decide (op=3)=p3
  generalize decide (op=4)=p4
  generalize decide (op=5)=p5
  generalize decide (op=6)=p6
  generalize decide (op=7)=p7
  generalize decide (op=8)=p8
  generalize decide (op=9)=p9
  generalize decide (op=10)=p10
  cases p1
  case true=>cases a1<;>cases N1<;>cases A<;>cases N2<;>rfl
  cases p2
  case true=>cases a1<;>cases N1<;>cases A<;>cases N2<;>rfl
  cases p3
  case true=>cases a1<;>cases N0<;>cases a4<;>cases b4<;>cases R1<;>cases R2<;>rfl
  cases p4
  case true=>cases a1<;>cases N0<;>cases a4<;>cases b4<;>cases R1<;>cases R2<;>rfl
  cases p5
  case true=>cases a1<;>cases N0<;>cases a4<;>cases b4<;>cases R1<;>cases R2<;>rfl
  cases p6
  case true=>cases a1<;>cases N0<;>cases a4<;>cases b4<;>cases R1<;>cases R2<;>rfl
  cases p7
  case true=>cases a1<;>cases a2<;>cases A<;>cases N2<;>cases R1<;>rfl
  cases p8
  case true=>cases a1<;>cases a2<;>cases A<;>cases b1<;>cases R1<;>cases R2<;>rfl
  cases p9
  case true=>cases a1<;>cases a2<;>cases A<;>cases b1<;>cases R1<;>cases R2<;>rfl
  cases p10
  case true=>cases a1<;>cases a2<;>cases A<;>cases b1<;>cases R1<;>cases R2<;>rfl
  cases a1<;>rfl
 ·cases hh
noncomputable def KB(κ:Kp):Env:=(QQ κ).aF 124 (Rv κ)
theorem VE(κ:Kp):aC (KB κ):=(Zy κ).aF (TB κ) (VV κ)
theorem TP(κ:Kp):ai (KB κ):=(TB κ).aF
structure ba where
 xs:List AV
 more:List AV
 rel:ByteArray
 hl:List AV
 bl:List AV
 line:Int
 i:Int
abbrev an(a:ba):AV:= .agg [.agg [.lit (.string a.rel), .ae 52 a.hl], .ae 55 a.bl, .int a.line]
abbrev Af(a:ba):S:=sp 69 [(0, .cx 0),(1, .ptr 1 0 [] 0),(25, .ae 52 a.hl),(26, .int a.hl.length),(27, .int a.i)] [.ext (some a.xs), .box 41 (an a)]
abbrev GV(a:ba):S:=sp 69 [(0, .cx 0),(57, .ae 55 a.bl),(58, .int a.bl.length),(59, .int a.i)] [.ext (some a.xs), .box 41 (an a)]
def mh(κ:Kp)(l:List Bool):List AV:=l.map fun b=> .bp [.lit (ay κ b)]
def yl(κ:Kp)(a:ba):Prop:=a.hl.length<=aP/\0<=a.i/\a.i<=a.hl.length/\a.xs=mh κ ((aa (a.hl.drop a.i.toNat)).map (pc a.bl.length))++a.more
def D4(κ:Kp)(a:ba):Prop:=a.bl.length<=aP/\0<=a.i/\a.i<=a.bl.length/\a.xs=mh κ ((cC (a.bl.drop a.i.toNat)).map fU)
def CX(a:ba):Out (Exit×S):= .all (fun _:Bool=>True) fun b=> .ax b (.one (.exit 0,sp 69 [(0, .cx 0),(1, .ptr 1 0 [] 0)] [.ext (some a.more), .box 41 (an a)]))
 (.one (.ret,sp 69 [] [.ext none, .box 41 (an a)]))
def Ig(a:ba):Out (Exit×S):= .all (fun _:Bool=>True) fun b=> .ax b (.one (.exit 2,sp 69 [] [.ext (some []), .box 41 (an a)]))
 (.one (.ret,sp 69 [] [.ext none, .box 41 (an a)]))
theorem Rx(κ:Kp)(a:ba)(I:Nat->S->Prop)(n:Nat)(K:Exit->S->Prop):(vc (KB κ) 12 120 none 2 (ag (Pr κ).toProgram 120 2) (Af a) (bI (KB κ) 120 2 2 I n K))=(
 letI z2:=IntKind.wrap IntKind.i64 (a.i+(1:Int))
 letI z3:=sp 69 [] [Obj.ext none,Obj.box 41 (an a)]
 letI z4:=ad (nth a.hl a.i.toNat) 0
 letI z5:=a.hl.length
 letI z1:=∃(e1:List AV),a.xs=AV.bp [AV.lit (Value.iface 189 (Value.pointer (some (Kp.tree κ))))]::e1/\(∃(e0:Nat),e0<n/\I e0 (sp 69 [(0,AV.cx
  0),(1,AV.ptr 1 0 [] 0),(25,AV.ae 52 a.hl),(26,AV.int (↑z5:Int)),(27,AV.int z2)] [Obj.ext (some e1),Obj.box 41 (an a)]))/\K Exit.ret z3
 ax (decide (a.i<(↑z5:Int))) (aO (decide ((0:Int)<=a.i)&&decide (a.i<(↑z5:Int))) (ax (toInt z4 != (4:Int)) (ax (!jV (toInt z4)) (ax (toInt z4 !=
 (1:Int)) (∃(e1:List AV),a.xs=AV.bp [AV.lit Value.nilIface]::e1/\(∃(e0:Nat),e0<n/\I e0 (sp 69 [(0,AV.cx 0),(1,AV.ptr 1 0 [] 0),(25,AV.ae
 52 a.hl),(26,AV.int (↑z5:Int)),(27,AV.int z2)] [Obj.ext (some e1),Obj.box 41 (an a)]))/\K Exit.ret z3) (∃(e1:List AV),a.xs=AV.bp [AV.lit (ay κ
 (decide ((↑(a.bl.length):Int)>(0:Int))))]::e1/\(∃(e0:Nat),e0<n/\I e0 (sp 69 [(0,AV.cx 0),(1,AV.ptr 1 0 [] 0),(25,AV.ae 52 a.hl),(26,
 AV.int (↑z5:Int)),(27,AV.int z2)] [Obj.ext (some e1),Obj.box 41 (an a)]))/\K Exit.ret z3)) z1) z1)) (K (Exit.exit 0) (sp 69 [(0,AV.cx 0),(1,AV.ptr 1 0
 [] 0)] [Obj.ext (some a.xs),Obj.box 41 (an a)]))):=by kernel_rfl
theorem SK(κ:Kp):bn (KB κ) 12 120 2 (aQ 2 Af (yl κ) CX):=by
 refine aR (fun a=>a.hl.length - a.i.toNat) ?_
 rintro⟨xs,more,rel,hl,bl,line,i⟩ K ⟨h1,h2,h3,h4⟩ ho
 simp only at h1 h2 h3 h4
 rw[show(KB κ).P=Pr κ from rfl,Rx]
 have ef:Value.iface 189 (.pointer (some κ.tree))=ay κ false:=rfl
 have et:Value.nilIface=ay κ true:=rfl
 have ho1:=ho true trivial
 have ho2:=ho false trivial
 simp only[Out.run,ax] at ho1 ho2
 simp only[ef,et]
 simp only[aP] at h1
 simp only[af,au,aa0,aa2,aa1]
 refine⟨fun hi=>⟨⟨h2,hi⟩,?_⟩,fun hi=>?_⟩
 ·rw[dS hl i.toNat (by omega)] at h4
  have hop:(cG (nth hl i.toNat)).op=toInt (ad (nth hl i.toNat) 0):=by rw[cE];rfl
  simp only[ac0,mh,pc,hop,List.cons_append] at h4
  rw[a5 (n:=i+1) (by omega) (by omega)]
  have go: ∀b,b=(!decide (toInt (ad (nth hl i.toNat) 0)=4)&& !jV (toInt (ad (nth hl i.toNat) 0))&&(!decide (toInt (ad (nth hl i.toNat) 0)=1)||decide (0<bl.length)))->
    ∃rest,xs=AV.bp [AV.lit (ay κ b)]::rest/\(∃m,m<hl.length - i.toNat/\fw Af (yl κ) CX (fun a=>a.hl.length - a.i.toNat) K m (Af ⟨rest,more,rel,hl,bl,line,i+1⟩))/\K Exit.ret (sp 69 [] [.ext none, .box 41 (an ⟨xs,more,rel,hl,bl,line,i⟩)]):=by
   rintro b rfl
   refine⟨_,h4,⟨_,?_,⟨_,more,rel,hl,bl,line,i+1⟩,rfl,⟨by simpa[aP] using h1,by simp only;omega,by simp only;omega,?_⟩,rfl,ho⟩,ho2⟩
   ·simp only;omega
   ·simp only[mh,show(i+1).toNat=i.toNat+1 by omega]
  simp only[Ea,Bool.not_eq_true',ab2,aa0,aa2]
  refine⟨fun e1=>⟨fun e2=>⟨fun e3=>go _ ?_,fun e3=>go _ ?_⟩,fun e2=>go _ ?_⟩,fun e1=>go _ ?_⟩
  ·simp[e1,e2,e3]
  ·have e4:decide ((bl.length:Int)>0)=decide (0<bl.length):=by
    by_cases h:0<bl.length
    ·rw[aa6 h,aa6 (by omega)]
    ·rw[aa4 h,aa4 (by omega)]
   rw[e4]
   simp[e2,e3]
   intro _;rfl
  ·simp[e2]
  ·simp[e1]
 ·rw[aa8 (by omega)] at h4
  simp only[aa,mh,List.map_nil,List.nil_append] at h4
  subst h4
  exact ho1
noncomputable def yZ(κ:Kp):Env:=(KB κ).aj 120 2 (aQ 2 Af (yl κ) CX)
theorem SV(κ:Kp):aC (yZ κ):=(VE κ).aj (TP κ) (SK κ)
theorem Om(κ:Kp):ai (yZ κ):=(TP κ).aj aG
theorem SM(κ:Kp)(a:ba)(I:Nat->S->Prop)(n:Nat)(K:Exit->S->Prop):(vc (yZ κ) 12 120 none 2 (ag (Pr κ).toProgram 120 7) (GV a) (bI (yZ κ) 120 7 2 I n K))=(
 letI z1:=nth a.bl a.i.toNat
 letI z2:=AV.agg [AV.agg [AV.str a.rel,AV.ae 52 a.hl],AV.ae 55 a.bl,AV.int a.line]
 letI z3:=a.i<(↑(a.bl.length):Int)
 ax (decide z3) (aO (decide ((0:Int)<=a.i)&&decide z3) (∃(e1:List AV),a.xs=AV.bp [AV.lit (ay κ (fU {op:=toInt (ad z1 0),a:={rel:=toStr (ad (ad z1 1) 0),l:=aa (ah (ad (ad z1 1) 1))},x:=Tm.mk (toInt (ad (ad z1 2) 0)) (toStr (ad (ad z1 2) 1)) (toInt (ad (ad z1 2) 2)) (aa (ah (ad (ad z1 2) 3))),y:=Tm.mk (toInt (ad (ad z1 3) 0)) (toStr (ad (ad z1 3) 1)) (toInt (ad (ad z1 3) 2)) (aa (ah (ad (ad z1 3) 3)))}))]::e1/\(∃(e0:Nat),e0<n/\I e0 (sp 69 [(0,AV.cx 0),(57,AV.ae 55 a.bl),(58,AV.int (↑(a.bl.length):Int)),(59,AV.int (IntKind.wrap IntKind.i64 (a.i+(1:Int))))] [Obj.ext (some e1),Obj.box 41 z2]))/\K Exit.ret (sp 69 [] [Obj.ext none,Obj.box 41 z2]))) (K (Exit.exit 2) (sp 69 [] [Obj.ext (some a.xs),Obj.box 41 z2]))):=by kernel_rfl
theorem R4(κ:Kp):bn (yZ κ) 12 120 7 (aQ 2 GV (D4 κ) Ig):=by
 refine aR (fun a=>a.bl.length - a.i.toNat) ?_
 rintro⟨xs,more,rel,hl,bl,line,i⟩ K ⟨h1,h2,h3,h4⟩ ho
 simp only at h1 h2 h3 h4
 rw[show(yZ κ).P=Pr κ from rfl,SM]
 have ho1:=ho true trivial
 have ho2:=ho false trivial
 simp only[Out.run,ax] at ho1 ho2
 simp only[aP] at h1
 simp only[af,au,aa0,aa2,aa1,←lt_eq]
 refine⟨fun hi=>⟨⟨h2,hi⟩,?_⟩,fun hi=>?_⟩
 ·rw[nj bl i.toNat (by omega)] at h4
  simp only[ac0,mh] at h4
  rw[a5 (n:=i+1) (by omega) (by omega)]
  refine⟨_,h4,⟨_,?_,⟨_,more,rel,hl,bl,line,i+1⟩,rfl,⟨by simpa[aP] using h1,by simp only;omega,by simp only;omega,?_⟩,rfl,ho⟩,ho2⟩
  ·simp only;omega
  ·simp only[mh,show(i+1).toNat=i.toNat+1 by omega]
 ·rw[aa8 (by omega)] at h4
  simp only[cC,mh,List.map_nil] at h4
  subst h4
  exact ho1
noncomputable def JI(κ:Kp):Env:=(yZ κ).aj 120 7 (aQ 2 GV (D4 κ) Ig)
theorem Sl(κ:Kp):aC (JI κ):=(SV κ).aj (Om κ) (R4 κ)
theorem PI(κ:Kp):ai (JI κ):=(Om κ).aj aG
theorem Wn(κ:Kp)(a:ba)(K:AV->List Dn.Obj->Prop):(bg (JI κ) 12 120 [.cx 0, .ptr 1 0 [] 0] [.ext (some a.xs), .box 41 (an a)] K)=(
 letI z1:=AV.agg [AV.agg [AV.str a.rel,AV.ae 52 a.hl],AV.ae 55 a.bl,AV.int a.line]
 letI z2:=Pg.toProgram (Env.P (KB κ))
 letI z3:=Pg.toProgram (Env.P (yZ κ))
 ∃(e5:List AV),a.xs=AV.bp [AV.lit (ay κ (a7 {rel:=a.rel,l:=aa a.hl}))]::e5/\(∃(e4:List AV),e5=AV.bp [AV.lit (ay κ (decide ((↑(a.bl.length):Int)<=(20:Int))))]::e4/\(ag z2 120 2=ag z2 120 2/\∃(e3:ba),sp 69 [(0,AV.cx 0),(1,AV.ptr 1 0 [] 0),(25,AV.ae 52 a.hl),(26,AV.int (↑(a.hl.length):Int)),(27,AV.int 0)] [Obj.ext (some e4),Obj.box 41 z1]=sp 69 [(0,AV.cx 0),(1,AV.ptr 1 0 [] 0),(25,AV.ae 52 e3.hl),(26,AV.int (↑(e3.hl.length):Int)),(27,AV.int e3.i)] [Obj.ext (some e3.xs),Obj.box 41 (AV.agg [AV.agg [AV.str e3.rel,AV.ae 52 e3.hl],AV.ae 55 e3.bl,AV.int e3.line])]/\(e3.hl.length<=9223372036854775807/\(0:Int)<=e3.i/\e3.i<=(↑(e3.hl.length):Int)/\e3.xs=mh κ (List.map (pc e3.bl.length) (aa (List.drop e3.i.toNat e3.hl)))++e3.more)/\∀(e2:Bool),True->ax e2 (ag z3 120 7=ag z3 120 7/\∃(e1:ba),sp 69 [(0,AV.cx 0),(57,AV.ae 55 e3.bl),(58,AV.int (↑(e3.bl.length):Int)),(59,AV.int 0)] [Obj.ext (some e3.more),Obj.box 41 (AV.agg [AV.agg [AV.str e3.rel,AV.ae 52 e3.hl],AV.ae 55 e3.bl,AV.int e3.line])]=sp 69 [(0,AV.cx 0),(57,AV.ae 55 e1.bl),(58,AV.int (↑(e1.bl.length):Int)),(59,AV.int e1.i)] [Obj.ext (some e1.xs),Obj.box 41 (AV.agg [AV.agg [AV.str e1.rel,AV.ae 52 e1.hl],AV.ae 55 e1.bl,AV.int e1.line])]/\(e1.bl.length<=9223372036854775807/\(0:Int)<=e1.i/\e1.i<=(↑(e1.bl.length):Int)/\e1.xs=mh κ (List.map fU (cC (List.drop e1.i.toNat e1.bl))))/\∀(e0:Bool),True->ax e0 (K (AV.bp []) [Obj.ext (some []),Obj.box 41 (AV.agg [AV.agg [AV.str e1.rel,AV.ae 52 e1.hl],AV.ae 55 e1.bl,AV.int e1.line])]) (K (AV.bp []) [Obj.ext none,Obj.box 41 (AV.agg [AV.agg [AV.str e1.rel,AV.ae 52 e1.hl],AV.ae 55 e1.bl,AV.int e1.line])])) (K (AV.bp []) [Obj.ext none,Obj.box 41 (AV.agg [AV.agg [AV.str e3.rel,AV.ae 52 e3.hl],AV.ae 55 e3.bl,AV.int e3.line])]))/\K (AV.bp []) [Obj.ext none,Obj.box 41 z1])/\K (AV.bp []) [Obj.ext none,Obj.box 41 z1]):=by kernel_rfl
def IM(a:ba):List AV×List Dn.Obj:=([.cx 0, .ptr 1 0 [] 0],[.ext (some a.xs), .box 41 (an a)])
def CY(κ:Kp)(a:ba):Prop:=a.hl.length<=aP/\a.bl.length<=aP/\a.xs=mh κ (qO ⟨⟨a.rel,aa a.hl⟩,cC a.bl⟩)
def Jl:ba->Out (AV×List Dn.Obj):=fun _=> .all (fun st'=>wD st') fun st'=> .one (.bp [],st')
theorem Y1(κ:Kp):bz (JI κ) 12 120 (aZ IM (CY κ) Jl):=by
 refine bh ?_
 rintro⟨xs,more,rel,hl,bl,line,i⟩ K ⟨h1,h2,h3⟩ ho
 simp only at h1 h2 h3
 simp only[IM]
 rw[Wn κ ⟨xs,more,rel,hl,bl,line,i⟩]
 simp only
 have hn: ∀b,K (.bp []) [.ext none,b]:=fun b=>ho _ trivial
 have h0: ∀b,K (.bp []) [.ext (some []),b]:=fun b=>ho _ trivial
 subst h3
 have Q7:decide ((bl.length:Int)<=20)=decide (bl.length<=20):=by
  by_cases h:bl.length<=20
  ·rw[aa6 h,aa6 (by omega)]
  ·rw[aa4 h,aa4 (by omega)]
 rw[Q7]
 simp only[qO,mh,ac0,y0]
 refine⟨_,rfl,⟨_,rfl,⟨trivial,⟨_,mh κ ((cC bl).map fU),rel,hl,bl,line,0⟩,rfl,⟨h1,by simp only;omega,by simp only;omega,?_⟩,?_⟩,hn _⟩,hn _⟩
 ·simp[mh,y0]
 ·intro y _
  cases y
  ·exact hn _
  ·refine⟨trivial,⟨_,[],rel,hl,bl,line,0⟩,rfl,⟨h2,by simp only;omega,by simp only;omega,by simp[mh]⟩,?_⟩
   intro y _
   cases y
   ·exact hn _
   ·exact h0 _
set_option maxRecDepth 20000 in
noncomputable def Mc(κ:Kp):Env:=(JI κ).aw 120 (aZ IM (CY κ) Jl)
theorem ZG(κ:Kp):aC (Mc κ):=(Sl κ).aw (PI κ) (Y1 κ)
theorem TE(κ:Kp):ai (Mc κ):=(PI κ).aw aI
noncomputable abbrev M4(κ:Kp)(a:ba)(st:LoopState)(p:Option Code):Dn.Obj:=
 .loop (il (Pr κ).toProgram 54 3 st p (ie (bK 15) [(0,an a),(1, .ptr 0 0 [] 0),(2, .bool false),(3, .ptr 1 0 [] 0),(5,an a),(6, .bP 120 [.ptr 2 0 [] 0])]))
noncomputable abbrev oq(κ:Kp)(a:ba):List Dn.Obj:=[.box 41 (an a), .box 88 (.lit .nilIface), .box 41 (an a),M4 κ a .ready none]
noncomputable abbrev Ce(κ:Kp)(a:ba):List Dn.Obj:=[.box 41 (an a), .box 88 (.lit .nilIface), .dead,M4 κ a .ready none]
theorem Vv(κ:Kp)(a:ba)(Q:List Dn.Obj->Prop):(tidy (Pr κ).toProgram 4 (dY (oq κ a) (du (oq κ a) [.ptr 2 0 [] 0])) Q)=(
 Q [Obj.box 41 (an a),Obj.box 88 (AV.lit Value.nilIface),Obj.dead,Dn.Obj.loop (il Tryz.prog 54 3 LoopState.ready none (ie (bK 15) [(0,an a),(1,AV.ptr 0 0
 [] 0),(2,AV.bool false),(3,AV.ptr 1 0 [] 0),(5,an a),(6,AV.bP 120 [AV.ptr 2 0 [] 0])]))]):=by kernel_rfl
theorem r16(κ:Kp)(a:ba)(u:Value)(Q:List Dn.Obj->Prop)(K2:List Dn.Obj->Prop):(jf (vc (Mc κ) 12) 3 [.lit u] (Ce κ a) (fun r st''=>match r with| .lit (.bool true)=>tidy (Pr κ).toProgram 4 st'' Q| .lit (.bool false)=>K2 st''|_=>False))=(
 letI z1:=ie (bK 15) [(0,an a),(1,AV.ptr 0 0 [] 0),(2,AV.bool false),(3,AV.ptr 1 0 [] 0),(5,an a),(6,AV.bP 120 [AV.ptr 2 0 [] 0])]
 aO (aD u) (ax (!bD u) (K2 [Obj.box 41 (an a),Obj.box 88 (AV.lit u),Obj.dead,Dn.Obj.loop (il Tryz.prog 54 3 LoopState.done (some (Code.exit 0)) z1)]) (Q
 [Obj.box 41 (an a),Obj.box 88 (AV.lit Value.nilIface),Obj.dead,Dn.Obj.loop (il Tryz.prog 54 3 LoopState.ready none z1)]))):=by kernel_rfl
noncomputable abbrev M1(κ:Kp)(a:ba):List Dn.Obj:=[.box 41 (an a), .box 88 (.lit (ay κ false)), .dead,M4 κ a .done (some (.exit 0))]
def tr(a:ba):Rl:=⟨⟨a.rel,aa a.hl⟩,cC a.bl⟩
theorem k16(κ:Kp)(a:ba)(xs:List AV):(AV.cx 0::fB (lj (du (oq κ a) [.ptr 2 0 [] 0])) [.ptr 2 0 [] 0],Obj.ext (some xs)::gJ (lj (du (oq κ a) [.ptr 2 0 [] 0])) (gQ (oq κ a) (du (oq κ a) [.ptr 2 0 [] 0])))=IM {a with xs:=xs}:=by kernel_rfl
theorem VH(κ:Kp)(a:ba):rH (oq κ a) [.ptr 2 0 [] 0]=true:=by kernel_rfl
noncomputable def NJ(κ:Kp):eM:=fun caps st K=>∃a:ba,(caps,st)=([AV.ptr 2 0 [] 0],oq κ a)/\(a.hl.length<=aP/\a.bl.length<=aP)/\ax (aU (tr a)) (K (Ce κ a)) (K (M1 κ a))
theorem Gq(κ:Kp):(NJ κ).jI:=by
 rintro caps st K K' hK ⟨a,h1,h2,h3⟩
 refine⟨a,h1,h2,?_⟩
 rw[af] at h3⊢
 exact⟨fun e=>hK _ (h3.1 e),fun e=>hK _ (h3.2 e)⟩
theorem call45(κ:Kp)(args:List AV)(st:List Dn.Obj)(K:AV->List Dn.Obj->Prop)(h:aZ IM (CY κ) Jl args st K):(Mc κ).call 120 args st K:=h
theorem RS(κ:Kp):nT (Mc κ) 12 120 (NJ κ):=by
 rintro caps st K ⟨a,h1,h2,h3⟩
 obtain⟨rfl,rfl⟩:=Prod.mk.inj h1
 rw[af] at h3
 refine⟨mh κ (qO (tr a)),fun items st'=>∃l,items=mh κ l/\st'=Ce κ a/\aU (tr a)=l.all id,⟨VH κ a,?_,?_,?_,?_⟩⟩
 ·refine call45 κ _ _ _ ?_
  refine⟨{a with xs:=mh κ (qO (tr a))},?_,⟨h2.1,h2.2,rfl⟩,fun st' h=>h⟩
  exact k16 κ a _
 ·rw[show(Mc κ).P=Pr κ from rfl,show(oq κ a).length=4 from rfl,Vv]
  exact⟨_,rfl,rfl,Bo _⟩
 ·rintro us rest st' ⟨l,e1,rfl,e3⟩
  cases l with
  |nil=>cases e1
  |cons b l=>
   simp only[mh,ac0,List.cons.injEq,AV.bp.injEq] at e1
   obtain⟨rfl,rfl⟩:=e1
   rw[show(Mc κ).P=Pr κ from rfl,show(oq κ a).length=4 from rfl]
   refine Eq.mpr (r16 κ a (ay κ b) _ _) ?_
   rw[lT,oL]
   cases b with
   |true=>exact⟨l,rfl,rfl,by rw[e3];rfl⟩
   |false=>exact h3.2 (by rw[e3];rfl)
 ·rintro st' ⟨l,e1,rfl,e3⟩
  cases l with
  |nil=>exact h3.1 (by rw[e3];rfl)
  |cons b l=>cases e1
def Sx:List Nat:=[120]
noncomputable def NC(κ:Kp):Env:=((Mc κ).addRange 54 3 120 (NJ κ)).dM (fun f=>kh f Sx)
theorem Rn(κ:Kp):aC (NC κ):=((ZG κ).addRange (TE κ) (RS κ)).dM _
theorem RL(κ:Kp):ai (NC κ):=((TE κ).addRange (Gq κ)).dM _
end Go.Proofs.YtdpmikfheebicaaGreatDoor
namespace Go.Proofs.YtdpmikfheebicaaGreatDoor
open Go Go.Dn Go.Rl Go.Proofs Go.RowKit Go.Extern.Stop Go.Stop Go.Extern
theorem tf(v:Value)(w:World):(Extern.ReflectliteType.typeOf #[.iface 189 v]).run Tryz.prog w= .ok (.iface 163 (.agg #[.pointer (some ⟨5,189,none⟩)])) w:=by kernel_rfl
theorem lU(w:World):((Extern.ReflectliteType.method fun t=>do Go.Extern.Rtype.noPackHeld "Comparable" t;(fun a=>Value.bool a.comparable)<$>typeInfo t) #[.agg #[.pointer (some ⟨5,189,none⟩)]]).run Tryz.prog w= .ok (.bool true) w:=by kernel_rfl
theorem gC(v:Value)(w:World):(Go.method 327 163 v "Comparable").run Tryz.prog w= .ok (192,v) w:=by kernel_rfl
theorem CI:(Tryz.prog.info? 189).map (·.comparable)=some true:=by kernel_rfl
theorem Cq:(Tryz.prog.info? 215).map (·.size)=some 1:=by kernel_rfl
set_option maxRecDepth 4000 in
theorem DG(a:Addr)(w:World):
  Calls Tryz.prog 56 #[.iface 189 (.pointer (some a)), .iface 189 (.pointer (some a))] w fun e w'=>e= .returned (.bool true)/\w'=w:=by
 obtain⟨i,hi,hcmp⟩:=Option.map_eq_some_iff.1 CI
 obtain⟨j,hj,hjs⟩:=Option.map_eq_some_iff.1 Cq
 have h8:= @run_callFunc_extern Tryz.prog 86 _ Extern.ReflectliteType.typeOf Tryz.func86 (by kernel_rfl) (by kernel_rfl) (by kernel_rfl) (by kernel_rfl)
 have h32:= @run_callFunc_extern Tryz.prog 192 _ (Extern.ReflectliteType.method fun t=>do Go.Extern.Rtype.noPackHeld "Comparable" t;pure (.bool (←typeInfo t).comparable)) Tryz.func192 (by kernel_rfl) (by kernel_rfl) (by kernel_rfl) (by kernel_rfl)
 have tT:=tf
 have cT:=lU
 have mR:=gC
 have heq:=run_eql_iface_ptr_same (P:=Tryz.prog) w a Tryz.underlying88 Tryz.underlying189 hi hcmp hj
 go_enter Tryz.func56,Tryz.ntmps56
 go_wp2
 refine wp_loop_rounds 1 ?_
 rw[rounds_succ]
 go_wp2
 go_ret
 exact⟨rfl,rfl⟩
theorem HU(b:Addr)(w:World):
  Calls Tryz.prog 56 #[.nilIface, .iface 189 (.pointer (some b))] w fun e w'=>e= .returned (.bool false)/\w'=w:=by
 have hn:=run_eql_iface_nil_left (P:=Tryz.prog) w 189 (.pointer (some b)) Tryz.underlying88
 go_enter Tryz.func56,Tryz.ntmps56
 go_wp2
 go_ret
 exact⟨rfl,rfl⟩
def RO:List AV->Option (Bool×AV)
 |[.lit .nilIface, .lit (.iface 189 (.pointer (some _)))]=>some (true, .bool false)
 |[.lit (.iface 189 (.pointer (some a))), .lit (.iface 189 (.pointer (some b)))]=>some (decide (a=b), .bool true)
 |_=>none
theorem uj{C:Ctx}{u v:Value}{vs:Array Value}(h:MT C [.lit u, .lit v] vs.toList):vs= #[u,v]:=by
 obtain⟨l⟩:=vs
 match l,h with
 |[a,b],h=>
  simp only[MT] at h
  have h1:Rel C (.lit u) a:=⟨h.1,h.2.1,h.2.2.1⟩
  have h2:Rel C (.lit v) b:=⟨h.2.2.2.1,h.2.2.2.2.1,h.2.2.2.2.2.1⟩
  rw[aL h1,aL h2]
 |[],h=>simp[MT] at h
 |[_],h=>simp[MT] at h
 |_::_::_::_,h=>simp[MT] at h
theorem VU(κ:Kp):gr (Pr κ) 56 RO:=by
 intro args x hn hg
 unfold RO at hg
 split at hg
 ·simp only[aa3,aa9,true_and] at hg
  subst hg
  refine⟨_,_,Tryz.func56,rfl,rfl,rfl,fun C vs hC hI hm=>?_⟩
  rw[uj hm]
  refine(callsIn_wide.2 (HU _ C.w)).mono ?_
  rintro e w' ⟨rfl,rfl⟩
  exact⟨rfl,gm.refl _⟩
 ·simp only[aa3,aa9,aa0] at hg
  obtain⟨rfl,rfl⟩:=hg
  refine⟨_,_,Tryz.func56,rfl,rfl,rfl,fun C vs hC hI hm=>?_⟩
  rw[uj hm]
  refine(callsIn_wide.2 (DG _ C.w)).mono ?_
  rintro e w' ⟨rfl,rfl⟩
  exact⟨rfl,gm.refl _⟩
 ·cases hg
end Go.Proofs.YtdpmikfheebicaaGreatDoor
namespace Go.Proofs.YtdpmikfheebicaaGreatDoor
open Go Go.Dn Go.Rl Go.Proofs
attribute [local irreducible] bg vc
set_option maxRecDepth 20000
noncomputable def OU(κ:Kp):Env:=(NC κ).aF 56 RO
theorem ZN(κ:Kp):aC (OU κ):=(Rn κ).eK (VU κ)
theorem UW(κ:Kp):ai (OU κ):=(RL κ).aF
theorem XQ(κ:Kp)(a:ba)(K:AV->List Dn.Obj->Prop):(bg (OU κ) 12 54 [an a] [] K)=(
 ∃(e0:ba),([AV.ptr 2 0 [] 0],[Obj.box 41 (an a),Obj.box 88 (AV.lit Value.nilIface),Obj.box 41 (an a),Dn.Obj.loop (il Tryz.prog 54 3 LoopState.ready none
 (ie (bK 15) [(0,an a),(1,AV.ptr 0 0 [] 0),(2,AV.bool false),(3,AV.ptr 1 0 [] 0),(5,an a),(6,AV.bP 120 [AV.ptr 2 0 [] 0])]))])=([AV.ptr 2 0 [] 0],
 [Obj.box 41 (an e0),Obj.box 88 (AV.lit Value.nilIface),Obj.box 41 (an e0),Dn.Obj.loop (il Tryz.prog 54 3 LoopState.ready none (ie (bK 15) [(0,an e0),(1,
 AV.ptr 0 0 [] 0),(2,AV.bool false),(3,AV.ptr 1 0 [] 0),(5,an e0),(6,AV.bP 120 [AV.ptr 2 0 [] 0])]))])/\(e0.hl.length<=9223372036854775807/\
 e0.bl.length<=9223372036854775807)/\ax (aU (tr e0)) (K (AV.bool true) []) (aO (decide (Kp.tree κ=Kp.tree κ)) (K (AV.bool false) []))):=by kernel_rfl
def RH:List AV->Option (Bool×AV)
 |[.agg [.agg [.lit (.string rel), .ae 52 hl], .ae 55 bl, .lit (.int .i64 _)]]=>some (decide (hl.length<=aP)&&decide (bl.length<=aP), .bool (aU ⟨⟨rel,aa hl⟩,cC bl⟩))
 |_=>none
theorem Y2(κ:Kp):cy (OU κ) 12 54 RH:=by
 intro args x hh
 unfold RH at hh
 split at hh
 ·rename_i rel hl bl line
  simp only[aa3,aa9,aa1,aa0] at hh
  obtain⟨⟨h1,h2⟩,rfl⟩:=hh
  refine⟨_,rfl,rfl,?_⟩
  rw[XQ κ ⟨[],[],rel,hl,bl,line,0⟩]
  refine⟨⟨[],[],rel,hl,bl,line,0⟩,rfl,⟨h1,h2⟩,?_⟩
  rw[af]
  refine⟨fun e=>?_,fun e=>?_⟩
  ·rw[show aU ⟨⟨rel,aa hl⟩,cC bl⟩=true from e]
  ·rw[show aU ⟨⟨rel,aa hl⟩,cC bl⟩=false from e]
   simp[aO]
 ·cases hh
noncomputable def Ra(κ:Kp):Env:=(OU κ).aF 54 RH
theorem UP(κ:Kp):aC (Ra κ):=(ZN κ).aF (UW κ) (Y2 κ)
theorem UH(κ:Kp):ai (Ra κ):=(UW κ).aF
def NM(l:List AV):List AV×List Dn.Obj:=([.ae 52 l],[])
def N8(n:Nat)(l:List AV):Prop:=aM (aa l)=n/\n<=100000
def G7(l:List AV):Out (AV×List Dn.Obj):= .one (.az 0 0 (aq (aa l)).length,[.row 9 (strs (aq (aa l)))])
def JO(n:Nat):cX:=aZ NM (N8 n) G7
noncomputable def yK(κ:Kp)(r:Nat):Env:=(Ra κ).aw 84 fun args st K=>∃m,m<r/\JO m args st K
theorem Wo(κ:Kp)(r:Nat)(l:List AV)(i:Int)(xs:List AV)(k:Nat)(I:Nat->S->Prop)(n:Nat)(K:Exit->S->Prop):(vc (yK κ r) 12 84 none 0 (ag (Pr κ).toProgram 84 3) (sp 27 [(3, .az 0 0 k),(6, .ae 52 l),(7, .int l.length),(8, .int i)] [.row 9 xs]) (bI (yK κ r) 84 3 0 I n K))=(
 letI z1:=IntKind.wrap IntKind.i64 (i+(1:Int))
 letI z2:=nth l i.toNat
 letI z3:=i<(↑(l.length):Int)
 ax (decide z3) (aO (decide ((0:Int)<=i)&&decide z3) (ax (toInt (ad z2 0)==(1:Int)) (aO (decide ((k+1+1)*17<=70368744177664)) (∃(e2:Nat),e2<
 r/\∃(e1:List AV),([AV.ae 52 (ah (ad z2 3))],aB)=([AV.ae 52 e1],aB)/\(aM (aa e1)=e2/\e2<=100000)/\aO (decide ((k+1+List.length (List.take
 (List.length (aq (aa e1))) (List.drop 0 (strs (aq (aa e1)))))+1)*17<=70368744177664)) (∃(e0:Nat),e0<n/\I e0 (sp 27 [(3,AV.az 0 0 (k+1+
 List.length (List.take (List.length (aq (aa e1))) (List.drop 0 (strs (aq (aa e1))))))),(6,AV.ae 52 l),(7,AV.int (↑(l.length):Int)),(8,AV.int z1)]
 [Obj.row 9 (List.take (k+1) (List.take k xs++[AV.str (toStr (ad z2 1))])++List.take (List.length (aq (aa e1))) (List.drop 0 (strs (aq (aa e1)))))])))) (∃
 (e2:Nat),e2<r/\∃(e1:List AV),([AV.ae 52 (ah (ad z2 3))],aB)=([AV.ae 52 e1],aB)/\(aM (aa e1)=e2/\e2<=100000)/\aO (decide ((k+List.length
 (List.take (List.length (aq (aa e1))) (List.drop 0 (strs (aq (aa e1)))))+1)*17<=70368744177664)) (∃(e0:Nat),e0<n/\I e0 (sp 27 [(3,AV.az 0 0 (k+
 List.length (List.take (List.length (aq (aa e1))) (List.drop 0 (strs (aq (aa e1))))))),(6,AV.ae 52 l),(7,AV.int (↑(l.length):Int)),(8,AV.int z1)]
 [Obj.row 9 (List.take k xs++List.take (List.length (aq (aa e1))) (List.drop 0 (strs (aq (aa e1)))))]))))) (K (Exit.exit 0) (sp 27 [(3,AV.az 0 0 k)] [Obj.row
 9 xs]))):=by kernel_rfl
abbrev ER(a:List AV×Int×List ByteArray):S:=sp 27 [(3, .az 0 0 a.2.2.length),(6, .ae 52 a.1),(7, .int a.1.length),(8, .int a.2.1)] [.row 9 (strs a.2.2)]
def Eh(r:Nat)(a:List AV×Int×List ByteArray):Prop:=a.1.length<=aP/\0<=a.2.1/\a.2.1<=a.1.length/\aM (aa (a.1.drop a.2.1.toNat))<=r/\a.2.2.length+aM (aa (a.1.drop a.2.1.toNat))<=100000
def uk(a:List AV×Int×List ByteArray):Out (Exit×S):= .one (.exit 0,sp 27 [(3, .az 0 0 (a.2.2++aq (aa (a.1.drop a.2.1.toNat))).length)] [.row 9 (strs (a.2.2++aq (aa (a.1.drop a.2.1.toNat))))])
theorem K6(l:List AV)(i:Nat)(h:i<l.length):aM (aa (l.drop i))=1+aM (aa (ah (ad (nth l i) 3)))+aM (aa (l.drop (i+1))):=by
 rw[dS l i h,aM,cE,Tm.oT]
theorem HO(l:List AV)(i:Nat)(h:i<l.length):aq (aa (l.drop i))=(bif decide (toInt (ad (nth l i) 0)=1) then[toStr (ad (nth l i) 1)] else[])++aq (aa (ah (ad (nth l i) 3)))++aq (aa (l.drop (i+1))):=by
 rw[dS l i h,aq,cE,Tm.vars]
theorem l31(κ:Kp)(r:Nat):bn (yK κ r) 12 84 3 (aQ 0 ER (Eh r) uk):=by
 refine aR (fun a=>a.1.length - a.2.1.toNat) ?_
 rintro⟨l,i,vs⟩ K ⟨h1,h2,h3,h4,h5⟩ ho
 simp only at h1 h2 h3 h4 h5
 rw[show(yK κ r).P=Pr κ from rfl]
 refine Eq.mpr (Wo κ r l i (strs vs) vs.length _ _ K) ?_
 simp only[ab0,ct]
 simp only[aP] at h1
 simp only[af,au,aa0,aa2,aa1,beq_iff_eq,beq_eq_false_iff_ne]
 refine⟨fun hi=>⟨⟨h2,hi⟩,?_⟩,fun hi=>?_⟩
 ·have hc:=K6 l i.toNat (by omega)
  have hv:=HO l i.toNat (by omega)
  have hle:=b8 (aa (ah (ad (nth l i.toNat) 3)))
  rw[a5 (n:=i+1) (by omega) (by omega)]
  refine⟨fun e1=>⟨by omega,_,?_,ah (ad (nth l i.toNat) 3),rfl,⟨rfl,by omega⟩,?_,_,?_,(l,i+1,vs++[toStr (ad (nth l i.toNat) 1)]++aq (aa (ah (ad (nth l i.toNat) 3)))),?_,⟨by simpa[aP] using h1,by simp only;omega,by simp only;omega,?_,?_⟩,rfl,?_⟩,
   fun e1=>⟨_,?_,ah (ad (nth l i.toNat) 3),rfl,⟨rfl,by omega⟩,?_,_,?_,(l,i+1,vs++aq (aa (ah (ad (nth l i.toNat) 3)))),?_,⟨by simpa[aP] using h1,by simp only;omega,by simp only;omega,?_,?_⟩,rfl,?_⟩⟩
  all_goals first
   |omega
   |(simp only[bf];omega)
   |(simp only[show(i+1).toNat=i.toNat+1 by omega,ab8,List.length_cons,List.length_nil];omega)
   |skip
  ·simp only[ER,iU,bf,ab8,List.length_cons,List.length_nil]
   rw[List.take_of_length_le (by simp[bf])]
   rfl
  ·simp only[uk,Out.run,show(i+1).toNat=i.toNat+1 by omega] at ho⊢
   rw[hv,aa6 e1] at ho
   simpa[List.append_assoc] using ho
  ·simp only[ER,iU,bf,ab8]
  ·simp only[uk,Out.run,show(i+1).toNat=i.toNat+1 by omega] at ho⊢
   rw[hv,aa4 e1] at ho
   simpa[List.append_assoc] using ho
 ·simp only[uk,Out.run] at ho
  rw[aa8 (by omega)] at ho
  simpa[aa,aq] using ho
noncomputable def FP(κ:Kp)(r:Nat):Env:=(yK κ r).aj 84 3 (aQ 0 ER (Eh r) uk)
theorem XC(κ:Kp)(r:Nat)(l:List AV)(K:AV->List Dn.Obj->Prop):(bg (FP κ r) 12 84 [.ae 52 l] [] K)=(
 ag (Pg.toProgram (Env.P (yK κ r))) 84 3=ag (Pg.toProgram (Env.P (yK κ r))) 84 3/\∃(a:List AV×Int×List ByteArray),sp 27 [(3,AV.az 0 0
 0),(6,AV.ae 52 l),(7,AV.int (↑(l.length):Int)),(8,AV.int 0)] [Obj.row 9 []]=sp 27 [(3,AV.az 0 0 (List.length a.2.2)),(6,AV.ae 52 a.1),(7,
 AV.int (↑(a.1.length):Int)),(8,AV.int a.2.1)] [Obj.row 9 (strs a.2.2)]/\(a.1.length<=9223372036854775807/\(0:Int)<=a.2.1/\a.2.1<=(↑(a.1.length):
 Int)/\aM (aa (List.drop a.2.1.toNat a.1))<=r/\List.length a.2.2+aM (aa (List.drop a.2.1.toNat a.1))<=100000)/\K (AV.az 0 0 (List.length
 (a.2.2++aq (aa (List.drop a.2.1.toNat a.1))))) [Obj.row 9 (strs (a.2.2++aq (aa (List.drop a.2.1.toNat a.1))))]):=by kernel_rfl
theorem F6(n:Nat):(JO n).jI:=aI
theorem Rf(κ:Kp)(r:Nat)(hp: ∀args st K,(∃m,m<r/\JO m args st K)->dj (Pr κ) 84 args st K):aC (FP κ r)/\ai (FP κ r)/\(FP κ r).P=Pr κ:=
 have h:aC (yK κ r):=(UP κ).me hp
 have hm:ai (yK κ r):=(UH κ).aw (fun _ _ _ _ hK ⟨m,h1,h2⟩=>⟨m,h1,F6 m _ _ _ _ hK h2⟩)
 ⟨h.aj hm (l31 κ r),hm.aj aG,rfl⟩
theorem YG(κ:Kp)(r:Nat):bz (FP κ r) 12 84 (JO r):=by
 refine bh ?_
 rintro l K ⟨h1,h2⟩ ho
 refine Eq.mpr (XC κ r l K) ?_
 have:=fJ (aa l)
 rw[eY] at this
 refine⟨rfl,(l,0,[]),rfl,⟨by simp only;omega,by simp only;omega,by simp only;omega,?_,?_⟩,?_⟩
 ·simp only[ab7,ab0];omega
 ·simp only[ab7,ab0,List.length_nil];omega
 ·simp only[ab7,ab0,List.nil_append]
  exact ho
def bu(l:List AV):Prop:=aM (aa l)<=100000
theorem W3(κ:Kp): ∀args st K,aZ NM bu G7 args st K->dj (Pr κ) 84 args st K:=by
 rintro args st K ⟨l,h1,h2,h3⟩
 exact aC.x0 JO (FP κ) (Rf κ) (YG κ) (aM (aa l)) args st K ⟨l,h1,⟨rfl,h2⟩,h3⟩
noncomputable def Lf(κ:Kp):Env:=(Ra κ).aw 84 (aZ NM bu G7)
theorem XR(κ:Kp):aC (Lf κ):=(UP κ).me (W3 κ)
theorem UD(κ:Kp):ai (Lf κ):=(UH κ).aw aI
theorem x23(κ:Kp)(l:List AV)(i:Int)(es:List (Value×AV))(I:Nat->S->Prop)(n:Nat)(K:Exit->S->Prop):(vc (Lf κ) 12 81 none 1 (ag (Pr κ).toProgram 81 1) (sp 15 [(0, .mp 0),(6, .ae 9 l),(7, .int l.length),(8, .int i)] [.map 9 4 es]) (bI (Lf κ) 81 1 1 I n K))=(
 letI z1:=i<(↑(l.length):Int)
 ax (decide z1) (aO (decide ((0:Int)<=i)&&decide z1) (∃(e0:Nat),e0<n/\I e0 (sp 15 [(0,AV.mp 0),(6,AV.ae 9 l),(7,AV.int (↑(l.length):Int)),(8,
 AV.int (IntKind.wrap IntKind.i64 (i+(1:Int))))] [Dn.Obj.map 9 4 (eh es (Value.string (toStr (nth l i.toNat))) (AV.bool true))]))) (K (Exit.exit 0) (sp 15 []
 [Dn.Obj.map 9 4 es]))):=by kernel_rfl
abbrev MS(a:List AV×Int×List (Value×AV)):S:=sp 15 [(0, .mp 0),(6, .ae 9 a.1),(7, .int a.1.length),(8, .int a.2.1)] [.map 9 4 a.2.2]
def sz(a:List AV×Int×List (Value×AV)):Prop:=a.1.length<=aP/\0<=a.2.1/\a.2.1<=a.1.length
def yj(a:List AV×Int×List (Value×AV)):Out (Exit×S):= .one (.exit 0,sp 15 [] [.map 9 4 (fc a.2.2 (a.1.drop a.2.1.toNat))])
theorem Vh(κ:Kp):bn (Lf κ) 12 81 1 (aQ 1 MS sz yj):=by
 refine aR (fun a=>a.1.length - a.2.1.toNat) ?_
 rintro⟨l,i,es⟩ K ⟨h1,h2,h3⟩ ho
 simp only at h1 h2 h3
 rw[show(Lf κ).P=Pr κ from rfl]
 refine Eq.mpr (x23 κ l i es _ _ K) ?_
 simp only[aP] at h1
 simp only[af,au,aa0,aa2,aa1]
 refine⟨fun hi=>⟨⟨h2,hi⟩,?_⟩,fun hi=>?_⟩
 ·rw[a5 (n:=i+1) (by omega) (by omega)]
  refine⟨_,?_,(l,i+1,eh es (.string (toStr (nth l i.toNat))) (.lit (.bool true))),rfl,⟨by simpa[aP] using h1,by simp only;omega,by simp only;omega⟩,rfl,?_⟩
  ·simp only;omega
  ·simp only[yj,Out.run] at ho⊢
   rw[ab1 (show i.toNat<l.length by omega),fc,←a8 l i.toNat (by omega)] at ho
   rw[show(i+1).toNat=i.toNat+1 by omega]
   exact ho
 ·simp only[yj,Out.run] at ho
  rw[aa8 (by omega)] at ho
  exact ho
noncomputable def Jt(κ:Kp):Env:=(Lf κ).aj 81 1 (aQ 1 MS sz yj)
theorem SB(κ:Kp):aC (Jt κ):=(XR κ).aj (UD κ) (Vh κ)
theorem OP(κ:Kp):ai (Jt κ):=(UD κ).aj aG
theorem Yb(κ:Kp)(l:List AV)(es:List (Value×AV))(K:AV->List Dn.Obj->Prop):(bg (Jt κ) 12 81 [.mp 0, .ae 9 l] [.map 9 4 es] K)=(
 letI z1:=Pg.toProgram (Env.P (Lf κ))
 ag z1 81 1=ag z1 81 1/\∃(e0:List AV×Int×List (Value×AV)),sp 15 [(0,AV.mp 0),(6,AV.ae 9 l),(7,AV.int (↑(l.length):Int)),(8,AV.int 0)]
 [Dn.Obj.map 9 4 es]=sp 15 [(0,AV.mp 0),(6,AV.ae 9 e0.1),(7,AV.int (↑(e0.1.length):Int)),(8,AV.int e0.2.1)] [Dn.Obj.map 9 4 e0.2.2]/\(e0.1.length<=
 9223372036854775807/\(0:Int)<=e0.2.1/\e0.2.1<=(↑(e0.1.length):Int))/\K (AV.bp []) [Dn.Obj.map 9 4 (fc e0.2.2 (List.drop e0.2.1.toNat e0.1))]):=by kernel_rfl
def KP(a:List AV×List (Value×AV)):List AV×List Dn.Obj:=([.mp 0, .ae 9 a.1],[.map 9 4 a.2])
def bd(a:List AV×List (Value×AV)):Prop:=a.1.length<=aP
def MB(a:List AV×List (Value×AV)):Out (AV×List Dn.Obj):= .one (.bp [],[.map 9 4 (fc a.2 a.1)])
theorem c23(κ:Kp):bz (Jt κ) 12 81 (aZ KP bd MB):=by
 refine bh ?_
 rintro⟨l,es⟩ K h1 ho
 refine Eq.mpr (Yb κ l es K) ?_
 exact⟨rfl,(l,0,es),rfl,⟨h1,by simp only;omega,by simp only;omega⟩,ho⟩
noncomputable def Ke(κ:Kp):Env:=(Jt κ).aw 81 (aZ KP bd MB)
theorem e23(κ:Kp):aC (Ke κ):=(SB κ).aw (OP κ) (c23 κ)
theorem TL(κ:Kp):ai (Ke κ):=(OP κ).aw aI
theorem V2(κ:Kp)(l:List AV)(i:Int)(es:List (Value×AV))(I:Nat->S->Prop)(n:Nat)(K:Exit->S->Prop):(vc (Ke κ) 12 155 none 2 (ag (Pr κ).toProgram 155 2) (sp 19 [(0, .ae 9 l),(1, .bP 130 [.ptr 1 0 [] 0]),(7, .int l.length),(8, .int i)] [.map 9 4 es, .box 114 (.mp 0)]) (bI (Ke κ) 155 2 2 I n K))=(
 letI z1:=i<(↑(l.length):Int)
 ax (decide z1) (aO (decide ((0:Int)<=i)&&decide z1) (ax (!Dn.toBool (cM es (Value.string (toStr (nth l i.toNat))) (AV.bool false))) (K Exit.ret (sp 19 [(4,
 AV.int i)] [Dn.Obj.map 9 4 es,Obj.box 114 (AV.mp 0)])) (∃(e0:Nat),e0<n/\I e0 (sp 19 [(0,AV.ae 9 l),(1,AV.bP 130 [AV.ptr 1 0 [] 0]),(7,AV.int
 (↑(l.length):Int)),(8,AV.int (IntKind.wrap IntKind.i64 (i+(1:Int))))] [Dn.Obj.map 9 4 es,Obj.box 114 (AV.mp 0)])))) (K (Exit.exit 0) (sp 19 []
 [Dn.Obj.map 9 4 es,Obj.box 114 (AV.mp 0)]))):=by kernel_rfl
abbrev HT(es:List (Value×AV)):List Dn.Obj:=[.map 9 4 es, .box 114 (.mp 0)]
abbrev Mg(a:List AV×Int×List (Value×AV)):S:=sp 19 [(0, .ae 9 a.1),(1, .bP 130 [.ptr 1 0 [] 0]),(7, .int a.1.length),(8, .int a.2.1)] (HT a.2.2)
def xM(a:List AV×Int×List (Value×AV)):Out (Exit×S):=
 .ax (fD a.2.2 (a.1.drop a.2.1.toNat)) (.one (.exit 0,sp 19 [] (HT a.2.2))) (.all (fun j:Int=>0<=j) fun j=> .one (.ret,sp 19 [(4, .int j)] (HT a.2.2)))
theorem Vx(κ:Kp):bn (Ke κ) 12 155 2 (aQ 2 Mg sz xM):=by
 refine aR (fun a=>a.1.length - a.2.1.toNat) ?_
 rintro⟨l,i,es⟩ K ⟨h1,h2,h3⟩ ho
 simp only at h1 h2 h3
 rw[show(Ke κ).P=Pr κ from rfl]
 refine Eq.mpr (V2 κ l i es _ _ K) ?_
 simp only[aP] at h1
 simp only[xM,Out.run,af] at ho
 simp only[af,au,aa0,aa2,aa1,Bool.not_eq_true',ab2]
 refine⟨fun hi=>⟨⟨h2,hi⟩,?_⟩,fun hi=>?_⟩
 ·rw[ab1 (show i.toNat<l.length by omega),←a8 l i.toNat (by omega)] at ho
  simp only[fD,List.all_cons] at ho
  refine⟨fun e=>?_,fun e=>?_⟩
  ·have e':sE es (toStr (nth l i.toNat))=false:=e
   exact ho.2 (by rw[e'];rfl) i h2
  ·have e':sE es (toStr (nth l i.toNat))=true:=e
   rw[e',ab9] at ho
   rw[a5 (n:=i+1) (by omega) (by omega)]
   refine⟨_,?_,(l,i+1,es),rfl,⟨by simpa[aP] using h1,by simp only;omega,by simp only;omega⟩,rfl,?_⟩
   ·simp only;omega
   ·simp only[xM,Out.run,af,show(i+1).toNat=i.toNat+1 by omega]
    exact ho
 ·rw[aa8 (by omega)] at ho
  exact ho.1 rfl
noncomputable def IW(κ:Kp):Env:=(Ke κ).aj 155 2 (aQ 2 Mg sz xM)
theorem RI(κ:Kp):aC (IW κ):=(e23 κ).aj (TL κ) (Vx κ)
theorem OO(κ:Kp):ai (IW κ):=(TL κ).aj aG
theorem y30(κ:Kp)(l:List AV)(es:List (Value×AV))(K:AV->List Dn.Obj->Prop):(bg (IW κ) 12 83 [.mp 0, .ae 9 l] [.map 9 4 es] K)=(
 ag (Pg.toProgram (Env.P (Ke κ))) 155 2=ag (Pg.toProgram (Env.P (Ke κ))) 155 2/\∃(a:List AV×Int×List (Value×AV)),sp 19 [(0,AV.ae 9
 l),(1,AV.bP 130 [AV.ptr 1 0 [] 0]),(7,AV.int (↑(l.length):Int)),(8,AV.int 0)] [Dn.Obj.map 9 4 es,Obj.box 114 (AV.mp 0)]=sp 19 [(0,AV.ae 9 a.1),
 (1,AV.bP 130 [AV.ptr 1 0 [] 0]),(7,AV.int (↑(a.1.length):Int)),(8,AV.int a.2.1)] [Dn.Obj.map 9 4 a.2.2,Obj.box 114 (AV.mp 0)]/\(a.1.length<=
 9223372036854775807/\(0:Int)<=a.2.1/\a.2.1<=(↑(a.1.length):Int))/\ax (fD a.2.2 (List.drop a.2.1.toNat a.1)) (K (AV.bool true) [Dn.Obj.map 9 4
 a.2.2]) (∀(y:Int),(0:Int)<=y->K (AV.lit (Value.bool !decide (y>=(0:Int)))) [Dn.Obj.map 9 4 a.2.2])):=by kernel_rfl
def HV(a:List AV×List (Value×AV)):Out (AV×List Dn.Obj):= .one (.bool (fD a.2 a.1),[.map 9 4 a.2])
theorem Yy(κ:Kp):bz (IW κ) 12 83 (aZ KP bd HV):=by
 refine bh ?_
 rintro⟨l,es⟩ K h1 ho
 refine Eq.mpr (y30 κ l es K) ?_
 refine⟨rfl,(l,0,es),rfl,⟨h1,by simp only;omega,by simp only;omega⟩,?_⟩
 simp only[HV,Out.run] at ho
 simp only[ab7,ab0]
 rw[af]
 refine⟨fun e=>by rw[e] at ho;exact ho,fun e j hj=>?_⟩
 rw[e] at ho
 rw[aa6 (show j>=0 from hj)]
 exact ho
noncomputable def LD(κ:Kp):Env:=(IW κ).aw 83 (aZ KP bd HV)
theorem Zx(κ:Kp):aC (LD κ):=(RI κ).aw (OO κ) (Yy κ)
theorem Tu(κ:Kp):ai (LD κ):=(OO κ).aw aI
theorem x62(κ:Kp)(l:List AV)(i:Int)(vs:List ByteArray)(I:Nat->S->Prop)(n:Nat)(K:Exit->S->Prop):(vc (LD κ) 12 168 none 0 (ag (Pr κ).toProgram 168 3) (sp 23 [(3, .az 0 0 vs.length),(7, .ae 52 l),(8, .int l.length),(9, .int i)] [.row 9 (strs vs)]) (bI (LD κ) 168 3 0 I n K))=(
 letI z1:=nth l i.toNat
 letI z2:=IntKind.wrap IntKind.i64 (i+(1:Int))
 letI z3:=i<(↑(l.length):Int)
 ax (decide z3) (aO (decide ((0:Int)<=i)&&decide z3) (ax (decide (toInt (ad z1 0)>=(5:Int))) (∃(e1:List AV),([AV.ae 52 [AV.agg [AV.int (toInt (ad z1
 0)),AV.str (toStr (ad z1 1)),AV.int (toInt (ad z1 2)),AV.ae 52 (ah (ad z1 3))]]],aB)=([AV.ae 52 e1],aB)/\bu e1/\aO (decide ((vs.length+List.length
 (List.take (List.length (aq (aa e1))) (List.drop 0 (strs (aq (aa e1)))))+1)*17<=70368744177664)) (∃(e0:Nat),e0<n/\I e0 (sp 23 [(3,AV.az 0 0
 (vs.length+List.length (List.take (List.length (aq (aa e1))) (List.drop 0 (strs (aq (aa e1))))))),(7,AV.ae 52 l),(8,AV.int (↑(l.length):Int)),(9,
 AV.int z2)] [Obj.row 9 (List.take vs.length (strs vs)++List.take (List.length (aq (aa e1))) (List.drop 0 (strs (aq (aa e1)))))]))) (∃(e0:Nat),e0<n/\I
 e0 (sp 23 [(3,AV.az 0 0 vs.length),(7,AV.ae 52 l),(8,AV.int (↑(l.length):Int)),(9,AV.int z2)] [Obj.row 9 (strs vs)])))) (K (Exit.exit 0) (sp 23 [(3,
 AV.az 0 0 vs.length)] [Obj.row 9 (strs vs)]))):=by kernel_rfl
abbrev HK(a:List AV×Int×List ByteArray):S:=sp 23 [(3, .az 0 0 a.2.2.length),(7, .ae 52 a.1),(8, .int a.1.length),(9, .int a.2.1)] [.row 9 (strs a.2.2)]
def EB(a:List AV×Int×List ByteArray):Prop:=a.1.length<=aP/\0<=a.2.1/\a.2.1<=a.1.length/\a.2.2.length+aM (aa (a.1.drop a.2.1.toNat))<=100000
def uN(a:List AV×Int×List ByteArray):Out (Exit×S):= .one (.exit 0,sp 23 [(3, .az 0 0 (a.2.2++dn (aa (a.1.drop a.2.1.toNat))).length)] [.row 9 (strs (a.2.2++dn (aa (a.1.drop a.2.1.toNat))))])
theorem Yk(κ:Kp):bn (LD κ) 12 168 3 (aQ 0 HK EB uN):=by
 refine aR (fun a=>a.1.length - a.2.1.toNat) ?_
 rintro⟨l,i,vs⟩ K ⟨h1,h2,h3,h5⟩ ho
 simp only at h1 h2 h3 h5
 rw[show(LD κ).P=Pr κ from rfl]
 refine Eq.mpr (x62 κ l i vs _ _ K) ?_
 simp only[ab0,ct]
 simp only[aP] at h1
 simp only[af,au,aa0,aa2,aa1]
 refine⟨fun hi=>⟨⟨h2,hi⟩,?_⟩,fun hi=>?_⟩
 ·have hv:=Iz l i.toNat (by omega)
  have hc:aM (aa (l.drop i.toNat))=aM [cG (nth l i.toNat)]+aM (aa (l.drop (i.toNat+1))):=by
   rw[dS l i.toNat (by omega)];simp only[aM,Nat.add_zero]
  have hle:=b8 [cG (nth l i.toNat)]
  have ht:aa [.agg [.int (toInt (ad (nth l i.toNat) 0)), .lit (.string (toStr (ad (nth l i.toNat) 1))), .int (toInt (ad (nth l i.toNat) 2)), .ae 52 (ah (ad (nth l i.toNat) 3))]]=[cG (nth l i.toNat)]:=by
   simp only[aa,ac0,List.map_nil]
   rw[mC,←cE]
  rw[a5 (n:=i+1) (by omega) (by omega)]
  refine⟨fun e1=>⟨_,rfl,?_,?_,_,?_,(l,i+1,vs++aq [cG (nth l i.toNat)]),?_,⟨by simpa[aP] using h1,by simp only;omega,by simp only;omega,?_⟩,rfl,?_⟩,fun e1=>⟨_,?_,(l,i+1,vs),rfl,⟨by simpa[aP] using h1,by simp only;omega,by simp only;omega,?_⟩,rfl,?_⟩⟩
  ·simp only[bu,ht];omega
  ·rw[ht,bf];omega
  ·simp only;omega
  ·rw[ht];simp only[HK,iU,bf,ab8]
  ·simp only[show(i+1).toNat=i.toNat+1 by omega,ab8];omega
  ·simp only[uN,Out.run,show(i+1).toNat=i.toNat+1 by omega] at ho⊢
   rw[hv,aa6 (show 5<=toInt (ad (nth l i.toNat) 0) from e1)] at ho
   simpa[List.append_assoc] using ho
  ·simp only;omega
  ·simp only[show(i+1).toNat=i.toNat+1 by omega];omega
  ·simp only[uN,Out.run,show(i+1).toNat=i.toNat+1 by omega] at ho⊢
   rw[hv,aa4 (show ¬ 5<=toInt (ad (nth l i.toNat) 0) from e1)] at ho
   simpa[List.append_assoc] using ho
 ·simp only[uN,Out.run] at ho
  rw[aa8 (by omega)] at ho
  simpa[aa,dn] using ho
noncomputable def IB(κ:Kp):Env:=(LD κ).aj 168 3 (aQ 0 HK EB uN)
theorem SP(κ:Kp):aC (IB κ):=(Zx κ).aj (Tu κ) (Yk κ)
theorem O2(κ:Kp):ai (IB κ):=(Tu κ).aj aG
theorem Wi(κ:Kp)(s:ByteArray)(l:List AV)(K:AV->List Dn.Obj->Prop):(bg (IB κ) 12 168 [.agg [.lit (.string s), .ae 52 l]] [] K)=(
 ag (Pg.toProgram (Env.P (LD κ))) 168 3=ag (Pg.toProgram (Env.P (LD κ))) 168 3/\∃(a:List AV×Int×List ByteArray),sp 23 [(3,AV.az 0 0 0),
 (7,AV.ae 52 l),(8,AV.int (↑(l.length):Int)),(9,AV.int 0)] [Obj.row 9 []]=sp 23 [(3,AV.az 0 0 (List.length a.2.2)),(7,AV.ae 52 a.1),(8,AV.int
 (↑(a.1.length):Int)),(9,AV.int a.2.1)] [Obj.row 9 (strs a.2.2)]/\(a.1.length<=9223372036854775807/\(0:Int)<=a.2.1/\a.2.1<=(↑(a.1.length):Int)/\
 List.length a.2.2+aM (aa (List.drop a.2.1.toNat a.1))<=100000)/\K (AV.az 0 0 (List.length (a.2.2++dn (aa (List.drop a.2.1.toNat a.1)))))
 [Obj.row 9 (strs (a.2.2++dn (aa (List.drop a.2.1.toNat a.1))))]):=by kernel_rfl
def PC(a:ByteArray×List AV):List AV×List Dn.Obj:=([.agg [.lit (.string a.1), .ae 52 a.2]],[])
def jo(a:ByteArray×List AV):Prop:=aM (aa a.2)<=100000
def L3(a:ByteArray×List AV):Out (AV×List Dn.Obj):= .one (.az 0 0 (dn (aa a.2)).length,[.row 9 (strs (dn (aa a.2)))])
theorem YR(κ:Kp):bz (IB κ) 12 168 (aZ PC jo L3):=by
 refine bh ?_
 rintro⟨s,l⟩ K h1 ho
 simp only[jo] at h1
 refine Eq.mpr (Wi κ s l K) ?_
 have:=fJ (aa l)
 rw[eY] at this
 refine⟨rfl,(l,0,[]),rfl,⟨by simp only;omega,by simp only;omega,by simp only;omega,?_⟩,?_⟩
 ·simp only[ab7,ab0,List.length_nil];omega
 ·simp only[ab7,ab0,List.nil_append]
  exact ho
noncomputable def PO(κ:Kp):Env:=(IB κ).aw 168 (aZ PC jo L3)
theorem Wp(κ:Kp):aC (PO κ):=(SP κ).aw (O2 κ) (YR κ)
theorem Td(κ:Kp):ai (PO κ):=(O2 κ).aw aI
structure LA where
 op:Int
 s:ByteArray
 l:List AV
 o1:Int
 s1:ByteArray
 n1:Int
 l1:List AV
 o2:Int
 s2:ByteArray
 n2:Int
 l2:List AV
abbrev LA.av(a:LA):AV:= .agg [.int a.op, .agg [.lit (.string a.s), .ae 52 a.l], .agg [.int a.o1, .lit (.string a.s1), .int a.n1, .ae 52 a.l1], .agg [.int a.o2, .lit (.string a.s2), .int a.n2, .ae 52 a.l2]]
theorem XP(κ:Kp)(a:LA)(K:AV->List Dn.Obj->Prop):(bg (PO κ) 12 117 [a.av] [] K)=(
 K (AV.bool (decide (a.op>=(7:Int)))) []):=by kernel_rfl
def Sk:List AV->Option (Bool×AV)
 |[.agg [.lit (.int .i64 op), .agg [.lit (.string _), .ae 52 _], .agg [.lit (.int .i64 _), .lit (.string _), .lit (.int .i64 _), .ae 52 _], .agg [.lit (.int .i64 _), .lit (.string _), .lit (.int .i64 _), .ae 52 _]]]=>some (true, .bool (decide (7<=op)))
 |_=>none
theorem XB(κ:Kp):cy (PO κ) 12 117 Sk:=by
 intro args x hh
 unfold Sk at hh
 split at hh
 ·rename_i op s l o1 s1 n1 l1 o2 s2 n2 l2
  simp only[aa3,aa9,true_and] at hh
  subst hh
  exact⟨_,rfl,rfl,Eq.mpr (XP κ ⟨op,s,l,o1,s1,n1,l1,o2,s2,n2,l2⟩ _) rfl⟩
 ·cases hh
noncomputable def Qa(κ:Kp):Env:=(PO κ).aF 117 Sk
theorem YD(κ:Kp):aC (Qa κ):=(Wp κ).aF (Td κ) (XB κ)
theorem TC(κ:Kp):ai (Qa κ):=(Td κ).aF
theorem y40(κ:Kp)(a:LA)(K:AV->List Dn.Obj->Prop):(bg (Qa κ) 12 128 [a.av] [] K)=(
 letI z1:=∃(e1:List AV),([AV.ae 52 [AV.agg [AV.int a.o1,AV.str a.s1,AV.int a.n1,AV.ae 52 a.l1],AV.agg [AV.int a.o2,AV.str a.s2,AV.int a.n2,AV.ae 52
  a.l2]]],aB)=([AV.ae 52 e1],aB)/\bu e1/\∃(e0:List AV),([AV.ae 52 a.l],aB)=([AV.ae 52 e0],aB)/\bu e0/\aO (decide ((List.length (aq (aa e1))+
  List.length (List.take (List.length (aq (aa e0))) (List.drop 0 (strs (aq (aa e0)))))+1)*17<=70368744177664)) (K (AV.az 0 0 (List.length (aq (aa e1))+
  List.length (List.take (List.length (aq (aa e0))) (List.drop 0 (strs (aq (aa e0))))))) [Obj.row 9 (List.take (List.length (aq (aa e1))) (strs (aq (aa e1)))++
  List.take (List.length (aq (aa e0))) (List.drop 0 (strs (aq (aa e0)))))])
 (z1/\z1/\z1/\z1)/\(z1/\z1/\z1)/\(z1/\z1)/\z1):=by kernel_rfl
def LA.lt(a:LA):Lt:=⟨a.op,⟨a.s,aa a.l⟩, .mk a.o1 a.s1 a.n1 (aa a.l1), .mk a.o2 a.s2 a.n2 (aa a.l2)⟩
def OY(a:LA):List AV×List Dn.Obj:=([a.av],[])
def fp(a:LA):Prop:=iR a.lt<=100000
def GM(a:LA):Out (AV×List Dn.Obj):= .one (.az 0 0 (dJ a.lt).length,[.row 9 (strs (dJ a.lt))])
theorem Wu(κ:Kp):bz (Qa κ) 12 128 (aZ OY fp GM):=by
 refine bh ?_
 rintro a K h1 ho
 refine Eq.mpr (y40 κ a K) ?_
 simp only[and_self]
 simp only[fp,iR,LA.lt] at h1
 have ht:aa [.agg [.int a.o1, .lit (.string a.s1), .int a.n1, .ae 52 a.l1], .agg [.int a.o2, .lit (.string a.s2), .int a.n2, .ae 52 a.l2]]=[.mk a.o1 a.s1 a.n1 (aa a.l1), .mk a.o2 a.s2 a.n2 (aa a.l2)]:=by
  simp only[aa,ac0,List.map_nil]
  rw[mC,mC];rfl
 have e1:=b8 (aa a.l)
 have e2:=b8 [.mk a.o1 a.s1 a.n1 (aa a.l1), .mk a.o2 a.s2 a.n2 (aa a.l2)]
 refine⟨_,rfl,?_,_,rfl,?_,?_⟩
 ·simp only[bu,ht];omega
 ·simp only[bu];omega
 ·simp only[ab0,ct,ht,bf]
  rw[au,aa0]
  refine⟨by omega,?_⟩
  simp only[GM,Out.run,dJ,LA.lt,iU,ab8] at ho
  exact ho
noncomputable def Ph(κ:Kp):Env:=(Qa κ).aw 128 (aZ OY fp GM)
theorem XM(κ:Kp):aC (Ph κ):=(YD κ).aw (TC κ) (Wu κ)
theorem Ut(κ:Kp):ai (Ph κ):=(TC κ).aw aI
structure TA where
 o1:Int
 s1:ByteArray
 n1:Int
 l1:List AV
 o2:Int
 s2:ByteArray
 n2:Int
 l2:List AV
 es:List (Value×AV)
theorem ZW(κ:Kp)(a:TA)(K:AV->List Dn.Obj->Prop):(bg (Ph κ) 12 116 [.mp 0, .agg [.int a.o1, .lit (.string a.s1), .int a.n1, .ae 52 a.l1], .agg [.int a.o2, .lit (.string a.s2), .int a.n2, .ae 52 a.l2]] [.map 9 4 a.es] K)=(
 letI z1:=K (AV.bool false) [Dn.Obj.map 9 4 a.es]
 ax (a.o1==(1:Int)) (ax (!Dn.toBool (cM a.es (Value.string a.s1) (AV.bool false))) (∃(e1:List AV),([AV.ae 52 [AV.agg [AV.int a.o2,AV.str a.s2,AV.int
 a.n2,AV.ae 52 a.l2]]],aB)=([AV.ae 52 e1],aB)/\bu e1/\∃(e0:List AV×List (Value×AV)),([AV.mp 0,AV.ae 9 (List.take (List.length (aq (aa e1)))
 (List.drop 0 (strs (aq (aa e1)))))],[Dn.Obj.map 9 4 a.es])=([AV.mp 0,AV.ae 9 e0.1],[Dn.Obj.map 9 4 e0.2])/\bd e0/\K (AV.bool (fD e0.2 e0.1)) [Dn.Obj.map
 9 4 e0.2]) z1) z1):=by kernel_rfl
def TA.x(a:TA):Tm:= .mk a.o1 a.s1 a.n1 (aa a.l1)
def TA.y(a:TA):Tm:= .mk a.o2 a.s2 a.n2 (aa a.l2)
def Px(a:TA):List AV×List Dn.Obj:=([.mp 0, .agg [.int a.o1, .lit (.string a.s1), .int a.n1, .ae 52 a.l1], .agg [.int a.o2, .lit (.string a.s2), .int a.n2, .ae 52 a.l2]],[.map 9 4 a.es])
def gX(a:TA):Prop:=aM [a.y]<=100000
def L4(a:TA):Out (AV×List Dn.Obj):= .one (.bool (kF a.es a.x a.y),[.map 9 4 a.es])
theorem c20(κ:Kp):bz (Ph κ) 12 116 (aZ Px gX L4):=by
 refine bh ?_
 rintro a K h1 ho
 refine Eq.mpr (ZW κ a K) ?_
 have ht:aa [.agg [.int a.o2, .lit (.string a.s2), .int a.n2, .ae 52 a.l2]]=[a.y]:=by
  simp only[aa,ac0,List.map_nil]
  rw[mC];rfl
 have hle:=b8 [a.y]
 have ho':K (.bool (decide (a.o1=1)&&(!sE a.es a.s1&&fD a.es (strs (aq [a.y]))))) [.map 9 4 a.es]:=ho
 simp only[gX] at h1
 simp only[af,beq_iff_eq,beq_eq_false_iff_ne,Bool.not_eq_true',ab2]
 refine⟨fun e1=>⟨fun e2=>?_,fun e2=>?_⟩,fun e1=>?_⟩
 ·have e2':sE a.es a.s1=false:=e2
  rw[aa6 e1,e2'] at ho'
  refine⟨_,rfl,by simp only[bu,ht];exact h1,(strs (aq [a.y]),a.es),?_,?_,ho'⟩
  ·simp only[ab0,ct,ht]
  ·simp only[bd,bf,aP];omega
 ·have e2':sE a.es a.s1=true:=e2
  rw[aa6 e1,e2'] at ho'
  exact ho'
 ·rw[aa4 e1] at ho'
  exact ho'
noncomputable def Q4(κ:Kp):Env:=(Ph κ).aw 116 (aZ Px gX L4)
theorem Q7(κ:Kp):aC (Q4 κ):=(XM κ).aw (Ut κ) (c20 κ)
theorem S6(κ:Kp):ai (Q4 κ):=(Ut κ).aw aI
end Go.Proofs.YtdpmikfheebicaaGreatDoor
