import Derived.Test.YtdpmikfheebicaaGreatDoorDqMA
namespace Go.Proofs.YtdpmikfheebicaaGreatDoor
open Go Go.Dn Go.Rl Go.Proofs
attribute [local irreducible] bg vc
set_option maxRecDepth 20000
theorem XN(κ:Kp)(ds rs:List AV)(i:Int)(K:AV->List Dn.Obj->Prop):(bg (PG κ) 12 6 [gz ds rs, .int i] [] K)=(
 letI z5:=(↑(ds.length):Int)==(0:Int)
 letI z6:=true&&decide ((Int.toNat (↑(rs.length):Int)+1)*73<=70368744177664)&&true
 letI z7:=z5==true
 letI z9:=List.drop 0 (List.take i.toNat rs)
 letI z4:=decide ((0+List.length z9+1)*73<=70368744177664)
 letI z10:=true&&decide ((0:Int)<=i)&&decide (i<=(↑(rs.length):Int))
 letI z12:=List.take (Int.toNat (↑(rs.length):Int)) rs
 letI z13:=i+(1:Int)
 letI z3:=decide ((0:Int)<=IntKind.wrap IntKind.i64 z13)&&decide (IntKind.wrap IntKind.i64 z13<=(↑(rs.length):Int))&&decide ((↑(rs.length):Int)<=
  (↑(rs.length):Int))
 letI z11:=Int.toNat (IntKind.wrap IntKind.i64 z13)
 letI z8:=List.drop z11 z12
 letI z1:=List.take (0+List.length z9+List.length z8) (List.drop 0 (List.take (0+List.length z9) ([]++List.drop 0 (List.take i.toNat rs))++List.drop
  z11 z12))
 letI z2:=decide ((0+List.length z9+List.length z8+1)*73<=70368744177664)
 aO (decide (ds.length<=9223372036854775807)&&List.all ds fun(e0:AV)=>decide (List.length (ah (ad e0 1))<=9223372036854775807)) (ax ((bif fW ds rs then
 (1:Int) else(0:Int))==(0:Int)) (K (AV.bool true) []) (ax (decide (i<(0:Int))) (K (AV.bool true) []) (ax (decide (i>=(↑(rs.length):Int))) (K
 (AV.bool true) []) (∃(e2:ga),([AV.agg [AV.ae 62 ds,AV.ae 41 rs]],aB)=([AV.agg [AV.ae 62 e2.1,AV.ae 41 e2.2]],aB)/\(e2.1.length<=9223372036854775807
 /\e2.2.length<=9223372036854775807/\∀(e0:AV),List.Mem e0 e2.2->aM (aa (aH 52 (ba.hl (bM e0)) (ba.bl (bM e0))))<=100000/\List.length (ba.bl (bM e0))<=
 100000)/\ax (decide (Prod.snd (cr e2.1 e2.2)=(0:Int))) (aO z10 (aO z6 (aO z4 (aO z3 (aO z2 (∃(e1:ga),([AV.agg [AV.ae 62 ds,AV.ae 41 z1]],aB)=
 ([AV.agg [AV.ae 62 e1.1,AV.ae 41 e1.2]],aB)/\(e1.1.length<=9223372036854775807/\e1.2.length<=9223372036854775807/\∀(e0:AV),List.Mem e0 e1.2->aM (aa
 (aH 52 (ba.hl (bM e0)) (ba.bl (bM e0))))<=100000/\List.length (ba.bl (bM e0))<=100000)/\ax (decide (Prod.snd (cr e1.1 e1.2)=(0:Int))) (K (AV.bool (z5==
 ((↑(List.length (bU (dA e1.1 e1.2))):Int)==(0:Int)))) []) (ax (Prod.snd (cr e1.1 e1.2)==(0:Int)) (K (AV.bool z7) []) (K (AV.bool false) [])))/\aO z2
 (∃(e1:ga),([AV.agg [AV.ae 62 ds,AV.ae 41 z1]],aB)=([AV.agg [AV.ae 62 e1.1,AV.ae 41 e1.2]],aB)/\(e1.1.length<=9223372036854775807/\e1.2.length<=
 9223372036854775807/\∀(e0:AV),List.Mem e0 e1.2->aM (aa (aH 52 (ba.hl (bM e0)) (ba.bl (bM e0))))<=100000/\List.length (ba.bl (bM e0))<=100000)/\ax
 (decide (Prod.snd (cr e1.1 e1.2)=(0:Int))) (K (AV.bool (z5==((↑(List.length (bU (dA e1.1 e1.2))):Int)==(0:Int)))) []) (ax (Prod.snd (cr e1.1 e1.2)
 ==(0:Int)) (K (AV.bool z7) []) (K (AV.bool false) [])))))/\aO z3 (aO z4 (aO z2 (∃(e1:ga),([AV.agg [AV.ae 62 ds,AV.ae 41 z1]],aB)=([AV.agg [AV.ae 62
 e1.1,AV.ae 41 e1.2]],aB)/\(e1.1.length<=9223372036854775807/\e1.2.length<=9223372036854775807/\∀(e0:AV),List.Mem e0 e1.2->aM (aa (aH 52 (ba.hl (bM
 e0)) (ba.bl (bM e0))))<=100000/\List.length (ba.bl (bM e0))<=100000)/\ax (decide (Prod.snd (cr e1.1 e1.2)=(0:Int))) (K (AV.bool (z5==((↑(List.length
 (bU (dA e1.1 e1.2))):Int)==(0:Int)))) []) (ax (Prod.snd (cr e1.1 e1.2)==(0:Int)) (K (AV.bool z7) []) (K (AV.bool false) [])))/\aO z2 (∃(e1:ga),
 ([AV.agg [AV.ae 62 ds,AV.ae 41 z1]],aB)=([AV.agg [AV.ae 62 e1.1,AV.ae 41 e1.2]],aB)/\(e1.1.length<=9223372036854775807/\e1.2.length<=
 9223372036854775807/\∀(e0:AV),List.Mem e0 e1.2->aM (aa (aH 52 (ba.hl (bM e0)) (ba.bl (bM e0))))<=100000/\List.length (ba.bl (bM e0))<=100000)/\ax
 (decide (Prod.snd (cr e1.1 e1.2)=(0:Int))) (K (AV.bool (z5==((↑(List.length (bU (dA e1.1 e1.2))):Int)==(0:Int)))) []) (ax (Prod.snd (cr e1.1 e1.2)
 ==(0:Int)) (K (AV.bool z7) []) (K (AV.bool false) []))))/\aO z4 (aO z2 (∃(e1:ga),([AV.agg [AV.ae 62 ds,AV.ae 41 z1]],aB)=([AV.agg [AV.ae 62 e1.1,
 AV.ae 41 e1.2]],aB)/\(e1.1.length<=9223372036854775807/\e1.2.length<=9223372036854775807/\∀(e0:AV),List.Mem e0 e1.2->aM (aa (aH 52 (ba.hl (bM e0))
 (ba.bl (bM e0))))<=100000/\List.length (ba.bl (bM e0))<=100000)/\ax (decide (Prod.snd (cr e1.1 e1.2)=(0:Int))) (K (AV.bool (z5==((↑(List.length (bU
 (dA e1.1 e1.2))):Int)==(0:Int)))) []) (ax (Prod.snd (cr e1.1 e1.2)==(0:Int)) (K (AV.bool z7) []) (K (AV.bool false) [])))))/\aO z4 (aO z3 (aO z2 (∃
 (e1:ga),([AV.agg [AV.ae 62 ds,AV.ae 41 z1]],aB)=([AV.agg [AV.ae 62 e1.1,AV.ae 41 e1.2]],aB)/\(e1.1.length<=9223372036854775807/\e1.2.length<=
 9223372036854775807/\∀(e0:AV),List.Mem e0 e1.2->aM (aa (aH 52 (ba.hl (bM e0)) (ba.bl (bM e0))))<=100000/\List.length (ba.bl (bM e0))<=100000)/\ax
 (decide (Prod.snd (cr e1.1 e1.2)=(0:Int))) (K (AV.bool (z5==((↑(List.length (bU (dA e1.1 e1.2))):Int)==(0:Int)))) []) (ax (Prod.snd (cr e1.1 e1.2)
 ==(0:Int)) (K (AV.bool z7) []) (K (AV.bool false) [])))))/\aO z3 (aO z4 (aO z2 (∃(e1:ga),([AV.agg [AV.ae 62 ds,AV.ae 41 z1]],aB)=([AV.agg [AV.ae 62
 e1.1,AV.ae 41 e1.2]],aB)/\(e1.1.length<=9223372036854775807/\e1.2.length<=9223372036854775807/\∀(e0:AV),List.Mem e0 e1.2->aM (aa (aH 52 (ba.hl (bM
 e0)) (ba.bl (bM e0))))<=100000/\List.length (ba.bl (bM e0))<=100000)/\ax (decide (Prod.snd (cr e1.1 e1.2)=(0:Int))) (K (AV.bool (z5==((↑(List.length
 (bU (dA e1.1 e1.2))):Int)==(0:Int)))) []) (ax (Prod.snd (cr e1.1 e1.2)==(0:Int)) (K (AV.bool z7) []) (K (AV.bool false) []))))))/\aO z3 (aO z6 (aO z4
 (aO z2 (∃(e1:ga),([AV.agg [AV.ae 62 ds,AV.ae 41 z1]],aB)=([AV.agg [AV.ae 62 e1.1,AV.ae 41 e1.2]],aB)/\(e1.1.length<=9223372036854775807/\
 e1.2.length<=9223372036854775807/\∀(e0:AV),List.Mem e0 e1.2->aM (aa (aH 52 (ba.hl (bM e0)) (ba.bl (bM e0))))<=100000/\List.length (ba.bl (bM e0))<=
 100000)/\ax (decide (Prod.snd (cr e1.1 e1.2)=(0:Int))) (K (AV.bool (z5==((↑(List.length (bU (dA e1.1 e1.2))):Int)==(0:Int)))) []) (ax (Prod.snd (cr
 e1.1 e1.2)==(0:Int)) (K (AV.bool z7) []) (K (AV.bool false) [])))/\aO z2 (∃(e1:ga),([AV.agg [AV.ae 62 ds,AV.ae 41 z1]],aB)=([AV.agg [AV.ae 62 e1.1,
 AV.ae 41 e1.2]],aB)/\(e1.1.length<=9223372036854775807/\e1.2.length<=9223372036854775807/\∀(e0:AV),List.Mem e0 e1.2->aM (aa (aH 52 (ba.hl (bM e0))
 (ba.bl (bM e0))))<=100000/\List.length (ba.bl (bM e0))<=100000)/\ax (decide (Prod.snd (cr e1.1 e1.2)=(0:Int))) (K (AV.bool (z5==((↑(List.length (bU
 (dA e1.1 e1.2))):Int)==(0:Int)))) []) (ax (Prod.snd (cr e1.1 e1.2)==(0:Int)) (K (AV.bool z7) []) (K (AV.bool false) []))))/\aO z4 (aO z2 (∃(e1:
 ga),([AV.agg [AV.ae 62 ds,AV.ae 41 z1]],aB)=([AV.agg [AV.ae 62 e1.1,AV.ae 41 e1.2]],aB)/\(e1.1.length<=9223372036854775807/\e1.2.length<=
 9223372036854775807/\∀(e0:AV),List.Mem e0 e1.2->aM (aa (aH 52 (ba.hl (bM e0)) (ba.bl (bM e0))))<=100000/\List.length (ba.bl (bM e0))<=100000)/\ax
 (decide (Prod.snd (cr e1.1 e1.2)=(0:Int))) (K (AV.bool (z5==((↑(List.length (bU (dA e1.1 e1.2))):Int)==(0:Int)))) []) (ax (Prod.snd (cr e1.1 e1.2)
 ==(0:Int)) (K (AV.bool z7) []) (K (AV.bool false) [])))))/\aO z6 (aO z4 (aO z2 (∃(e1:ga),([AV.agg [AV.ae 62 ds,AV.ae 41 z1]],aB)=([AV.agg [AV.ae 62
 e1.1,AV.ae 41 e1.2]],aB)/\(e1.1.length<=9223372036854775807/\e1.2.length<=9223372036854775807/\∀(e0:AV),List.Mem e0 e1.2->aM (aa (aH 52 (ba.hl (bM
 e0)) (ba.bl (bM e0))))<=100000/\List.length (ba.bl (bM e0))<=100000)/\ax (decide (Prod.snd (cr e1.1 e1.2)=(0:Int))) (K (AV.bool (z5==((↑(List.length
 (bU (dA e1.1 e1.2))):Int)==(0:Int)))) []) (ax (Prod.snd (cr e1.1 e1.2)==(0:Int)) (K (AV.bool z7) []) (K (AV.bool false) []))))))/\aO z6 (aO z4 (aO z3
 (aO z2 (∃(e1:ga),([AV.agg [AV.ae 62 ds,AV.ae 41 z1]],aB)=([AV.agg [AV.ae 62 e1.1,AV.ae 41 e1.2]],aB)/\(e1.1.length<=9223372036854775807/\
 e1.2.length<=9223372036854775807/\∀(e0:AV),List.Mem e0 e1.2->aM (aa (aH 52 (ba.hl (bM e0)) (ba.bl (bM e0))))<=100000/\List.length (ba.bl (bM e0))<=
 100000)/\ax (decide (Prod.snd (cr e1.1 e1.2)=(0:Int))) (K (AV.bool (z5==((↑(List.length (bU (dA e1.1 e1.2))):Int)==(0:Int)))) []) (ax (Prod.snd (cr
 e1.1 e1.2)==(0:Int)) (K (AV.bool z7) []) (K (AV.bool false) [])))))/\aO z3 (aO z4 (aO z2 (∃(e1:ga),([AV.agg [AV.ae 62 ds,AV.ae 41 z1]],aB)=([AV.agg
 [AV.ae 62 e1.1,AV.ae 41 e1.2]],aB)/\(e1.1.length<=9223372036854775807/\e1.2.length<=9223372036854775807/\∀(e0:AV),List.Mem e0 e1.2->aM (aa (aH 52
 (ba.hl (bM e0)) (ba.bl (bM e0))))<=100000/\List.length (ba.bl (bM e0))<=100000)/\ax (decide (Prod.snd (cr e1.1 e1.2)=(0:Int))) (K (AV.bool (z5==
 ((↑(List.length (bU (dA e1.1 e1.2))):Int)==(0:Int)))) []) (ax (Prod.snd (cr e1.1 e1.2)==(0:Int)) (K (AV.bool z7) []) (K (AV.bool false) []))))))/\aO
 z3 (aO z6 (aO z4 (aO z2 (∃(e1:ga),([AV.agg [AV.ae 62 ds,AV.ae 41 z1]],aB)=([AV.agg [AV.ae 62 e1.1,AV.ae 41 e1.2]],aB)/\(e1.1.length<=
 9223372036854775807/\e1.2.length<=9223372036854775807/\∀(e0:AV),List.Mem e0 e1.2->aM (aa (aH 52 (ba.hl (bM e0)) (ba.bl (bM e0))))<=100000/\List.length
 (ba.bl (bM e0))<=100000)/\ax (decide (Prod.snd (cr e1.1 e1.2)=(0:Int))) (K (AV.bool (z5==((↑(List.length (bU (dA e1.1 e1.2))):Int)==(0:Int)))) [])
 (ax (Prod.snd (cr e1.1 e1.2)==(0:Int)) (K (AV.bool z7) []) (K (AV.bool false) [])))))))) (aO z10 (aO z6 (aO z4 (aO z3 (aO z2 (∃(e1:ga),([AV.agg [AV.ae
 62 ds,AV.ae 41 z1]],aB)=([AV.agg [AV.ae 62 e1.1,AV.ae 41 e1.2]],aB)/\(e1.1.length<=9223372036854775807/\e1.2.length<=9223372036854775807/\∀(e0:
 AV),List.Mem e0 e1.2->aM (aa (aH 52 (ba.hl (bM e0)) (ba.bl (bM e0))))<=100000/\List.length (ba.bl (bM e0))<=100000)/\ax (decide (Prod.snd (cr e1.1 e1.2)=
 (0:Int))) (ax (Prod.snd (cr e2.1 e2.2) != (0:Int)) (K (AV.bool true) []) (K (AV.bool (z5==((↑(List.length (bU (dA e1.1 e1.2))):Int)==(0:Int)))) []))
 (ax (Prod.snd (cr e2.1 e2.2) != (0:Int)) (K (AV.bool true) []) (ax (Prod.snd (cr e1.1 e1.2)==(0:Int)) (K (AV.bool z7) []) (K (AV.bool false) []))))/\aO
 z2 (∃(e1:ga),([AV.agg [AV.ae 62 ds,AV.ae 41 z1]],aB)=([AV.agg [AV.ae 62 e1.1,AV.ae 41 e1.2]],aB)/\(e1.1.length<=9223372036854775807/\e1.2.length<=
 9223372036854775807/\∀(e0:AV),List.Mem e0 e1.2->aM (aa (aH 52 (ba.hl (bM e0)) (ba.bl (bM e0))))<=100000/\List.length (ba.bl (bM e0))<=100000)/\ax
 (decide (Prod.snd (cr e1.1 e1.2)=(0:Int))) (ax (Prod.snd (cr e2.1 e2.2) != (0:Int)) (K (AV.bool true) []) (K (AV.bool (z5==((↑(List.length (bU (dA e1.1
 e1.2))):Int)==(0:Int)))) [])) (ax (Prod.snd (cr e2.1 e2.2) != (0:Int)) (K (AV.bool true) []) (ax (Prod.snd (cr e1.1 e1.2)==(0:Int)) (K (AV.bool z7)
 []) (K (AV.bool false) []))))))/\aO z3 (aO z4 (aO z2 (∃(e1:ga),([AV.agg [AV.ae 62 ds,AV.ae 41 z1]],aB)=([AV.agg [AV.ae 62 e1.1,AV.ae 41 e1.2]],aB)/\
 (e1.1.length<=9223372036854775807/\e1.2.length<=9223372036854775807/\∀(e0:AV),List.Mem e0 e1.2->aM (aa (aH 52 (ba.hl (bM e0)) (ba.bl (bM e0))))<=
 100000/\List.length (ba.bl (bM e0))<=100000)/\ax (decide (Prod.snd (cr e1.1 e1.2)=(0:Int))) (ax (Prod.snd (cr e2.1 e2.2) != (0:Int)) (K (AV.bool true)
 []) (K (AV.bool (z5==((↑(List.length (bU (dA e1.1 e1.2))):Int)==(0:Int)))) [])) (ax (Prod.snd (cr e2.1 e2.2) != (0:Int)) (K (AV.bool true) []) (ax
 (Prod.snd (cr e1.1 e1.2)==(0:Int)) (K (AV.bool z7) []) (K (AV.bool false) []))))/\aO z2 (∃(e1:ga),([AV.agg [AV.ae 62 ds,AV.ae 41 z1]],aB)=([AV.agg
 [AV.ae 62 e1.1,AV.ae 41 e1.2]],aB)/\(e1.1.length<=9223372036854775807/\e1.2.length<=9223372036854775807/\∀(e0:AV),List.Mem e0 e1.2->aM (aa (aH 52
 (ba.hl (bM e0)) (ba.bl (bM e0))))<=100000/\List.length (ba.bl (bM e0))<=100000)/\ax (decide (Prod.snd (cr e1.1 e1.2)=(0:Int))) (ax (Prod.snd (cr e2.1
 e2.2) != (0:Int)) (K (AV.bool true) []) (K (AV.bool (z5==((↑(List.length (bU (dA e1.1 e1.2))):Int)==(0:Int)))) [])) (ax (Prod.snd (cr e2.1 e2.2) != (0
 :Int)) (K (AV.bool true) []) (ax (Prod.snd (cr e1.1 e1.2)==(0:Int)) (K (AV.bool z7) []) (K (AV.bool false) [])))))/\aO z4 (aO z2 (∃(e1:ga),([AV.agg
 [AV.ae 62 ds,AV.ae 41 z1]],aB)=([AV.agg [AV.ae 62 e1.1,AV.ae 41 e1.2]],aB)/\(e1.1.length<=9223372036854775807/\e1.2.length<=9223372036854775807/\∀
 (e0:AV),List.Mem e0 e1.2->aM (aa (aH 52 (ba.hl (bM e0)) (ba.bl (bM e0))))<=100000/\List.length (ba.bl (bM e0))<=100000)/\ax (decide (Prod.snd (cr e1.1
 e1.2)=(0:Int))) (ax (Prod.snd (cr e2.1 e2.2) != (0:Int)) (K (AV.bool true) []) (K (AV.bool (z5==((↑(List.length (bU (dA e1.1 e1.2))):Int)==(0:
 Int)))) [])) (ax (Prod.snd (cr e2.1 e2.2) != (0:Int)) (K (AV.bool true) []) (ax (Prod.snd (cr e1.1 e1.2)==(0:Int)) (K (AV.bool z7) []) (K (AV.bool false)
 []))))))/\aO z4 (aO z3 (aO z2 (∃(e1:ga),([AV.agg [AV.ae 62 ds,AV.ae 41 z1]],aB)=([AV.agg [AV.ae 62 e1.1,AV.ae 41 e1.2]],aB)/\(e1.1.length<=
 9223372036854775807/\e1.2.length<=9223372036854775807/\∀(e0:AV),List.Mem e0 e1.2->aM (aa (aH 52 (ba.hl (bM e0)) (ba.bl (bM e0))))<=100000/\List.length
 (ba.bl (bM e0))<=100000)/\ax (decide (Prod.snd (cr e1.1 e1.2)=(0:Int))) (ax (Prod.snd (cr e2.1 e2.2) != (0:Int)) (K (AV.bool true) []) (K (AV.bool (z5
 ==((↑(List.length (bU (dA e1.1 e1.2))):Int)==(0:Int)))) [])) (ax (Prod.snd (cr e2.1 e2.2) != (0:Int)) (K (AV.bool true) []) (ax (Prod.snd (cr e1.1
 e1.2)==(0:Int)) (K (AV.bool z7) []) (K (AV.bool false) []))))))/\aO z3 (aO z4 (aO z2 (∃(e1:ga),([AV.agg [AV.ae 62 ds,AV.ae 41 z1]],aB)=([AV.agg
 [AV.ae 62 e1.1,AV.ae 41 e1.2]],aB)/\(e1.1.length<=9223372036854775807/\e1.2.length<=9223372036854775807/\∀(e0:AV),List.Mem e0 e1.2->aM (aa (aH 52
 (ba.hl (bM e0)) (ba.bl (bM e0))))<=100000/\List.length (ba.bl (bM e0))<=100000)/\ax (decide (Prod.snd (cr e1.1 e1.2)=(0:Int))) (ax (Prod.snd (cr e2.1
 e2.2) != (0:Int)) (K (AV.bool true) []) (K (AV.bool (z5==((↑(List.length (bU (dA e1.1 e1.2))):Int)==(0:Int)))) [])) (ax (Prod.snd (cr e2.1 e2.2) != (0
 :Int)) (K (AV.bool true) []) (ax (Prod.snd (cr e1.1 e1.2)==(0:Int)) (K (AV.bool z7) []) (K (AV.bool false) [])))))))/\aO z3 (aO z6 (aO z4 (aO z2 (∃(e1:
 ga),([AV.agg [AV.ae 62 ds,AV.ae 41 z1]],aB)=([AV.agg [AV.ae 62 e1.1,AV.ae 41 e1.2]],aB)/\(e1.1.length<=9223372036854775807/\e1.2.length<=
 9223372036854775807/\∀(e0:AV),List.Mem e0 e1.2->aM (aa (aH 52 (ba.hl (bM e0)) (ba.bl (bM e0))))<=100000/\List.length (ba.bl (bM e0))<=100000)/\ax
 (decide (Prod.snd (cr e1.1 e1.2)=(0:Int))) (ax (Prod.snd (cr e2.1 e2.2) != (0:Int)) (K (AV.bool true) []) (K (AV.bool (z5==((↑(List.length (bU (dA e1.1
 e1.2))):Int)==(0:Int)))) [])) (ax (Prod.snd (cr e2.1 e2.2) != (0:Int)) (K (AV.bool true) []) (ax (Prod.snd (cr e1.1 e1.2)==(0:Int)) (K (AV.bool z7)
 []) (K (AV.bool false) []))))/\aO z2 (∃(e1:ga),([AV.agg [AV.ae 62 ds,AV.ae 41 z1]],aB)=([AV.agg [AV.ae 62 e1.1,AV.ae 41 e1.2]],aB)/\(e1.1.length<=
 9223372036854775807/\e1.2.length<=9223372036854775807/\∀(e0:AV),List.Mem e0 e1.2->aM (aa (aH 52 (ba.hl (bM e0)) (ba.bl (bM e0))))<=100000/\List.length
 (ba.bl (bM e0))<=100000)/\ax (decide (Prod.snd (cr e1.1 e1.2)=(0:Int))) (ax (Prod.snd (cr e2.1 e2.2) != (0:Int)) (K (AV.bool true) []) (K (AV.bool (z5
 ==((↑(List.length (bU (dA e1.1 e1.2))):Int)==(0:Int)))) [])) (ax (Prod.snd (cr e2.1 e2.2) != (0:Int)) (K (AV.bool true) []) (ax (Prod.snd (cr e1.1
 e1.2)==(0:Int)) (K (AV.bool z7) []) (K (AV.bool false) [])))))/\aO z4 (aO z2 (∃(e1:ga),([AV.agg [AV.ae 62 ds,AV.ae 41 z1]],aB)=([AV.agg [AV.ae 62
 e1.1,AV.ae 41 e1.2]],aB)/\(e1.1.length<=9223372036854775807/\e1.2.length<=9223372036854775807/\∀(e0:AV),List.Mem e0 e1.2->aM (aa (aH 52 (ba.hl (bM
 e0)) (ba.bl (bM e0))))<=100000/\List.length (ba.bl (bM e0))<=100000)/\ax (decide (Prod.snd (cr e1.1 e1.2)=(0:Int))) (ax (Prod.snd (cr e2.1 e2.2) != (0:
 Int)) (K (AV.bool true) []) (K (AV.bool (z5==((↑(List.length (bU (dA e1.1 e1.2))):Int)==(0:Int)))) [])) (ax (Prod.snd (cr e2.1 e2.2) != (0:Int)) (K
 (AV.bool true) []) (ax (Prod.snd (cr e1.1 e1.2)==(0:Int)) (K (AV.bool z7) []) (K (AV.bool false) []))))))/\aO z6 (aO z4 (aO z2 (∃(e1:ga),([AV.agg
 [AV.ae 62 ds,AV.ae 41 z1]],aB)=([AV.agg [AV.ae 62 e1.1,AV.ae 41 e1.2]],aB)/\(e1.1.length<=9223372036854775807/\e1.2.length<=9223372036854775807/\∀
 (e0:AV),List.Mem e0 e1.2->aM (aa (aH 52 (ba.hl (bM e0)) (ba.bl (bM e0))))<=100000/\List.length (ba.bl (bM e0))<=100000)/\ax (decide (Prod.snd (cr e1.1
 e1.2)=(0:Int))) (ax (Prod.snd (cr e2.1 e2.2) != (0:Int)) (K (AV.bool true) []) (K (AV.bool (z5==((↑(List.length (bU (dA e1.1 e1.2))):Int)==(0:
 Int)))) [])) (ax (Prod.snd (cr e2.1 e2.2) != (0:Int)) (K (AV.bool true) []) (ax (Prod.snd (cr e1.1 e1.2)==(0:Int)) (K (AV.bool z7) []) (K (AV.bool false)
 [])))))))/\aO z6 (aO z4 (aO z3 (aO z2 (∃(e1:ga),([AV.agg [AV.ae 62 ds,AV.ae 41 z1]],aB)=([AV.agg [AV.ae 62 e1.1,AV.ae 41 e1.2]],aB)/\(e1.1.length<=
 9223372036854775807/\e1.2.length<=9223372036854775807/\∀(e0:AV),List.Mem e0 e1.2->aM (aa (aH 52 (ba.hl (bM e0)) (ba.bl (bM e0))))<=100000/\List.length
 (ba.bl (bM e0))<=100000)/\ax (decide (Prod.snd (cr e1.1 e1.2)=(0:Int))) (ax (Prod.snd (cr e2.1 e2.2) != (0:Int)) (K (AV.bool true) []) (K (AV.bool (z5
 ==((↑(List.length (bU (dA e1.1 e1.2))):Int)==(0:Int)))) [])) (ax (Prod.snd (cr e2.1 e2.2) != (0:Int)) (K (AV.bool true) []) (ax (Prod.snd (cr e1.1
 e1.2)==(0:Int)) (K (AV.bool z7) []) (K (AV.bool false) []))))))/\aO z3 (aO z4 (aO z2 (∃(e1:ga),([AV.agg [AV.ae 62 ds,AV.ae 41 z1]],aB)=([AV.agg
 [AV.ae 62 e1.1,AV.ae 41 e1.2]],aB)/\(e1.1.length<=9223372036854775807/\e1.2.length<=9223372036854775807/\∀(e0:AV),List.Mem e0 e1.2->aM (aa (aH 52
 (ba.hl (bM e0)) (ba.bl (bM e0))))<=100000/\List.length (ba.bl (bM e0))<=100000)/\ax (decide (Prod.snd (cr e1.1 e1.2)=(0:Int))) (ax (Prod.snd (cr e2.1
 e2.2) != (0:Int)) (K (AV.bool true) []) (K (AV.bool (z5==((↑(List.length (bU (dA e1.1 e1.2))):Int)==(0:Int)))) [])) (ax (Prod.snd (cr e2.1 e2.2) != (0
 :Int)) (K (AV.bool true) []) (ax (Prod.snd (cr e1.1 e1.2)==(0:Int)) (K (AV.bool z7) []) (K (AV.bool false) [])))))))/\aO z3 (aO z6 (aO z4 (aO z2 (∃(e1:
 ga),([AV.agg [AV.ae 62 ds,AV.ae 41 z1]],aB)=([AV.agg [AV.ae 62 e1.1,AV.ae 41 e1.2]],aB)/\(e1.1.length<=9223372036854775807/\e1.2.length<=
 9223372036854775807/\∀(e0:AV),List.Mem e0 e1.2->aM (aa (aH 52 (ba.hl (bM e0)) (ba.bl (bM e0))))<=100000/\List.length (ba.bl (bM e0))<=100000)/\ax
 (decide (Prod.snd (cr e1.1 e1.2)=(0:Int))) (ax (Prod.snd (cr e2.1 e2.2) != (0:Int)) (K (AV.bool true) []) (K (AV.bool (z5==((↑(List.length (bU (dA e1.1
 e1.2))):Int)==(0:Int)))) [])) (ax (Prod.snd (cr e2.1 e2.2) != (0:Int)) (K (AV.bool true) []) (ax (Prod.snd (cr e1.1 e1.2)==(0:Int)) (K (AV.bool z7)
 []) (K (AV.bool false) [])))))))))))))):=by kernel_rfl
theorem Qf(κ:Kp)(ds rs:List AV)(i:Int)(h1:ds.length<=aP)(h2: ∀d,d∈ds->(ah (ad d 1)).length<=aP):dj (Pr κ) 6 [gz ds rs, .int i] [] (fun r _=>r= .bool true):=by
 refine gL (R7 κ) (Sj κ) (N:=12) ?_
 refine Eq.mpr (XN κ ds rs i _) (vo h1 h2 rfl fun hs=>?_)
 have hp:=nf hs
 have hl:=A4 hs
 rw[af]
 refine⟨fun _=>rfl,fun hi=>?_⟩
 rw[af]
 refine⟨fun _=>rfl,fun hi2=>⟨(ds,rs),rfl,hp,?_⟩⟩
 have hi:=of_decide_eq_false hi
 have hi2:=of_decide_eq_false hi2
 rw[a5 (n:=i+1) (by omega) (by omega)]
 have hA:(rs.take i.toNat).length<=300:=by rw[List.length_take];omega
 have hB:(rs.drop (i+1).toNat).length<=300:=by rw[List.length_drop];omega
 have hsub: ∀r,r∈rs.take i.toNat++rs.drop (i+1).toNat->r∈rs:=fun r hr=>by
  rcases List.mem_append.1 hr with hr|hr
  ·exact List.mem_of_mem_take hr
  ·exact List.mem_of_mem_drop hr
 have hlen:(rs.take i.toNat++rs.drop (i+1).toNat).length<=rs.length:=by rw[ab8,List.length_take,List.length_drop];omega
 simp only[Int.toNat_natCast,ab0,List.take_length,Nat.zero_add,List.nil_append]
 generalize rs.take i.toNat=A at*
 generalize rs.drop (i+1).toNat=B at*
 simp only[←ab8,List.take_length]
 have hq:(A++B).length<=600:=by rw[ab8];omega
 generalize A++B=q at*
 have hp':=xa hsub hlen hp
 rw[af]
 refine⟨fun e=>?_,fun e=>?_⟩
 ·have hg:=BN hsub hlen hp (of_decide_eq_true e)
  have leaf:AV.lit (Value.bool (((ds.length:Int)==0)==(((bU (dA ds q)).length:Int)==0)))=AV.bool true:=by
   have hn:=LW (fA (oM.1 hg).1)
   rw[iK]
   by_cases h0:ds.length=0
   ·rw[hn.2 h0,h0];rfl
   ·have h3:((ds.length:Int)==0)=false:=by rw[beq_eq_false_iff_ne];omega
    have h4:(((dA ds q).length:Int)==0)=false:=by rw[beq_eq_false_iff_ne];have:=mt hn.1 h0;omega
    rw[h3,h4];rfl
  have br: ∀{p:Prop},ax (decide ((cr ds q).2=0)) (AV.lit (Value.bool (((ds.length:Int)==0)==(((bU (dA ds q)).length:Int)==0)))=AV.bool true) p:=(af).2 ⟨fun _=>leaf,fun h=>absurd hg (of_decide_eq_false h)⟩
  clear hp hsub hs h2
  repeat' first
   |exact⟨(ds,q),rfl,hp',br⟩
   |refine au.2 ⟨?_,?_⟩
   |(simp only[ab9,Bool.and_true,aa1,aa0];omega)
   |refine And.intro ?_ ?_
 ·have hb:((cr ds rs).2 != 0)=true:=by simpa using e
  have br: ∀{p:Prop},ax ((cr ds rs).2 != 0) True p:=(af).2 ⟨fun _=>trivial,fun h=>by rw[h] at hb;cases hb⟩
  clear hp hsub hs h2
  repeat' first
   |exact⟨(ds,q),rfl,hp',(af).2 ⟨fun _=>br,fun _=>br⟩⟩
   |refine au.2 ⟨?_,?_⟩
   |(simp only[ab9,Bool.and_true,aa1,aa0];omega)
   |refine And.intro ?_ ?_
end Go.Proofs.YtdpmikfheebicaaGreatDoor
