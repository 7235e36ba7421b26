import Derived.Test.YtdpmikfheebicaaGreatDoorDqM4
import Derived.Test.YtdpmikfheebicaaGreatDoorDqM1
namespace Go.Proofs.YtdpmikfheebicaaGreatDoor
open Go Go.Dn Go.Rl Go.Proofs
attribute [local irreducible] bh vc
set_option maxRecDepth 20000
noncomputable abbrev Y2 (a : bQ) (ws : List AV) (κ : Kp) (st : LoopState) (p : Option Code) : Dn.Obj :=
 .loop (gL (Pr κ).toProgram 73 5 st p (gy (bG 63) [(0, an a), (1, .ptr 0 0 [] 0), (2, .ptr 1 0 [] 0), (3, .ptr 2 0 [] 0), (4, .aB 3 0 ws.length), (5, .int 0), (10, .bj [.aB 3 0 ws.length, .int 0]), (11, an a), (12, .bj [.aB 3 0 ws.length, .int 0]), (13, .aB 3 0 ws.length), (14, .int 0), (15, .int 0), (16, .bool false), (18, an a), (19, .bL 125 [.ptr 4 0 [] 0])]))
noncomputable abbrev BT (κ : Kp) (a : bQ) (ws : List AV) (b : Bool) (st : LoopState) (p : Option Code) : List Dn.Obj := [.box 41 (an a), .box 4 (.bool b), .box 28 (.int 0), .row 3 ws, .box 41 (an a), Y2 a ws κ st p]
theorem x8 (κ : Kp) (a : bQ) (ws : List AV) (es : List (Value × AV)) (done : List AV) (i : Int) (I : Nat → S → Prop) (n : Nat) (K : Exit → S → Prop) : (vc (J8 κ) 12 125 none 6 (ag (Pr κ).toProgram 125 3) (sp 38 [(0, .ct 5), (1, .ptr 4 0 [] 0), (3, .mp 6), (4, .aB 7 0 done.length), (13, .int a.bl.length), (14, .int i)] (BT κ a ws false .ready none ++ [.map 9 4 es, .row 4 done])) (bK (J8 κ) 125 3 6 I n K)) = (
 letI z1 := gy (bG 63) [(0, an a), (1, AV.ptr 0 0 [] 0), (2, AV.ptr 1 0 [] 0), (3, AV.ptr 2 0 [] 0), (4, AV.aB 3 0 ws.length), (5, AV.int 0), (10, AV.bj [AV.aB 3
  0 ws.length, AV.int 0]), (11, an a), (12, AV.bj [AV.aB 3 0 ws.length, AV.int 0]), (13, AV.aB 3 0 ws.length), (14, AV.int 0), (15, AV.int 0), (16, AV.bool
  false), (18, an a), (19, AV.bL 125 [AV.ptr 4 0 [] 0])]
 letI z3 := gL Tryz.prog 73 5 LoopState.ready none z1
 letI z4 := IntKind.wrap IntKind.i64 (i + (1 : Int))
 letI z6 := (0 : Int)
 letI z7 := AV.bool false
 letI z8 := AV.bool true
 letI z9 := AV.int 0
 letI z10 := Value × AV
 letI z11 := an a
 letI z2 := K Exit.ret (sp 38 [] [Obj.box 41 z11, Obj.box 4 z8, Obj.box 28 z9, Obj.row 3 ws, Obj.box 41 z11, Dn.Obj.loop (gL Tryz.prog 73 5 LoopState.done (some
  Code.ret) z1)])
 letI z5 := sp 38 [] [Obj.box 41 z11, Obj.box 4 z7, Obj.box 28 z9, Obj.row 3 ws, Obj.box 41 z11, Dn.Obj.loop z3]
 letI z12 := (7 : Int)
 aD (decide (i < (↑(a.bl.length) : Int))) (∃ (a_1 : Fq), ([an a, AV.aB 0 0 done.length, AV.mp 1], [Obj.row 4 done, Dn.Obj.map 9 4 es]) = ([an a_1.a, AV.aB 0 0
 (List.length (bJ a_1.done)), AV.mp 1], [Obj.row 4 (bJ a_1.done), Dn.Obj.map 9 4 (bH a_1.b)]) ∧ (aM (aI a_1.a) = true ∧ (aX (aa (aV 52 a_1.a.hl a_1.a.bl)) ≤
 100000 ∧ List.length a_1.a.bl ≤ 100000) ∧ a_1.done.length = List.length a_1.a.bl) ∧ aD (decide (aC (aI a_1.a) a_1.done a_1.b < z6)) (K Exit.ret z5) (bg (decide
 (z6 ≤ aC (aI a_1.a) a_1.done a_1.b) && decide (aC (aI a_1.a) a_1.done a_1.b < (↑(a.bl.length) : Int))) (aD (toInt (ad (nth a.bl (Int.toNat (aC (aI a_1.a)
 a_1.done a_1.b))) 0) == (3 : Int)) (∃ (a_2 : TA), ([AV.mp 0, AV.agg [AV.int (toInt (ad (ad (nth a.bl (Int.toNat (aC (aI a_1.a) a_1.done a_1.b))) 2) 0)), AV.str
 (toStr (ad (ad (nth a.bl (Int.toNat (aC (aI a_1.a) a_1.done a_1.b))) 2) 1)), AV.int (toInt (ad (ad (nth a.bl (Int.toNat (aC (aI a_1.a) a_1.done a_1.b))) 2) 2)),
 AV.ae 52 (ai (ad (ad (nth a.bl (Int.toNat (aC (aI a_1.a) a_1.done a_1.b))) 2) 3))], AV.agg [AV.int (toInt (ad (ad (nth a.bl (Int.toNat (aC (aI a_1.a) a_1.done
 a_1.b))) 3) 0)), AV.str (toStr (ad (ad (nth a.bl (Int.toNat (aC (aI a_1.a) a_1.done a_1.b))) 3) 1)), AV.int (toInt (ad (ad (nth a.bl (Int.toNat (aC (aI a_1.a)
 a_1.done a_1.b))) 3) 2)), AV.ae 52 (ai (ad (ad (nth a.bl (Int.toNat (aC (aI a_1.a) a_1.done a_1.b))) 3) 3))]], [Dn.Obj.map 9 4 (bH a_1.b)]) = ([AV.mp 0, AV.agg
 [AV.int a_2.o1, AV.str a_2.s1, AV.int a_2.n1, AV.ae 52 a_2.l1], AV.agg [AV.int a_2.o2, AV.str a_2.s2, AV.int a_2.n2, AV.ae 52 a_2.l2]], [Dn.Obj.map 9 4 a_2.es])
 ∧ gI a_2 ∧ aD (j8 a_2.es (TA.x a_2) (TA.y a_2)) (aD (decide (toInt (ad (ad (nth a.bl (Int.toNat (aC (aI a_1.a) a_1.done a_1.b))) 3) 0) ≥ (5 : Int))) z2 (∃ (a_3
 : TA), ([AV.mp 0, AV.agg [AV.int (toInt (ad (ad (nth a.bl (Int.toNat (aC (aI a_1.a) a_1.done a_1.b))) 3) 0)), AV.str (toStr (ad (ad (nth a.bl (Int.toNat (aC (aI
 a_1.a) a_1.done a_1.b))) 3) 1)), AV.int (toInt (ad (ad (nth a.bl (Int.toNat (aC (aI a_1.a) a_1.done a_1.b))) 3) 2)), AV.ae 52 (ai (ad (ad (nth a.bl (Int.toNat
 (aC (aI a_1.a) a_1.done a_1.b))) 3) 3))], AV.agg [AV.int (toInt (ad (ad (nth a.bl (Int.toNat (aC (aI a_1.a) a_1.done a_1.b))) 2) 0)), AV.str (toStr (ad (ad (nth
 a.bl (Int.toNat (aC (aI a_1.a) a_1.done a_1.b))) 2) 1)), AV.int (toInt (ad (ad (nth a.bl (Int.toNat (aC (aI a_1.a) a_1.done a_1.b))) 2) 2)), AV.ae 52 (ai (ad
 (ad (nth a.bl (Int.toNat (aC (aI a_1.a) a_1.done a_1.b))) 2) 3))]], [Dn.Obj.map 9 4 a_2.es]) = ([AV.mp 0, AV.agg [AV.int a_3.o1, AV.str a_3.s1, AV.int a_3.n1,
 AV.ae 52 a_3.l1], AV.agg [AV.int a_3.o2, AV.str a_3.s2, AV.int a_3.n2, AV.ae 52 a_3.l2]], [Dn.Obj.map 9 4 a_3.es]) ∧ gI a_3 ∧ aD (j8 a_3.es (TA.x a_3) (TA.y
 a_3)) (aD (decide (toInt (ad (ad (nth a.bl (Int.toNat (aC (aI a_1.a) a_1.done a_1.b))) 2) 0) ≥ (5 : Int))) z2 (aD (decide (z12 ≤ toInt (ad (nth a.bl (Int.toNat
 (aC (aI a_1.a) a_1.done a_1.b))) 0))) z2 (bg (decide (z6 ≤ aC (aI a_1.a) a_1.done a_1.b) && decide (aC (aI a_1.a) a_1.done a_1.b < (↑(done.length) : Int))) (∃
 (a_4 : bQ × Int), ([an a, AV.int (aC (aI a_1.a) a_1.done a_1.b)], aF) = ([an a_4.1, AV.int a_4.2], aF) ∧ (aM (aI a_4.1) = true ∧ (aX (aa (aV 52 a_4.1.hl
 a_4.1.bl)) ≤ 100000 ∧ a_4.1.bl.length ≤ 100000) ∧ z6 ≤ a_4.2 ∧ a_4.2 < (↑(a_4.1.bl.length) : Int)) ∧ ∃ (a_5 : List AV × List z10), ([AV.mp 0, AV.ae 9 (strs (cD
 (aI a_4.1) a_4.2.toNat))], [Dn.Obj.map 9 4 a_3.es]) = ([AV.mp 0, AV.ae 9 a_5.1], [Dn.Obj.map 9 4 a_5.2]) ∧ a7 a_5 ∧ ∃ (m : Nat), m < n ∧ I m (sp 38 [(0, AV.ct
 5), (1, AV.ptr 4 0 [] 0), (3, AV.mp 6), (4, AV.aB 7 0 done.length), (13, AV.int (↑(a.bl.length) : Int)), (14, AV.int z4)] [Obj.box 41 z11, Obj.box 4 z7, Obj.box
 28 z9, Obj.row 3 ws, Obj.box 41 z11, Dn.Obj.loop z3, Dn.Obj.map 9 4 (eP a_5.2 a_5.1), Obj.row 4 (cf (bJ a_1.done) (0 + Int.toNat (aC (aI a_1.a) a_1.done a_1.b))
 z8)]))))) (aD (decide (z12 ≤ toInt (ad (nth a.bl (Int.toNat (aC (aI a_1.a) a_1.done a_1.b))) 0))) z2 (bg (decide (z6 ≤ aC (aI a_1.a) a_1.done a_1.b) && decide
 (aC (aI a_1.a) a_1.done a_1.b < (↑(done.length) : Int))) (∃ (a_4 : bQ × Int), ([an a, AV.int (aC (aI a_1.a) a_1.done a_1.b)], aF) = ([an a_4.1, AV.int a_4.2],
 aF) ∧ (aM (aI a_4.1) = true ∧ (aX (aa (aV 52 a_4.1.hl a_4.1.bl)) ≤ 100000 ∧ a_4.1.bl.length ≤ 100000) ∧ z6 ≤ a_4.2 ∧ a_4.2 < (↑(a_4.1.bl.length) : Int)) ∧ ∃
 (a_5 : List AV × List z10), ([AV.mp 0, AV.ae 9 (strs (cD (aI a_4.1) a_4.2.toNat))], [Dn.Obj.map 9 4 a_3.es]) = ([AV.mp 0, AV.ae 9 a_5.1], [Dn.Obj.map 9 4
 a_5.2]) ∧ a7 a_5 ∧ ∃ (m : Nat), m < n ∧ I m (sp 38 [(0, AV.ct 5), (1, AV.ptr 4 0 [] 0), (3, AV.mp 6), (4, AV.aB 7 0 done.length), (13, AV.int (↑(a.bl.length) :
 Int)), (14, AV.int z4)] [Obj.box 41 z11, Obj.box 4 z7, Obj.box 28 z9, Obj.row 3 ws, Obj.box 41 z11, Dn.Obj.loop z3, Dn.Obj.map 9 4 (eP a_5.2 a_5.1), Obj.row 4
 (cf (bJ a_1.done) (0 + Int.toNat (aC (aI a_1.a) a_1.done a_1.b)) z8)])))))) (∃ (a_3 : TA), ([AV.mp 0, AV.agg [AV.int (toInt (ad (ad (nth a.bl (Int.toNat (aC (aI
 a_1.a) a_1.done a_1.b))) 3) 0)), AV.str (toStr (ad (ad (nth a.bl (Int.toNat (aC (aI a_1.a) a_1.done a_1.b))) 3) 1)), AV.int (toInt (ad (ad (nth a.bl (Int.toNat
 (aC (aI a_1.a) a_1.done a_1.b))) 3) 2)), AV.ae 52 (ai (ad (ad (nth a.bl (Int.toNat (aC (aI a_1.a) a_1.done a_1.b))) 3) 3))], AV.agg [AV.int (toInt (ad (ad (nth
 a.bl (Int.toNat (aC (aI a_1.a) a_1.done a_1.b))) 2) 0)), AV.str (toStr (ad (ad (nth a.bl (Int.toNat (aC (aI a_1.a) a_1.done a_1.b))) 2) 1)), AV.int (toInt (ad
 (ad (nth a.bl (Int.toNat (aC (aI a_1.a) a_1.done a_1.b))) 2) 2)), AV.ae 52 (ai (ad (ad (nth a.bl (Int.toNat (aC (aI a_1.a) a_1.done a_1.b))) 2) 3))]],
 [Dn.Obj.map 9 4 a_2.es]) = ([AV.mp 0, AV.agg [AV.int a_3.o1, AV.str a_3.s1, AV.int a_3.n1, AV.ae 52 a_3.l1], AV.agg [AV.int a_3.o2, AV.str a_3.s2, AV.int
 a_3.n2, AV.ae 52 a_3.l2]], [Dn.Obj.map 9 4 a_3.es]) ∧ gI a_3 ∧ aD (j8 a_3.es (TA.x a_3) (TA.y a_3)) (aD (decide (toInt (ad (ad (nth a.bl (Int.toNat (aC (aI
 a_1.a) a_1.done a_1.b))) 2) 0) ≥ (5 : Int))) z2 (aD (decide (z12 ≤ toInt (ad (nth a.bl (Int.toNat (aC (aI a_1.a) a_1.done a_1.b))) 0))) z2 (bg (decide (z6 ≤ aC
 (aI a_1.a) a_1.done a_1.b) && decide (aC (aI a_1.a) a_1.done a_1.b < (↑(done.length) : Int))) (∃ (a_4 : bQ × Int), ([an a, AV.int (aC (aI a_1.a) a_1.done
 a_1.b)], aF) = ([an a_4.1, AV.int a_4.2], aF) ∧ (aM (aI a_4.1) = true ∧ (aX (aa (aV 52 a_4.1.hl a_4.1.bl)) ≤ 100000 ∧ a_4.1.bl.length ≤ 100000) ∧ z6 ≤ a_4.2 ∧
 a_4.2 < (↑(a_4.1.bl.length) : Int)) ∧ ∃ (a_5 : List AV × List z10), ([AV.mp 0, AV.ae 9 (strs (cD (aI a_4.1) a_4.2.toNat))], [Dn.Obj.map 9 4 a_3.es]) = ([AV.mp
 0, AV.ae 9 a_5.1], [Dn.Obj.map 9 4 a_5.2]) ∧ a7 a_5 ∧ ∃ (m : Nat), m < n ∧ I m (sp 38 [(0, AV.ct 5), (1, AV.ptr 4 0 [] 0), (3, AV.mp 6), (4, AV.aB 7 0
 done.length), (13, AV.int (↑(a.bl.length) : Int)), (14, AV.int z4)] [Obj.box 41 z11, Obj.box 4 z7, Obj.box 28 z9, Obj.row 3 ws, Obj.box 41 z11, Dn.Obj.loop z3,
 Dn.Obj.map 9 4 (eP a_5.2 a_5.1), Obj.row 4 (cf (bJ a_1.done) (0 + Int.toNat (aC (aI a_1.a) a_1.done a_1.b)) z8)]))))) (aD (decide (z12 ≤ toInt (ad (nth a.bl
 (Int.toNat (aC (aI a_1.a) a_1.done a_1.b))) 0))) z2 (bg (decide (z6 ≤ aC (aI a_1.a) a_1.done a_1.b) && decide (aC (aI a_1.a) a_1.done a_1.b < (↑(done.length) :
 Int))) (∃ (a_4 : bQ × Int), ([an a, AV.int (aC (aI a_1.a) a_1.done a_1.b)], aF) = ([an a_4.1, AV.int a_4.2], aF) ∧ (aM (aI a_4.1) = true ∧ (aX (aa (aV 52
 a_4.1.hl a_4.1.bl)) ≤ 100000 ∧ a_4.1.bl.length ≤ 100000) ∧ z6 ≤ a_4.2 ∧ a_4.2 < (↑(a_4.1.bl.length) : Int)) ∧ ∃ (a_5 : List AV × List z10), ([AV.mp 0, AV.ae 9
 (strs (cD (aI a_4.1) a_4.2.toNat))], [Dn.Obj.map 9 4 a_3.es]) = ([AV.mp 0, AV.ae 9 a_5.1], [Dn.Obj.map 9 4 a_5.2]) ∧ a7 a_5 ∧ ∃ (m : Nat), m < n ∧ I m (sp 38
 [(0, AV.ct 5), (1, AV.ptr 4 0 [] 0), (3, AV.mp 6), (4, AV.aB 7 0 done.length), (13, AV.int (↑(a.bl.length) : Int)), (14, AV.int z4)] [Obj.box 41 z11, Obj.box 4
 z7, Obj.box 28 z9, Obj.row 3 ws, Obj.box 41 z11, Dn.Obj.loop z3, Dn.Obj.map 9 4 (eP a_5.2 a_5.1), Obj.row 4 (cf (bJ a_1.done) (0 + Int.toNat (aC (aI a_1.a)
 a_1.done a_1.b)) z8)])))))) (aD (decide (z12 ≤ toInt (ad (nth a.bl (Int.toNat (aC (aI a_1.a) a_1.done a_1.b))) 0))) z2 (bg (decide (z6 ≤ aC (aI a_1.a) a_1.done
 a_1.b) && decide (aC (aI a_1.a) a_1.done a_1.b < (↑(done.length) : Int))) (∃ (a_2 : bQ × Int), ([an a, AV.int (aC (aI a_1.a) a_1.done a_1.b)], aF) = ([an a_2.1,
 AV.int a_2.2], aF) ∧ (aM (aI a_2.1) = true ∧ (aX (aa (aV 52 a_2.1.hl a_2.1.bl)) ≤ 100000 ∧ a_2.1.bl.length ≤ 100000) ∧ z6 ≤ a_2.2 ∧ a_2.2 < (↑(a_2.1.bl.length)
 : Int)) ∧ ∃ (a_3 : List AV × List z10), ([AV.mp 0, AV.ae 9 (strs (cD (aI a_2.1) a_2.2.toNat))], [Dn.Obj.map 9 4 (bH a_1.b)]) = ([AV.mp 0, AV.ae 9 a_3.1],
 [Dn.Obj.map 9 4 a_3.2]) ∧ a7 a_3 ∧ ∃ (m : Nat), m < n ∧ I m (sp 38 [(0, AV.ct 5), (1, AV.ptr 4 0 [] 0), (3, AV.mp 6), (4, AV.aB 7 0 done.length), (13, AV.int
 (↑(a.bl.length) : Int)), (14, AV.int z4)] [Obj.box 41 z11, Obj.box 4 z7, Obj.box 28 z9, Obj.row 3 ws, Obj.box 41 z11, Dn.Obj.loop z3, Dn.Obj.map 9 4 (eP a_3.2
 a_3.1), Obj.row 4 (cf (bJ a_1.done) (0 + Int.toNat (aC (aI a_1.a) a_1.done a_1.b)) z8)]))))))) (K (Exit.exit 0) z5)) := by kernel_rfl
structure A8 where
 a : bQ
 ws : List AV
 done : List Bool
 b : List ByteArray
 i : Int
noncomputable abbrev JO (κ : Kp) (a : A8) : S := sp 38 [(0, .ct 5), (1, .ptr 4 0 [] 0), (3, .mp 6), (4, .aB 7 0 (bJ a.done).length), (13, .int a.a.bl.length), (14, .int a.i)] (BT κ a.a a.ws false .ready none ++ [.map 9 4 (bH a.b), .row 4 (bJ a.done)])
def AA (a : A8) : Prop := aM (aI a.a) = true ∧ dh a.a ∧ 0 ≤ a.i ∧ a.i ≤ a.a.bl.length ∧ a.done.length = a.a.bl.length
noncomputable def Eh (a : A8) : Bool := G8 (aI a.a) (a.a.bl.length - a.i.toNat) a.done a.b
noncomputable def z9 (κ : Kp) (a : A8) : Out (Exit × S) := .aD (Eh a) (.one (.ret, sp 38 [] (BT κ a.a a.ws true .done (some .ret)))) (.all (fun _ : Bool => True) fun e => .aD e (.one (.ret, sp 38 [] (BT κ a.a a.ws false .ready none))) (.one (.exit 0, sp 38 [] (BT κ a.a a.ws false .ready none))))
theorem D2 (r : Rl) (n : Nat) (done : List Bool) (b : List ByteArray) : G8 r (n + 1) done b =
  bif decide (aC r done b < 0) then false else DW r b (aC r done b).toNat || G8 r n (done.set (aC r done b).toNat true) (b ++ cD r (aC r done b).toNat) := rfl
theorem l8 (κ : Kp) : bq (J8 κ) 12 125 3 (aO 6 (JO κ) AA (z9 κ)) := by
 refine aR (fun a => a.a.bl.length - a.i.toNat) ?_
 rintro ⟨a, ws, done, b, i⟩ K ⟨h1, h2, h3, h4, h5⟩ ho
 simp only at h1 h2 h3 h4 h5
 rw [show (J8 κ).P = Pr κ from rfl]
 refine Eq.mpr (x8 κ a ws (bH b) (bJ done) i _ _ K) ?_
 simp only [z9, Out.run, af, Eh] at ho
 simp only [and_self]
 have hbl := gT done
 have hl := h2.2
 rw [af, aa0, aa2]
 refine ⟨fun hi => ⟨⟨a, done, b, 0, 0⟩, rfl, ⟨h1, h2, h5⟩, ?_⟩, fun hi => ?_⟩
 ·have hw := D2 (aI a) (a.bl.length - (i.toNat + 1)) done b
  rw [show a.bl.length - (i.toNat + 1) + 1 = a.bl.length - i.toNat by omega] at hw
  rw [af, aa0, aa2]
  refine ⟨fun e => ?_, fun e => ?_⟩
  ·rw [hw, aa6 e] at ho
   exact (ho.2 rfl true trivial).1 rfl
  ·rw [hw, aa4 e, aa5] at ho
   rcases ot (aI a) done b with e0 | ⟨e1, e2, e3, _⟩
   ·rw [e0] at e; omega
   have e2' := e2
   rw [gw] at e2'
   have hg := uM h2 e2'
   have hlit := jx h2 e2'
   have e2i : aC (aI a) done b < a.bl.length := by omega
   have hsd : a7 (strs (cD (aI a) (aC (aI a) done b).toNat), bH b) := by simp only [a7, a9, aL]; omega
   have hbnd : (decide (0 ≤ aC (aI a) done b) && decide (aC (aI a) done b < (a.bl.length : Int))) = true := by simp [e1, e2i]
   have hbnd2 : (decide (0 ≤ aC (aI a) done b) && decide (aC (aI a) done b < ((bJ done).length : Int))) = true := by rw [hbl, h5]; exact hbnd
   have hlc : ik (cj (nth a.bl (aC (aI a) done b).toNat)) = aX [cz (ad (nth a.bl (aC (aI a) done b).toNat) 2), cz (ad (nth a.bl (aC (aI a) done b).toNat) 3)] + aX (aa (ai (ad (ad (nth a.bl (aC (aI a) done b).toNat) 1) 1))) := rfl
   have hcx : aX [cz (ad (nth a.bl (aC (aI a) done b).toNat) 2)] ≤ 100000 ∧ aX [cz (ad (nth a.bl (aC (aI a) done b).toNat) 3)] ≤ 100000 := by
    simp only [aX] at hlc ⊢; omega
   have hx1 : gI (j9 (ad (nth a.bl (aC (aI a) done b).toNat) 2) (ad (nth a.bl (aC (aI a) done b).toNat) 3) (bH b)) := by unfold gI j9; rw [mf]; exact hcx.2
   have hx2 : gI (j9 (ad (nth a.bl (aC (aI a) done b).toNat) 3) (ad (nth a.bl (aC (aI a) done b).toNat) 2) (bH b)) := by unfold gI j9; rw [mf]; exact hcx.1
   have ta1 : j8 (j9 (ad (nth a.bl (aC (aI a) done b).toNat) 2) (ad (nth a.bl (aC (aI a) done b).toNat) 3) (bH b)).es (j9 (ad (nth a.bl (aC (aI a) done b).toNat) 2) (ad (nth a.bl (aC (aI a) done b).toNat) 3) (bH b)).x (j9 (ad (nth a.bl (aC (aI a) done b).toNat) 2) (ad (nth a.bl (aC (aI a) done b).toNat) 3) (bH b)).y = j7 b (cz (ad (nth a.bl (aC (aI a) done b).toNat) 2)) (cz (ad (nth a.bl (aC (aI a) done b).toNat) 3)) := by
    unfold j9; rw [wu, mf, mS]
   have ta2 : j8 (j9 (ad (nth a.bl (aC (aI a) done b).toNat) 3) (ad (nth a.bl (aC (aI a) done b).toNat) 2) (bH b)).es (j9 (ad (nth a.bl (aC (aI a) done b).toNat) 3) (ad (nth a.bl (aC (aI a) done b).toNat) 2) (bH b)).x (j9 (ad (nth a.bl (aC (aI a) done b).toNat) 3) (ad (nth a.bl (aC (aI a) done b).toNat) 2) (bH b)).y = j7 b (cz (ad (nth a.bl (aC (aI a) done b).toNat) 3)) (cz (ad (nth a.bl (aC (aI a) done b).toNat) 2)) := by
    unfold j9; rw [wu, mf, mS]
   have hinv : DW (aI a) b (aC (aI a) done b).toNat = ((decide (toInt (ad (nth a.bl (aC (aI a) done b).toNat) 0) = 3) && (j7 b (cz (ad (nth a.bl (aC (aI a) done b).toNat) 2)) (cz (ad (nth a.bl (aC (aI a) done b).toNat) 3)) && decide (toInt (ad (ad (nth a.bl (aC (aI a) done b).toNat) 3) 0) ≥ 5) || j7 b (cz (ad (nth a.bl (aC (aI a) done b).toNat) 3)) (cz (ad (nth a.bl (aC (aI a) done b).toNat) 2)) && decide (toInt (ad (ad (nth a.bl (aC (aI a) done b).toNat) 2) 0) ≥ 5))) || decide (7 ≤ toInt (ad (nth a.bl (aC (aI a) done b).toNat) 0))) := by
    have o1 : (cz (ad (nth a.bl (aC (aI a) done b).toNat) 2)).op = toInt (ad (ad (nth a.bl (aC (aI a) done b).toNat) 2) 0) := by rw [cy]; rfl
    have o2 : (cz (ad (nth a.bl (aC (aI a) done b).toNat) 3)).op = toInt (ad (ad (nth a.bl (aC (aI a) done b).toNat) 3) 0) := by rw [cy]; rfl
    unfold DW
    rw [show (aI a).body = cu a.bl from rfl, jm _ e2', show (cj (nth a.bl (aC (aI a) done b).toNat)).op = toInt (ad (nth a.bl (aC (aI a) done b).toNat) 0) from rfl, show (cj (nth a.bl (aC (aI a) done b).toNat)).x = cz (ad (nth a.bl (aC (aI a) done b).toNat) 2) from rfl, show (cj (nth a.bl (aC (aI a) done b).toNat)).y = cz (ad (nth a.bl (aC (aI a) done b).toNat) 3) from rfl, o1, o2]
   have h3t : (toInt (ad (nth a.bl (aC (aI a) done b).toNat) 0) == 3) = true → decide (toInt (ad (nth a.bl (aC (aI a) done b).toNat) 0) = 3) = true := fun e => by simpa using e
   have h3f : (toInt (ad (nth a.bl (aC (aI a) done b).toNat) 0) == 3) = false → decide (toInt (ad (nth a.bl (aC (aI a) done b).toNat) 0) = 3) = false := fun e => by simpa using e
   have ho1 : DW (aI a) b (aC (aI a) done b).toNat = true → K .ret (sp 38 [] (BT κ a ws true .done (some .ret))) := fun e => ho.1 (by rw [e]; rfl)
   have nx : DW (aI a) b (aC (aI a) done b).toNat = false → ∃ m, m < a.bl.length - i.toNat ∧ fF (JO κ) AA (z9 κ) (fun a => a.a.bl.length - a.i.toNat) K m (sp 38 [(0, .ct 5), (1, .ptr 4 0 [] 0), (3, .mp 6), (4, .aB 7 0 (bJ done).length), (13, .int a.bl.length), (14, .int (IntKind.wrap .i64 (i + 1)))] (BT κ a ws false .ready none ++ [.map 9 4 (eP (bH b) (strs (cD (aI a) (aC (aI a) done b).toNat))), .row 4 (cf (bJ done) (0 + (aC (aI a) done b).toNat) (.lit (.bool true)))])) := by
    intro e
    rw [e, Bool.false_or] at ho
    rw [a8 (n := i + 1) (by omega) (by omega)]
    refine ⟨_, ?_, ⟨a, ws, done.set (aC (aI a) done b).toNat true, b ++ cD (aI a) (aC (aI a) done b).toNat, i + 1⟩, ?_, ⟨h1, h2, by simp only; omega, by simp only; omega, by simpa using h5⟩, rfl, ?_⟩
    ·simp only; omega
    ·simp only [JO, Nat.zero_add, nW, mG, gT, List.length_set]
    ·simp only [z9, Out.run, af, Eh, show (i + 1).toNat = i.toNat + 1 by omega]
     exact ho
   rw [ax]
   refine ⟨hbnd, ?_⟩
   rw [af]
   exact ⟨fun f3 => ⟨j9 (ad (nth a.bl (aC (aI a) done b).toNat) 2) (ad (nth a.bl (aC (aI a) done b).toNat) 3) (bH b), rfl, hx1, by
   rw [ta1]
   exact af.2 ⟨fun g1 => af.2 ⟨fun g4 => ho1 (by rw [hinv, h3t f3, g1, g4]; simp), fun g4 => ⟨j9 (ad (nth a.bl (aC (aI a) done b).toNat) 3) (ad (nth a.bl (aC (aI a) done b).toNat) 2) (bH b), rfl, hx2, by
   rw [ta2]
   exact af.2 ⟨fun g2 => af.2 ⟨fun g3 => ho1 (by rw [hinv, h3t f3, g1, g4, g2, g3]; simp), fun g3 => af.2 ⟨fun f7 => ho1 (by rw [hinv, h3t f3, g1, g4, g2, g3, f7]; simp), fun f7 => ax.2 ⟨hbnd2, (a, (aC (aI a) done b)), rfl, ⟨h1, h2, e1, e2i⟩, (strs (cD (aI a) (aC (aI a) done b).toNat), bH b), rfl, hsd, nx (by rw [hinv, h3t f3, g1, g4, g2, g3, f7]; simp)⟩⟩⟩, fun g2 => af.2 ⟨fun f7 => ho1 (by rw [hinv, h3t f3, g1, g4, g2, f7]; simp), fun f7 => ax.2 ⟨hbnd2, (a, (aC (aI a) done b)), rfl, ⟨h1, h2, e1, e2i⟩, (strs (cD (aI a) (aC (aI a) done b).toNat), bH b), rfl, hsd, nx (by rw [hinv, h3t f3, g1, g4, g2, f7]; simp)⟩⟩⟩⟩⟩, fun g1 => ⟨j9 (ad (nth a.bl (aC (aI a) done b).toNat) 3) (ad (nth a.bl (aC (aI a) done b).toNat) 2) (bH b), rfl, hx2, by
   rw [ta2]
   exact af.2 ⟨fun g2 => af.2 ⟨fun g3 => ho1 (by rw [hinv, h3t f3, g1, g2, g3]; simp), fun g3 => af.2 ⟨fun f7 => ho1 (by rw [hinv, h3t f3, g1, g2, g3, f7]; simp), fun f7 => ax.2 ⟨hbnd2, (a, (aC (aI a) done b)), rfl, ⟨h1, h2, e1, e2i⟩, (strs (cD (aI a) (aC (aI a) done b).toNat), bH b), rfl, hsd, nx (by rw [hinv, h3t f3, g1, g2, g3, f7]; simp)⟩⟩⟩, fun g2 => af.2 ⟨fun f7 => ho1 (by rw [hinv, h3t f3, g1, g2, f7]; simp), fun f7 => ax.2 ⟨hbnd2, (a, (aC (aI a) done b)), rfl, ⟨h1, h2, e1, e2i⟩, (strs (cD (aI a) (aC (aI a) done b).toNat), bH b), rfl, hsd, nx (by rw [hinv, h3t f3, g1, g2, f7]; simp)⟩⟩⟩⟩⟩⟩, fun f3 => af.2 ⟨fun f7 => ho1 (by rw [hinv, h3f f3, f7]; simp), fun f7 => ax.2 ⟨hbnd2, (a, (aC (aI a) done b)), rfl, ⟨h1, h2, e1, e2i⟩, (strs (cD (aI a) (aC (aI a) done b).toNat), bH b), rfl, hsd, nx (by rw [hinv, h3f f3, f7]; simp)⟩⟩⟩
 ·rw [show a.bl.length - i.toNat = 0 by omega] at ho
  exact (ho.2 rfl false trivial).2 rfl
noncomputable def Nq (κ : Kp) : Env := (J8 κ).aj 125 3 (aO 6 (JO κ) AA (z9 κ))
theorem VI (κ : Kp) : ay (Nq κ) := (YJ κ).aj (Tp κ) (l8 κ)
theorem Sq (κ : Kp) : ah (Nq κ) := (Tp κ).aj aG
theorem y8 (κ : Kp) (a : bQ) (K : AV → List Dn.Obj → Prop) : (bh (Nq κ) 12 73 [an a] [] K) = (
 letI z1 := K (AV.bj [AV.bool false, AV.int 0]) []
 letI z2 := Int.toNat (↑(a.bl.length) : Int)
 letI z3 := Pg.toProgram (Env.P (J8 κ))
 letI z4 := AV.bool false
 ∃ (a_1 : bQ), ([an a], aF) = ([an a_1], aF) ∧ (aX (aa (aV 52 a_1.hl a_1.bl)) ≤ 100000 ∧ a_1.bl.length ≤ 100000) ∧ aD (aM (aI a_1)) (aD (jH (aI a_1)) (bg (true
 && decide ((↑(a.bl.length) : Int) ≤ (↑(a.bl.length) : Int)) && decide ((Int.toNat (↑(a.bl.length) : Int) + 1) * 2 ≤ 70368744177664) && true) (ag z3 125 3 = ag
 z3 125 3 ∧ ∃ (a_2 : A8), sp 38 [(0, AV.ct 5), (1, AV.ptr 4 0 [] 0), (3, AV.mp 6), (4, AV.aB 7 0 z2), (13, AV.int (↑(a.bl.length) : Int)), (14, AV.int 0)]
 [Obj.box 41 (an a), Obj.box 4 z4, Obj.box 28 (AV.int 0), Obj.row 3 (ints (eV (aI a_1))), Obj.box 41 (an a), Dn.Obj.loop (gL Tryz.prog 73 5 LoopState.ready none
 (gy (bG 63) [(0, an a), (1, AV.ptr 0 0 [] 0), (2, AV.ptr 1 0 [] 0), (3, AV.ptr 2 0 [] 0), (4, AV.aB 3 0 (List.length (eV (aI a_1)))), (5, AV.int 0), (10, AV.bj
 [AV.aB 3 0 (List.length (eV (aI a_1))), AV.int 0]), (11, an a), (12, AV.bj [AV.aB 3 0 (List.length (eV (aI a_1))), AV.int 0]), (13, AV.aB 3 0 (List.length (eV
 (aI a_1)))), (14, AV.int 0), (15, AV.int 0), (16, AV.bool false), (18, an a), (19, AV.bL 125 [AV.ptr 4 0 [] 0])])), Dn.Obj.map 9 4 [], Obj.row 4 (eE z4 z2)] =
 sp 38 [(0, AV.ct 5), (1, AV.ptr 4 0 [] 0), (3, AV.mp 6), (4, AV.aB 7 0 (List.length (bJ a_2.done))), (13, AV.int (↑(List.length a_2.a.bl) : Int)), (14, AV.int
 a_2.i)] [Obj.box 41 (an a_2.a), Obj.box 4 z4, Obj.box 28 (AV.int 0), Obj.row 3 a_2.ws, Obj.box 41 (an a_2.a), Dn.Obj.loop (gL Tryz.prog 73 5 LoopState.ready
 none (gy (bG 63) [(0, an a_2.a), (1, AV.ptr 0 0 [] 0), (2, AV.ptr 1 0 [] 0), (3, AV.ptr 2 0 [] 0), (4, AV.aB 3 0 a_2.ws.length), (5, AV.int 0), (10, AV.bj
 [AV.aB 3 0 a_2.ws.length, AV.int 0]), (11, an a_2.a), (12, AV.bj [AV.aB 3 0 a_2.ws.length, AV.int 0]), (13, AV.aB 3 0 a_2.ws.length), (14, AV.int 0), (15,
 AV.int 0), (16, AV.bool false), (18, an a_2.a), (19, AV.bL 125 [AV.ptr 4 0 [] 0])])), Dn.Obj.map 9 4 (bH a_2.b), Obj.row 4 (bJ a_2.done)] ∧ (aM (aI a_2.a) =
 true ∧ (aX (aa (aV 52 a_2.a.hl a_2.a.bl)) ≤ 100000 ∧ List.length a_2.a.bl ≤ 100000) ∧ (0 : Int) ≤ a_2.i ∧ a_2.i ≤ (↑(List.length a_2.a.bl) : Int) ∧
 a_2.done.length = List.length a_2.a.bl) ∧ aD (Eh a_2) (K (AV.bj [AV.bool true, AV.int 0]) []) (∀ (y : Bool), True → aD y z1 z1))) (K (AV.bj [AV.bool false,
 AV.int 60]) [])) (K (AV.bj [AV.bool false, AV.int 30]) [])) := by kernel_rfl
def LI (a : bQ) : Out (AV × List Dn.Obj) := .aD (aM (aI a)) (.aD (jH (aI a)) (.one (.bj [.bool (Ge (aI a)), .int 0], [])) (.one (.bj [.bool false, .int 60], []))) (.one (.bj [.bool false, .int 30], []))
theorem c8 (κ : Kp) : bu (Nq κ) 12 73 (aW Eb dh LI) := by
 refine ba ?_
 rintro a K h2 ho
 refine Eq.mpr (y8 κ a K) ?_
 simp only [LI, Out.run, af] at ho
 have hl := h2.2
 refine ⟨a, rfl, h2, ?_⟩
 rw [af]
 refine ⟨fun e1 => ?_, fun e1 => ho.2 e1⟩
 rw [af]
 refine ⟨fun e2 => ?_, fun e2 => (ho.1 e1).2 e2⟩
 have hw := DY e2
 have ho1 := (ho.1 e1).1 e2
 simp only [ax, aa1, aa0, Int.toNat_natCast]
 have hi : Eh ⟨a, ints (eV (aI a)), List.replicate a.bl.length false, [], 0⟩ = Ge (aI a) := by
  unfold Eh Ge
  rw [gw]; rfl
 refine ⟨⟨⟨⟨trivial, by omega⟩, by omega⟩, trivial⟩, trivial, ⟨a, ints (eV (aI a)), List.replicate a.bl.length false, [], 0⟩, ?_, ⟨e1, h2, by simp only; omega, by simp only; omega, by simp⟩, ?_⟩
 ·simp only [qY, gT, oM, List.length_replicate]; rfl
 ·rw [hi, af]
  refine ⟨fun e => by rw [e] at ho1; exact ho1, fun e y _ => ?_⟩
  rw [e] at ho1
  cases y
  ·exact ho1
  ·exact ho1
noncomputable def E8 (κ : Kp) : Env := (Nq κ).au 73 (aW Eb dh LI)
theorem e8 (κ : Kp) : ay (E8 κ) := (VI κ).au (Sq κ) (c8 κ)
theorem m8 (κ : Kp) : ah (E8 κ) := (Sq κ).au aH
def Mo : List AV → Option (Bool × AV)
 | [.agg [.lit (.int .i64 op), .lit (.string s), .lit (.int .i64 n), .ae 52 l], .lit (.int .i64 left)] => some (decide (0 ≤ left) && decide (left ≤ 100000), .int ((Tm.mk op s n (aa l)).size left))
 | _ => none
def Bz : List AV → Nat
 | [.agg [_, _, _, .ae _ l], _] => aX (aa l)
 | _ => 0
noncomputable def wx (κ : Kp) (n : Nat) : Env := (E8 κ).aE 58 (below Mo Bz n)
structure OZ where
 op : Int
 s : ByteArray
 n : Int
 l : List AV
 left : Int
 i : Int
abbrev H0 (a : OZ) : S := sp 31 [(1, .int a.left), (2, .ptr 0 0 [] 0), (5, .int a.i)] [.box 52 (.agg [.int a.op, .lit (.string a.s), .int a.n, .ae 52 a.l])]
theorem VQ (κ : Kp) (r : Nat) (a : OZ) (I : Nat → S → Prop) (n : Nat) (K : Exit → S → Prop) : (vc (wx κ r) 12 58 none 0 (ag (Pr κ).toProgram 58 5) (H0 a) (bK (wx κ r) 58 5 0 I n K)) = (
 letI z1 := nth a.l a.i.toNat
 letI z2 := K (Exit.exit 0) (sp 31 [(1, AV.int a.left)] [])
 aD (decide (a.i < (↑(a.l.length) : Int))) (aD (decide (a.left ≥ (0 : Int))) (bg (decide ((0 : Int) ≤ a.i) && decide (a.i < (↑(a.l.length) : Int))) (bg (decide
 ((0 : Int) ≤ a.left) && decide (a.left ≤ (100000 : Int)) && Nat.blt (Bz [AV.agg [AV.int (toInt (ad z1 0)), AV.str (toStr (ad z1 1)), AV.int (toInt (ad z1 2)),
 AV.ae 52 (ai (ad z1 3))], AV.int a.left]) r) (∃ (m : Nat), m < n ∧ I m (sp 31 [(1, AV.int (Tm.size (Tm.mk (toInt (ad z1 0)) (toStr (ad z1 1)) (toInt (ad z1 2))
 (aa (ai (ad z1 3)))) a.left)), (2, AV.ptr 0 0 [] 0), (5, AV.int (IntKind.wrap IntKind.i64 (a.i + (1 : Int))))] [Obj.box 52 (AV.agg [AV.int a.op, AV.str a.s,
 AV.int a.n, AV.ae 52 a.l])])))) z2) z2) := by kernel_rfl
def Dw (r : Nat) (a : OZ) : Prop := -1 ≤ a.left ∧ a.i + a.left ≤ 100000 ∧ 0 ≤ a.i ∧ a.i ≤ a.l.length ∧ aX (aa (a.l.drop a.i.toNat)) ≤ r
def xf (a : OZ) : Out (Exit × S) := .one (.exit 0, sp 31 [(1, .int (gF (aa (a.l.drop a.i.toNat)) a.left))] [])
theorem V1 (κ : Kp) (r : Nat) : bq (wx κ r) 12 58 5 (aO 0 H0 (Dw r) xf) := by
 refine aR (fun a => a.l.length - a.i.toNat) ?_
 rintro ⟨op, s, n, l, left, i⟩ K ⟨h1, h2, h3, h4, h5⟩ ho
 simp only at h1 h2 h3 h4 h5
 rw [show (wx κ r).P = Pr κ from rfl]
 refine Eq.mpr (VQ κ r ⟨op, s, n, l, left, i⟩ _ _ K) ?_
 simp only [xf, Out.run] at ho
 simp only [af, ax, aa0, aa2, aa1, Nat.blt_eq, ← cy]
 refine ⟨fun hi => ⟨fun hl => ⟨⟨h3, hi⟩, ?_⟩, fun hl => ?_⟩, fun hi => ?_⟩
 ·have hc := sW l i.toNat (by omega)
  have hz := Tm.size_le (cz (nth l i.toNat)) left hl
  have hp : (cz (nth l i.toNat)).oi = 1 + aX (aa (ai (ad (nth l i.toNat) 3))) := by rw [cy, Tm.oi]
  rw [dM l i.toNat (by omega), gF, aa6 hl, aa7] at ho
  rw [a8 (n := i + 1) (by omega) (by omega)]
  refine ⟨⟨⟨hl, by omega⟩, by simp only [Bz]; omega⟩, _, ?_, ⟨op, s, n, l, (cz (nth l i.toNat)).size left, i + 1⟩, rfl, ⟨by simp only; omega, by simp only; omega, by simp only; omega, by simp only; omega, ?_⟩, rfl, ?_⟩
  ·simp only; omega
  ·simp only [show (i + 1).toNat = i.toNat + 1 by omega]; omega
  ·simp only [xf, Out.run, show (i + 1).toNat = i.toNat + 1 by omega]
   exact ho
 ·rw [dM l i.toNat (by omega), gF, aa4 (show ¬ 0 ≤ left from hl), aa5] at ho
  exact ho
 ·rw [aa8 (by omega)] at ho
  exact ho
noncomputable def Ff (κ : Kp) (r : Nat) : Env := (wx κ r).aj 58 5 (aO 0 H0 (Dw r) xf)
theorem XZ (κ : Kp) (r : Nat) (op : Int) (s : ByteArray) (n : Int) (l : List AV) (left : Int) (K : AV → List Dn.Obj → Prop) : (bh (Ff κ r) 12 58 [.agg [.int op, .lit (.string s), .int n, .ae 52 l], .int left] [] K) = (
 letI z1 := Pg.toProgram (Env.P (wx κ r))
 aD (decide ((↑(ByteArray.size s) : Int) > (1000 : Int))) (K (AV.int (-1)) []) (ag z1 58 5 = ag z1 58 5 ∧ ∃ (a : OZ), sp 31 [(1, AV.int (IntKind.wrap IntKind.i64
 (left - (1 : Int)))), (2, AV.ptr 0 0 [] 0), (5, AV.int 0)] [Obj.box 52 (AV.agg [AV.int op, AV.str s, AV.int n, AV.ae 52 l])] = sp 31 [(1, AV.int a.left), (2,
 AV.ptr 0 0 [] 0), (5, AV.int a.i)] [Obj.box 52 (AV.agg [AV.int a.op, AV.str a.s, AV.int a.n, AV.ae 52 a.l])] ∧ ((-1 : Int) ≤ a.left ∧ a.i + a.left ≤ (100000 :
 Int) ∧ (0 : Int) ≤ a.i ∧ a.i ≤ (↑(a.l.length) : Int) ∧ aX (aa (List.drop a.i.toNat a.l)) ≤ r) ∧ K (AV.int (gF (aa (List.drop a.i.toNat a.l)) a.left)) [])) := by kernel_rfl
theorem Qq (κ : Kp) (r : Nat) (hp : fX (Pr κ) 58 (below Mo Bz r)) : ay (Ff κ r) ∧ ah (Ff κ r) ∧ (Ff κ r).P = Pr κ :=
 have h : ay (wx κ r) := (e8 κ).eg hp
 have hm : ah (wx κ r) := (m8 κ).aE
 ⟨h.aj hm (V1 κ r), hm.aj aG, rfl⟩
theorem WC (κ : Kp) (r : Nat) : cx (Ff κ r) 12 58 (fun xs => bif Nat.beq (Bz xs) r then Mo xs else none) := by
 intro args x hh
 cases hb : Nat.beq (Bz args) r with
 | false => simp only [hb] at hh; cases hh
 | true =>
  simp only [hb, aa7] at hh
  unfold Mo at hh
  split at hh
  ·rename_i op s n l left
   simp only [aa3, aa9, aa1, aa0] at hh
   obtain ⟨⟨h1, h2⟩, rfl⟩ := hh
   have hr : aX (aa l) = r := Nat.eq_of_beq_eq_true hb
   refine ⟨_, rfl, rfl, ?_⟩
   refine Eq.mpr (XZ κ r op s n l left _) ?_
   rw [af, aa0, aa2]
   refine ⟨fun e => ?_, fun e => ?_⟩
   ·unfold Tm.size; rw [aa6 (show (1000 : Int) < s.size from e)]; rfl
   ·rw [a8 (n := left - 1) (by omega) (by omega)]
    refine ⟨rfl, ⟨op, s, n, l, left - 1, 0⟩, rfl, ⟨by simp only; omega, by simp only; omega, by simp only; omega, by simp only; omega, ?_⟩, ?_⟩
    ·simp only [ab7, ab0]; omega
    ·unfold Tm.size; rw [aa4 (show ¬ (1000 : Int) < s.size from e)]; rfl
  ·cases hh
theorem TB (κ : Kp) : fX (Pr κ) 58 Mo := ay.te Mo Bz (Ff κ) (Qq κ) (WC κ)
noncomputable def Ks (κ : Kp) : Env := (E8 κ).aE 58 Mo
theorem Wb (κ : Kp) : ay (Ks κ) := (e8 κ).eg (TB κ)
theorem S8 (κ : Kp) : ah (Ks κ) := (m8 κ).aE
structure Nn where
 s : ByteArray
 l : List AV
 left : Int
 i : Int
abbrev ID (a : Nn) : S := sp 29 [(1, .int a.left), (2, .ptr 0 0 [] 0), (5, .int a.i)] [.box 38 (.agg [.lit (.string a.s), .ae 52 a.l])]
theorem Xi (κ : Kp) (a : Nn) (I : Nat → S → Prop) (n : Nat) (K : Exit → S → Prop) : (vc (Ks κ) 12 57 none 0 (ag (Pr κ).toProgram 57 4) (ID a) (bK (Ks κ) 57 4 0 I n K)) = (
 letI z1 := nth a.l a.i.toNat
 letI z2 := K (Exit.exit 0) (sp 29 [(1, AV.int a.left)] [])
 aD (decide (a.i < (↑(a.l.length) : Int))) (aD (decide (a.left ≥ (0 : Int))) (bg (decide ((0 : Int) ≤ a.i) && decide (a.i < (↑(a.l.length) : Int))) (bg (decide
 ((0 : Int) ≤ a.left) && decide (a.left ≤ (100000 : Int))) (∃ (m : Nat), m < n ∧ I m (sp 29 [(1, AV.int (Tm.size (Tm.mk (toInt (ad z1 0)) (toStr (ad z1 1))
 (toInt (ad z1 2)) (aa (ai (ad z1 3)))) a.left)), (2, AV.ptr 0 0 [] 0), (5, AV.int (IntKind.wrap IntKind.i64 (a.i + (1 : Int))))] [Obj.box 38 (AV.agg [AV.str
 a.s, AV.ae 52 a.l])])))) z2) z2) := by kernel_rfl
def CM (a : Nn) : Prop := -1 ≤ a.left ∧ a.i + a.left ≤ 100000 ∧ 0 ≤ a.i ∧ a.i ≤ a.l.length
def x3 (a : Nn) : Out (Exit × S) := .one (.exit 0, sp 29 [(1, .int (gF (aa (a.l.drop a.i.toNat)) a.left))] [])
theorem Xw (κ : Kp) : bq (Ks κ) 12 57 4 (aO 0 ID CM x3) := by
 refine aR (fun a => a.l.length - a.i.toNat) ?_
 rintro ⟨s, l, left, i⟩ K ⟨h1, h2, h3, h4⟩ ho
 simp only at h1 h2 h3 h4
 rw [show (Ks κ).P = Pr κ from rfl]
 refine Eq.mpr (Xi κ ⟨s, l, left, i⟩ _ _ K) ?_
 simp only [x3, Out.run] at ho
 simp only [af, ax, aa0, aa2, aa1, ← cy]
 refine ⟨fun hi => ⟨fun hl => ⟨⟨h3, hi⟩, ?_⟩, fun hl => ?_⟩, fun hi => ?_⟩
 ·have hz := Tm.size_le (cz (nth l i.toNat)) left hl
  rw [dM l i.toNat (by omega), gF, aa6 hl, aa7] at ho
  rw [a8 (n := i + 1) (by omega) (by omega)]
  refine ⟨⟨hl, by omega⟩, _, ?_, ⟨s, l, (cz (nth l i.toNat)).size left, i + 1⟩, rfl, ⟨by simp only; omega, by simp only; omega, by simp only; omega, by simp only; omega⟩, rfl, ?_⟩
  ·simp only; omega
  ·simp only [x3, Out.run, show (i + 1).toNat = i.toNat + 1 by omega]
   exact ho
 ·rw [dM l i.toNat (by omega), gF, aa4 (show ¬ 0 ≤ left from hl), aa5] at ho
  exact ho
 ·rw [aa8 (by omega)] at ho
  exact ho
noncomputable def HI (κ : Kp) : Env := (Ks κ).aj 57 4 (aO 0 ID CM x3)
theorem Qc (κ : Kp) : ay (HI κ) := (Wb κ).aj (S8 κ) (Xw κ)
theorem O5 (κ : Kp) : ah (HI κ) := (S8 κ).aj aG
theorem XU (κ : Kp) (s : ByteArray) (l : List AV) (left : Int) (K : AV → List Dn.Obj → Prop) : (bh (HI κ) 12 57 [.agg [.lit (.string s), .ae 52 l], .int left] [] K) = (
 letI z1 := Pg.toProgram (Env.P (Ks κ))
 aD (decide ((↑(ByteArray.size s) : Int) > (1000 : Int))) (K (AV.int (-1)) []) (ag z1 57 4 = ag z1 57 4 ∧ ∃ (a : Nn), sp 29 [(1, AV.int left), (2, AV.ptr 0 0 []
 0), (5, AV.int 0)] [Obj.box 38 (AV.agg [AV.str s, AV.ae 52 l])] = sp 29 [(1, AV.int a.left), (2, AV.ptr 0 0 [] 0), (5, AV.int a.i)] [Obj.box 38 (AV.agg [AV.str
 a.s, AV.ae 52 a.l])] ∧ ((-1 : Int) ≤ a.left ∧ a.i + a.left ≤ (100000 : Int) ∧ (0 : Int) ≤ a.i ∧ a.i ≤ (↑(a.l.length) : Int)) ∧ K (AV.int (gF (aa (List.drop
 a.i.toNat a.l)) a.left)) [])) := by kernel_rfl
def P3 : List AV → Option (Bool × AV)
 | [.agg [.lit (.string s), .ae 52 l], .lit (.int .i64 left)] => some (decide (-1 ≤ left) && decide (left ≤ 100000), .int (cO ⟨s, aa l⟩ left))
 | _ => none
theorem YP (κ : Kp) : cx (HI κ) 12 57 P3 := by
 intro args x hh
 unfold P3 at hh
 split at hh
 ·rename_i s l left
  simp only [aa3, aa9, aa1, aa0] at hh
  obtain ⟨⟨h1, h2⟩, rfl⟩ := hh
  refine ⟨_, rfl, rfl, ?_⟩
  refine Eq.mpr (XU κ s l left _) ?_
  rw [af, aa0, aa2]
  refine ⟨fun e => ?_, fun e => ?_⟩
  ·unfold cO; rw [aa6 (show (1000 : Int) < s.size from e)]; rfl
  ·refine ⟨rfl, ⟨s, l, left, 0⟩, rfl, ⟨h1, by simp only; omega, by simp only; omega, by simp only; omega⟩, ?_⟩
   unfold cO; rw [aa4 (show ¬ (1000 : Int) < s.size from e)]; rfl
 ·cases hh
noncomputable def JV (κ : Kp) : Env := (HI κ).aE 57 P3
theorem Ze (κ : Kp) : ay (JV κ) := (Qc κ).aE (O5 κ) (YP κ)
theorem S2 (κ : Kp) : ah (JV κ) := (O5 κ).aE
structure Nv where
 a : bQ
 left : Int
 i : Int
abbrev zw (a : Nv) : S := sp 52 [(1, .int a.left), (2, .ptr 0 0 [] 0), (5, .int a.i)] [.box 41 (an a.a)]
theorem VP (κ : Kp) (a : Nv) (I : Nat → S → Prop) (n : Nat) (K : Exit → S → Prop) : (vc (JV κ) 12 30 none 0 (ag (Pr κ).toProgram 30 3) (zw a) (bK (JV κ) 30 3 0 I n K)) = (
 letI z1 := nth a.a.bl a.i.toNat
 letI z3 := Tm.mk (toInt (ad (ad z1 2) 0)) (toStr (ad (ad z1 2) 1)) (toInt (ad (ad z1 2) 2)) (aa (ai (ad (ad z1 2) 3)))
 letI z4 := AV.agg [AV.agg [AV.str a.a.rel, AV.ae 52 a.a.hl], AV.ae 55 a.a.bl, AV.int a.a.line]
 letI z6 := ai (ad (ad z1 1) 1)
 letI z7 := ad (ad z1 1) 0
 letI z9 := IntKind.wrap IntKind.i64 (a.i + (1 : Int))
 letI z10 := Tm.mk (toInt (ad (ad z1 3) 0)) (toStr (ad (ad z1 3) 1)) (toInt (ad (ad z1 3) 2)) (aa (ai (ad (ad z1 3) 3)))
 letI z13 := K (Exit.exit 0) (sp 52 [(1, AV.int a.left)] [])
 letI z14 := (0 : Int)
 letI z5 := decide (z14 ≤ a.i) && decide (a.i < (↑(List.length a.a.bl) : Int))
 letI z15 := a.left - (1 : Int)
 letI z2 := IntKind.wrap IntKind.i64 z15
 letI z11 := cO {rel := toStr z7, l := aa z6 } z2
 letI z12 := cO { rel := toStr z7, l := aa z6 } z2
 letI z16 := (100000 : Int)
 letI z8 := decide (z14 ≤ cO {rel := toStr z7, l := aa z6 } z2) && decide (cO { rel := toStr z7, l := aa z6 } z2 ≤ z16)
 aD (decide (a.i < (↑(List.length a.a.bl) : Int))) (aD (decide (a.left ≥ z14)) (bg z5 (bg (decide ((-1 : Int) ≤ IntKind.wrap IntKind.i64 z15) && decide (IntKind.wrap IntKind.i64 z15 ≤ z16)) (aD (decide (cO { rel := toStr z7, l := aa z6 } z2 ≥ z14)) (bg z5 (bg z8 (aD (decide (Tm.size z3 z11 ≥ z14)) (bg z5 (bg (decide (z14 ≤ Tm.size z3 z12) && decide (Tm.size z3 z11 ≤ z16)) (∃ (m : Nat), m < n ∧ I m (sp 52 [(1, AV.lit (Value.int IntKind.i64 (Tm.size z10 (Tm.size z3 z11)))), (2, AV.ptr 0 0 [] 0), (5, AV.int z9)] [Obj.box 41 z4])))) (∃ (m : Nat), m < n ∧ I m (sp 52 [(1, AV.lit (Value.int IntKind.i64 (Tm.size z3 z12))), (2, AV.ptr 0 0 [] 0), (5, AV.int z9)] [Obj.box 41 z4]))))) (aD (decide (cO {rel := toStr z7, l := aa z6 } z2 ≥ z14)) (bg z5 (bg z8 (∃ (m : Nat), m < n ∧ I m (sp 52 [(1, AV.lit (Value.int IntKind.i64 (Tm.size z10 z12))), (2, AV.ptr 0 0 [] 0), (5, AV.int z9)] [Obj.box 41 z4])))) (∃ (m : Nat), m < n ∧ I m (sp 52 [(1, AV.lit (Value.int IntKind.i64 z11)), (2, AV.ptr 0 0 [] 0), (5, AV.int z9)] [Obj.box 41 z4])))))) z13) z13) := by kernel_rfl
def wK (a : Nv) : Prop := -1 ≤ a.left ∧ a.i + a.left ≤ 100000 ∧ 0 ≤ a.i ∧ a.i ≤ a.a.bl.length
def tQ (a : Nv) : Out (Exit × S) := .one (.exit 0, sp 52 [(1, .int (jT (cu (a.a.bl.drop a.i.toNat)) a.left))] [])
theorem VR (κ : Kp) : bq (JV κ) 12 30 3 (aO 0 zw wK tQ) := by
 refine aR (fun a => a.a.bl.length - a.i.toNat) ?_
 rintro ⟨a, left, i⟩ K ⟨h1, h2, h3, h4⟩ ho
 simp only at h1 h2 h3 h4
 rw [show (JV κ).P = Pr κ from rfl]
 refine Eq.mpr (VP κ ⟨a, left, i⟩ _ _ K) ?_
 simp only [tQ, Out.run] at ho
 by_cases hi : i < a.bl.length
 ·by_cases hl : left ≥ 0
  ·have hk : i.toNat < a.bl.length := by omega
   rw [lM a.bl i.toNat hk, jT, aa6 hl, aa7] at ho
   have hA : (⟨toStr (ad (ad (nth a.bl i.toNat) 1) 0), aa (ai (ad (ad (nth a.bl i.toNat) 1) 1))⟩ : At) = (cj (nth a.bl i.toNat)).a := rfl
   have hX : cz (ad (nth a.bl i.toNat) 2) = (cj (nth a.bl i.toNat)).x := rfl
   have hY : cz (ad (nth a.bl i.toNat) 3) = (cj (nth a.bl i.toNat)).y := rfl
   have hz := pM (cj (nth a.bl i.toNat)) left hl
   have hz1 := kL (cj (nth a.bl i.toNat)).a (left - 1) (by omega)
   have hz2 := Tm.size_le (cj (nth a.bl i.toNat)).x (cO (cj (nth a.bl i.toNat)).a (left - 1))
   have go : ∀ z, sizeLt (cj (nth a.bl i.toNat)) left = z → ∃ m, m < a.bl.length - i.toNat ∧ fF zw wK tQ (fun a => a.a.bl.length - a.i.toNat) K m (zw ⟨a, z, i + 1⟩) := by
    rintro z rfl
    refine ⟨_, ?_, ⟨a, sizeLt (cj (nth a.bl i.toNat)) left, i + 1⟩, rfl, ⟨by simp only; omega, by simp only; omega, by simp only; omega, by simp only; omega⟩, rfl, ?_⟩
    ·simp only; omega
    ·simp only [tQ, Out.run, show (i + 1).toNat = i.toNat + 1 by omega]
     exact ho
   simp only [a8 (n := i + 1) (by omega) (by omega), a8 (n := left - 1) (by omega) (by omega), hA, ← cy, hX, hY]
   simp only [af, ax, aa0, aa2, aa1]
   refine ⟨fun _ => ⟨fun _ => ⟨⟨h3, hi⟩, ⟨by omega, by omega⟩, fun e1 => ⟨⟨h3, hi⟩, ⟨e1, by omega⟩, fun e2 => ⟨⟨h3, hi⟩, ⟨e2, by have := hz2 e1; omega⟩, go _ ?_⟩, fun e2 => go _ ?_⟩, fun e1 => ⟨fun e => absurd e e1, fun _ => go _ ?_⟩⟩, fun e => absurd hl e⟩, fun e => absurd hi e⟩
   ·unfold sizeLt; rw [aa6 (show 0 ≤ cO (cj (nth a.bl i.toNat)).a (left - 1) from e1), aa7, aa6 (show 0 ≤ (cj (nth a.bl i.toNat)).x.size _ from e2), aa7]
   ·unfold sizeLt; rw [aa6 (show 0 ≤ cO (cj (nth a.bl i.toNat)).a (left - 1) from e1), aa7, aa4 (show ¬ 0 ≤ (cj (nth a.bl i.toNat)).x.size _ from e2), aa5]
   ·unfold sizeLt; rw [aa4 (show ¬ 0 ≤ cO (cj (nth a.bl i.toNat)).a (left - 1) from e1), aa5]; rfl
  ·rw [lM a.bl i.toNat (by omega), jT, aa4 (show ¬ 0 ≤ left from hl), aa5] at ho
   rw [aa6 (show i < (a.bl.length : Int) from hi), aa4 hl]
   exact ho
 ·rw [aa8 (by omega)] at ho
  rw [aa4 (show ¬ i < (a.bl.length : Int) from hi)]
  exact ho
noncomputable def GP (κ : Kp) : Env := (JV κ).aj 30 3 (aO 0 zw wK tQ)
theorem P7 (κ : Kp) : ay (GP κ) := (Ze κ).aj (S2 κ) (VR κ)
theorem O9 (κ : Kp) : ah (GP κ) := (S2 κ).aj aG
theorem Uh (κ : Kp) (a : bQ) (left : Int) (K : AV → List Dn.Obj → Prop) : (bh (GP κ) 12 30 [an a, .int left] [] K) = (
 letI z1 := left - (1 : Int)
 letI z2 := Pg.toProgram (Env.P (JV κ))
 bg (decide ((-1 : Int) ≤ IntKind.wrap IntKind.i64 z1) && decide (IntKind.wrap IntKind.i64 z1 ≤ (100000 : Int))) (ag z2 30 3 = ag z2 30 3 ∧ ∃ (a_1 : Nv), sp 52 [(1, AV.lit (Value.int IntKind.i64 (cO {rel := a.rel, l := aa a.hl } (IntKind.wrap IntKind.i64 z1)))), (2, AV.ptr 0 0 [] 0), (5, AV.int 0)] [Obj.box 41 (AV.agg [AV.agg [AV.str a.rel, AV.ae 52 a.hl], AV.ae 55 a.bl, AV.int a.line])] = sp 52 [(1, AV.int a_1.left), (2, AV.ptr 0 0 [] 0), (5, AV.int a_1.i)] [Obj.box 41 (AV.agg [AV.agg [AV.str a_1.a.rel, AV.ae 52 a_1.a.hl], AV.ae 55 a_1.a.bl, AV.int a_1.a.line])] ∧ ((-1 : Int) ≤ a_1.left ∧ a_1.i + a_1.left ≤ (100000 : Int) ∧ (0 : Int) ≤ a_1.i ∧ a_1.i ≤ (↑(List.length a_1.a.bl) : Int)) ∧ K (AV.lit (Value.int IntKind.i64 (jT (cu (List.drop a_1.i.toNat a_1.a.bl)) a_1.left))) [])) := by kernel_rfl
def QC : List AV → Option (Bool × AV)
 | [.agg [.agg [.lit (.string rel), .ae 52 hl], .ae 55 bl, .lit (.int .i64 _)], .lit (.int .i64 left)] => some (decide (0 ≤ left) && decide (left ≤ 100000), .int (ky ⟨⟨rel, aa hl⟩, cu bl⟩ left))
 | _ => none
theorem Ye (κ : Kp) : cx (GP κ) 12 30 QC := by
 intro args x hh
 unfold QC at hh
 split at hh
 ·rename_i rel hl bl line left
  simp only [aa3, aa9, aa1, aa0] at hh
  obtain ⟨⟨h1, h2⟩, rfl⟩ := hh
  refine ⟨_, rfl, rfl, ?_⟩
  refine Eq.mpr (Uh κ ⟨[], [], rel, hl, bl, line, 0⟩ left _) ?_
  have hz1 := kL ⟨rel, aa hl⟩ (left - 1) (by omega)
  simp only [a8 (n := left - 1) (by omega) (by omega)]
  rw [ax, aa1, aa0, aa0]
  exact ⟨⟨by omega, by omega⟩, trivial, ⟨⟨[], [], rel, hl, bl, line, 0⟩, cO ⟨rel, aa hl⟩ (left - 1), 0⟩, rfl, ⟨by simp only; omega, by simp only; omega, by simp only; omega, by simp only; omega⟩, rfl⟩
 ·cases hh
noncomputable def JX (κ : Kp) : Env := (GP κ).aE 30 QC
theorem Vn (κ : Kp) : ay (JX κ) := (P7 κ).aE (O9 κ) (Ye κ)
theorem RH (κ : Kp) : ah (JX κ) := (O9 κ).aE
abbrev Gu (a : List AV × Int) : S := sp 16 [(0, .ae 9 a.1), (3, .int a.2)] []
theorem VM (κ : Kp) (l : List AV) (i : Int) (I : Nat → S → Prop) (n : Nat) (K : Exit → S → Prop) : (vc (JX κ) 12 29 none 0 (ag (Pr κ).toProgram 29 2) (Gu (l, i)) (bK (JX κ) 29 2 0 I n K)) = (
 aD (decide (i < (↑(l.length) : Int))) (bg (decide ((0 : Int) ≤ i) && decide (i < (↑(l.length) : Int))) (aD (decide ((↑(ByteArray.size (toStr (nth l i.toNat)))
 : Int) > (1000 : Int))) (K Exit.ret (sp 16 [(2, AV.bool true)] [])) (∃ (m : Nat), m < n ∧ I m (sp 16 [(0, AV.ae 9 l), (3, AV.int (IntKind.wrap IntKind.i64 (i
 + (1 : Int))))] [])))) (K (Exit.exit 0) (sp 16 [] []))) := by kernel_rfl
def DF (a : List AV × Int) : Prop := a.1.length ≤ aL ∧ 0 ≤ a.2 ∧ a.2 ≤ a.1.length
def xe (a : List AV × Int) : Out (Exit × S) := .aD (qZ (a.1.drop a.2.toNat)) (.one (.ret, sp 16 [(2, .bool true)] [])) (.one (.exit 0, sp 16 [] []))
theorem Tt (κ : Kp) : bq (JX κ) 12 29 2 (aO 0 Gu DF xe) := by
 refine aR (fun a => a.1.length - a.2.toNat) ?_
 rintro ⟨l, i⟩ K ⟨h1, h2, h3⟩ ho
 simp only at h1 h2 h3
 rw [show (JX κ).P = Pr κ from rfl]
 refine Eq.mpr (VM κ l i _ _ K) ?_
 simp only [aL] at h1
 simp only [xe, Out.run, af] at ho
 simp only [af, ax, aa0, aa2, aa1]
 refine ⟨fun hi => ⟨⟨h2, hi⟩, ?_⟩, fun hi => ?_⟩
 ·rw [ab1 (show i.toNat < l.length by omega), ← br l i.toNat (by omega)] at ho
  simp only [qZ, List.any_cons] at ho
  refine ⟨fun e => ho.1 (by rw [aa6 (show (1000 : Int) < _ from e)]; rfl), fun e => ?_⟩
  rw [aa4 (show ¬ (1000 : Int) < _ from e), Bool.false_or] at ho
  rw [a8 (n := i + 1) (by omega) (by omega)]
  refine ⟨_, ?_, (l, i + 1), rfl, ⟨by simpa [aL] using h1, by simp only; omega, by simp only; omega⟩, rfl, ?_⟩
  ·simp only; omega
  ·simp only [xe, Out.run, af, show (i + 1).toNat = i.toNat + 1 by omega]
   exact ho
 ·rw [aa8 (by omega)] at ho
  exact ho.2 rfl
noncomputable def IB (κ : Kp) : Env := (JX κ).aj 29 2 (aO 0 Gu DF xe)
theorem Ry (κ : Kp) : ay (IB κ) := (Vn κ).aj (RH κ) (Tt κ)
theorem OB (κ : Kp) : ah (IB κ) := (RH κ).aj aG
theorem XM (κ : Kp) (l : List AV) (K : AV → List Dn.Obj → Prop) : (bh (IB κ) 12 29 [.ae 9 l] [] K) = (
 letI z1 := Pg.toProgram (Env.P (JX κ))
 ag z1 29 2 = ag z1 29 2 ∧ ∃ (a : List AV × Int), sp 16 [(0, AV.ae 9 l), (3, AV.int 0)] [] = sp 16 [(0, AV.ae 9 a.1), (3, AV.int a.2)] [] ∧ (a.1.length ≤
 9223372036854775807 ∧ (0 : Int) ≤ a.2 ∧ a.2 ≤ (↑(a.1.length) : Int)) ∧ aD (qZ (List.drop a.2.toNat a.1)) (K (AV.bool true) []) (K (AV.bool false) [])) := by kernel_rfl
def Qj : List AV → Option (Bool × AV)
 | [.ae 9 l] => some (decide (l.length ≤ aL), .bool (qZ l))
 | _ => none
theorem UK (κ : Kp) : cx (IB κ) 12 29 Qj := by
 intro args x hh
 unfold Qj at hh
 split at hh
 ·rename_i l
  simp only [aa3, aa9, aa0] at hh
  obtain ⟨h1, rfl⟩ := hh
  refine ⟨_, rfl, rfl, ?_⟩
  refine Eq.mpr (XM κ l _) ?_
  refine ⟨rfl, (l, 0), rfl, ⟨h1, by simp only; omega, by simp only; omega⟩, ?_⟩
  rw [af]
  exact ⟨fun e => by rw [show qZ l = true from e], fun e => by rw [show qZ l = false from e]⟩
 ·cases hh
noncomputable def Jp (κ : Kp) : Env := (IB κ).aE 29 Qj
theorem W6 (κ : Kp) : ay (Jp κ) := (Ry κ).aE (OB κ) (UK κ)
theorem SQ (κ : Kp) : ah (Jp κ) := (OB κ).aE
structure Hi where
 ds : List AV
 rs : List AV
 left : Int
 i : Int
abbrev Eo (a : Hi) : AV := .agg [.ae 62 a.ds, .ae 41 a.rs]
abbrev Cz (a : Hi) : S := sp 62 [(1, .ptr 0 0 [] 0), (3, .int a.left), (4, .int a.i)] [.box 25 (Eo a)]
theorem QJ (κ : Kp) (a : Hi) (I : Nat → S → Prop) (n : Nat) (K : Exit → S → Prop) : (vc (Jp κ) 12 11 none 0 (ag (Pr κ).toProgram 11 3) (Cz a) (bK (Jp κ) 11 3 0 I n K)) = (
 letI z1 := decide ((0 : Int) ≤ a.i) && decide (a.i < (↑(a.ds.length) : Int))
 letI z2 := K Exit.ret (sp 62 [(2, AV.int 0)] [])
 letI z3 := AV.agg [AV.ae 62 a.ds, AV.ae 41 a.rs]
 letI z4 := nth a.ds a.i.toNat
 aD (decide (a.i < (↑(a.ds.length) : Int))) (bg z1 (aD (decide ((↑(ByteArray.size (toStr (ad z4 0))) : Int) > (1000 : Int))) z2 (bg z1 (bg (decide (List.length
 (ai (ad z4 1)) ≤ 9223372036854775807)) (aD (qZ (ai (ad z4 1))) z2 (∃ (m : Nat), m < n ∧ I m (sp 62 [(1, AV.ptr 0 0 [] 0), (3, AV.int a.left), (4, AV.int
 (IntKind.wrap IntKind.i64 (a.i + (1 : Int))))] [Obj.box 25 z3]))))))) (K (Exit.exit 0) (sp 62 [(1, AV.ptr 0 0 [] 0), (3, AV.int a.left)] [Obj.box 25 z3]))) := by kernel_rfl
def wJ (a : Hi) : Prop := a.ds.length ≤ aL ∧ (∀ d, d ∈ a.ds → (ai (ad d 1)).length ≤ aL) ∧ 0 ≤ a.i ∧ a.i ≤ a.ds.length
def tj (a : Hi) : Out (Exit × S) := .aD ((a.ds.drop a.i.toNat).any E5) (.one (.ret, sp 62 [(2, .int 0)] [])) (.one (.exit 0, sp 62 [(1, .ptr 0 0 [] 0), (3, .int a.left)] [.box 25 (Eo a)]))
theorem P2 (κ : Kp) : bq (Jp κ) 12 11 3 (aO 0 Cz wJ tj) := by
 refine aR (fun a => a.ds.length - a.i.toNat) ?_
 rintro ⟨ds, rs, left, i⟩ K ⟨h1, h1', h2, h3⟩ ho
 simp only at h1 h1' h2 h3
 rw [show (Jp κ).P = Pr κ from rfl]
 refine Eq.mpr (QJ κ ⟨ds, rs, left, i⟩ _ _ K) ?_
 simp only [aL] at h1
 simp only [tj, Out.run, af] at ho
 simp only [af, ax, aa1, aa0, aa2]
 refine ⟨fun hi => ⟨⟨h2, hi⟩, ?_⟩, fun hi => ?_⟩
 ·have hi' : i.toNat < ds.length := by omega
  have hm : nth ds i.toNat ∈ ds := by rw [br ds _ hi']; exact List.getElem_mem _
  rw [ab1 hi', ← br ds i.toNat hi'] at ho
  simp only [List.any_cons, E5] at ho
  have go : (∀ h : ((ds.drop (i.toNat + 1)).any E5 = true → K .ret (sp 62 [(2, .int 0)] [])) ∧ ((ds.drop (i.toNat + 1)).any E5 = false → K (.exit 0) (sp 62 [(1, .ptr 0 0 [] 0), (3, .int left)] [.box 25 (Eo ⟨ds, rs, left, i⟩)])), ∃ m, m < ds.length - i.toNat ∧ fF Cz wJ tj (fun a => a.ds.length - a.i.toNat) K m (sp 62 [(1, .ptr 0 0 [] 0), (3, .int left), (4, .int (IntKind.wrap .i64 (i + 1)))] [.box 25 (Eo ⟨ds, rs, left, i⟩)])) := by
   intro h
   rw [a8 (n := i + 1) (by omega) (by omega)]
   refine ⟨_, ?_, ⟨ds, rs, left, i + 1⟩, rfl, ⟨by simpa [aL] using h1, h1', by simp only; omega, by simp only; omega⟩, rfl, ?_⟩
   ·simp only; omega
   ·simp only [tj, Out.run, af, show (i + 1).toNat = i.toNat + 1 by omega]
    exact h
  refine ⟨fun e1 => ho.1 (by rw [aa6 (show (1000 : Int) < _ from e1)]; rfl), fun e1 => ⟨⟨h2, hi⟩, h1' _ hm, fun e2 => ho.1 (by rw [e2]; simp), fun e2 => go ?_⟩⟩
  rw [aa4 (show ¬ (1000 : Int) < _ from e1), e2] at ho
  exact ho
 ·rw [aa8 (by omega)] at ho
  exact ho.2 rfl
noncomputable def xH (κ : Kp) : Env := (Jp κ).aj 11 3 (aO 0 Cz wJ tj)
theorem PR (κ : Kp) : ay (xH κ) := (W6 κ).aj (SQ κ) (P2 κ)
theorem Oh (κ : Kp) : ah (xH κ) := (SQ κ).aj aG
abbrev H7 (a : Hi) : S := sp 62 [(1, .ptr 0 0 [] 0), (3, .int a.left), (5, .int a.i)] [.box 25 (Eo a)]
theorem QV (κ : Kp) (a : Hi) (I : Nat → S → Prop) (n : Nat) (K : Exit → S → Prop) : (vc (xH κ) 12 11 none 0 (ag (Pr κ).toProgram 11 8) (H7 a) (bK (xH κ) 11 8 0 I n K)) = (
 letI z2 := AV.agg [AV.ae 62 a.ds, AV.ae 41 a.rs]
 letI z1 := K (Exit.exit 2) (sp 62 [(1, AV.ptr 0 0 [] 0), (3, AV.int a.left)] [Obj.box 25 z2])
 letI z3 := nth a.rs a.i.toNat
 aD (decide (a.i < (↑(a.rs.length) : Int))) (aD (decide (a.left ≥ (0 : Int))) (bg (decide ((0 : Int) ≤ a.i) && decide (a.i < (↑(a.rs.length) : Int))) (bg (decide ((0 : Int) ≤ a.left) && decide (a.left ≤ (100000 : Int))) (∃ (m : Nat), m < n ∧ I m (sp 62 [(1, AV.ptr 0 0 [] 0), (3, AV.lit (Value.int IntKind.i64 (ky {head := { rel := toStr (ad (ad z3 0) 0), l := aa (ai (ad (ad z3 0) 1)) }, body := cu (ai (ad z3 1)) } a.left))), (5, AV.int (IntKind.wrap IntKind.i64 (a.i + (1 : Int))))] [Obj.box 25 z2])))) z1) z1) := by kernel_rfl
def DN (a : Hi) : Prop := -1 ≤ a.left ∧ a.i + a.left ≤ 100000 ∧ 0 ≤ a.i ∧ a.i ≤ a.rs.length
def xM (a : Hi) : Out (Exit × S) := .one (.exit 2, sp 62 [(1, .ptr 0 0 [] 0), (3, .int (kJ ((a.rs.drop a.i.toNat).map rm) a.left))] [.box 25 (Eo a)])
theorem Rb (κ : Kp) : bq (xH κ) 12 11 8 (aO 0 H7 DN xM) := by
 refine aR (fun a => a.rs.length - a.i.toNat) ?_
 rintro ⟨ds, rs, left, i⟩ K ⟨h1, h2, h3, h4⟩ ho
 simp only at h1 h2 h3 h4
 rw [show (xH κ).P = Pr κ from rfl]
 refine Eq.mpr (QV κ ⟨ds, rs, left, i⟩ _ _ K) ?_
 simp only [xM, Out.run] at ho
 by_cases hi : i < rs.length
 ·have hi' : i.toNat < rs.length := by omega
  rw [ab1 hi', ← br rs i.toNat hi', ac0, kJ] at ho
  by_cases hl : left ≥ 0
  ·have hz := sM (rm (nth rs i.toNat)) left hl
   rw [aa6 (show 0 ≤ left from hl), aa7] at ho
   rw [aa6 (show i < (rs.length : Int) from hi), aa6 hl, a8 (n := i + 1) (by omega) (by omega)]
   simp only [aD, ax, aa1, aa0]
   refine ⟨⟨h3, trivial⟩, ⟨trivial, by omega⟩, _, ?_, ⟨ds, rs, ky (rm (nth rs i.toNat)) left, i + 1⟩, rfl, ⟨by simp only; omega, by simp only; omega, by simp only; omega, by simp only; omega⟩, rfl, ?_⟩
   ·simp only; omega
   ·simp only [xM, Out.run, show (i + 1).toNat = i.toNat + 1 by omega]
    exact ho
  ·rw [aa4 (show ¬ 0 ≤ left from hl), aa5] at ho
   rw [aa6 (show i < (rs.length : Int) from hi), aa4 hl]
   exact ho
 ·rw [aa8 (by omega)] at ho
  rw [aa4 (show ¬ i < (rs.length : Int) from hi)]
  exact ho
noncomputable def Iv (κ : Kp) : Env := (xH κ).aj 11 8 (aO 0 H7 DN xM)
theorem P5 (κ : Kp) : ay (Iv κ) := (PR κ).aj (Oh κ) (Rb κ)
theorem Po (κ : Kp) : ah (Iv κ) := (Oh κ).aj aG
theorem Tz (κ : Kp) (ds rs : List AV) (K : AV → List Dn.Obj → Prop) : (bh (Iv κ) 12 11 [.agg [.ae 62 ds, .ae 41 rs]] [] K) = (
 letI z1 := K (AV.int 0) []
 letI z2 := Pg.toProgram (Env.P (Jp κ))
 letI z3 := Pg.toProgram (Env.P (xH κ))
 ag z2 11 3 = ag z2 11 3 ∧ ∃ (a : Hi), sp 62 [(1, AV.ptr 0 0 [] 0), (3, AV.int 2000), (4, AV.int 0)] [Obj.box 25 (AV.agg [AV.ae 62 ds, AV.ae 41 rs])] = sp 62
 [(1, AV.ptr 0 0 [] 0), (3, AV.int a.left), (4, AV.int a.i)] [Obj.box 25 (AV.agg [AV.ae 62 a.ds, AV.ae 41 a.rs])] ∧ (a.ds.length ≤ 9223372036854775807 ∧ (∀ (d :
 AV), List.Mem d a.ds → List.length (ai (ad d 1)) ≤ 9223372036854775807) ∧ (0 : Int) ≤ a.i ∧ a.i ≤ (↑(a.ds.length) : Int)) ∧ aD (List.any (List.drop a.i.toNat
 a.ds) E5) z1 (ag z3 11 8 = ag z3 11 8 ∧ ∃ (a_1 : Hi), sp 62 [(1, AV.ptr 0 0 [] 0), (3, AV.int a.left), (5, AV.int 0)] [Obj.box 25 (AV.agg [AV.ae 62 a.ds, AV.ae
 41 a.rs])] = sp 62 [(1, AV.ptr 0 0 [] 0), (3, AV.int a_1.left), (5, AV.int a_1.i)] [Obj.box 25 (AV.agg [AV.ae 62 a_1.ds, AV.ae 41 a_1.rs])] ∧ ((-1 : Int) ≤
 a_1.left ∧ a_1.i + a_1.left ≤ (100000 : Int) ∧ (0 : Int) ≤ a_1.i ∧ a_1.i ≤ (↑(a_1.rs.length) : Int)) ∧ aD (decide (kJ (List.map rm (List.drop a_1.i.toNat
 a_1.rs)) a_1.left < (0 : Int))) z1 (aD (decide ((↑(a_1.ds.length) : Int) > (100 : Int))) z1 (aD (decide ((↑(a_1.rs.length) : Int) > (300 : Int))) z1 (K (AV.int
 1) []))))) := by kernel_rfl
def Rh : List AV → Option (Bool × AV)
 | [.agg [.ae 62 ds, .ae 41 rs]] => some (decide (ds.length ≤ aL) && ds.all (fun d => decide ((ai (ad d 1)).length ≤ aL)), .int (bif iL ds rs then 1 else 0))
 | _ => none
theorem YW (κ : Kp) : cx (Iv κ) 12 11 Rh := by
 intro args x hh
 unfold Rh at hh
 split at hh
 ·rename_i ds rs
  simp only [aa3, aa9, aa1, aa0, List.all_eq_true] at hh
  obtain ⟨⟨h1, h2⟩, rfl⟩ := hh
  refine ⟨_, rfl, rfl, ?_⟩
  refine Eq.mpr (Tz κ ds rs _) ?_
  refine ⟨rfl, ⟨ds, rs, 2000, 0⟩, rfl, ⟨h1, h2, by simp only; omega, by simp only; omega⟩, ?_⟩
  simp only [ab7, ab0, af]
  refine ⟨fun e => ?_, fun e => ⟨trivial, ⟨ds, rs, 2000, 0⟩, rfl, ⟨by simp only; omega, by simp only; omega, by simp only; omega, by simp only; omega⟩, ?_⟩⟩
  ·unfold iL; rw [e]; rfl
  ·simp only [ab7, ab0, aa0, aa2]
   refine ⟨fun e1 => ?_, fun e1 => ⟨fun e2 => ?_, fun e2 => ⟨fun e3 => ?_, fun e3 => ?_⟩⟩⟩
   ·unfold iL; rw [e, aa4 (show ¬ 0 ≤ kJ (rs.map rm) 2000 by omega)]; rfl
   ·unfold iL; rw [aa4 (show ¬ ds.length ≤ 100 by omega)]; simp
   ·unfold iL; rw [aa4 (show ¬ rs.length ≤ 300 by omega)]; simp
   ·unfold iL; rw [e, aa6 (show 0 ≤ kJ (rs.map rm) 2000 by omega), aa6 (show ds.length ≤ 100 by omega), aa6 (show rs.length ≤ 300 by omega)]; rfl
 ·cases hh
noncomputable def P0 (κ : Kp) : Env := (Iv κ).aE 11 Rh
theorem Xa (κ : Kp) : ay (P0 κ) := (P5 κ).aE (Po κ) (YW κ)
theorem Wq (κ : Kp) : ah (P0 κ) := (Po κ).aE
noncomputable abbrev E9 (κ : Kp) : Env := P0 κ
theorem e9 (κ : Kp) : ay (E9 κ) := Xa κ
theorem m9 (κ : Kp) : ah (E9 κ) := Wq κ
abbrev MM (s : ByteArray) : AV := .agg [.int 1, .lit (.string s), .int 0, .ae 52 []]
theorem WQ (κ : Kp) (s : ByteArray) (K : AV → List Dn.Obj → Prop) : (bh (E9 κ) 12 69 [.lit (.string s)] [] K) = (
 K (AV.agg [AV.int 1, AV.str s, AV.int 0, AV.ae 52 []]) []) := by kernel_rfl
def Rd : List AV → Option (Bool × AV)
 | [.lit (.string s)] => some (true, MM s)
 | _ => none
theorem YK (κ : Kp) : rE (E9 κ) 12 69 Rd := by
 intro args x hh
 unfold Rd at hh
 split at hh
 ·rename_i s
  simp only [aa3, aa9, true_and] at hh
  subst hh
  exact ⟨rfl, Eq.mpr (WQ κ s _) rfl⟩
 ·cases hh
noncomputable def Oq (κ : Kp) : Env := (E9 κ).dX 69 Rd
theorem TE (κ : Kp) : ay (Oq κ) := (e9 κ).dX (m9 κ) (YK κ)
theorem Si (κ : Kp) : ah (Oq κ) := (m9 κ).dX
theorem Uw (κ : Kp) (r s : ByteArray) (K : AV → List Dn.Obj → Prop) : (bh (Oq κ) 12 34 [.lit (.string r), .lit (.string s)] [] K) = (
 K (AV.agg [AV.str r, AV.ae 52 [AV.agg [AV.int 1, AV.str s, AV.int 0, AV.ae 52 []]]]) []) := by kernel_rfl
def Rj : List AV → Option (Bool × AV)
 | [.lit (.string r), .lit (.string s)] => some (true, .agg [.lit (.string r), .ae 52 [MM s]])
 | _ => none
theorem YI (κ : Kp) : rE (Oq κ) 12 34 Rj := by
 intro args x hh
 unfold Rj at hh
 split at hh
 ·rename_i r s
  simp only [aa3, aa9, true_and] at hh
  subst hh
  exact ⟨rfl, Eq.mpr (Uw κ r s _) rfl⟩
 ·cases hh
noncomputable def JH (κ : Kp) : Env := (Oq κ).dX 34 Rj
theorem UM (κ : Kp) : ay (JH κ) := (TE κ).dX (Si κ) (YI κ)
theorem RD (κ : Kp) : ah (JH κ) := (Si κ).dX
theorem Zn (κ : Kp) (l m : List AV) (i : Int) (I : Nat → S → Prop) (n : Nat) (K : Exit → S → Prop) : (vc (JH κ) 12 28 none 0 (ag (Pr κ).toProgram 28 4) (sp 26 [(0, .ae 3 l), (1, .ae 3 m), (5, .int i)] []) (bK (JH κ) 28 4 0 I n K)) = (
 aD (decide (i < (↑(l.length) : Int))) (bg (decide ((0 : Int) ≤ i) && decide (i < (↑(l.length) : Int))) (bg (decide ((0 : Int) ≤ i) && decide (i < (↑(m.length)
 : Int))) (aD (toInt (nth l i.toNat) != toInt (nth m i.toNat)) (K Exit.ret (sp 26 [(4, AV.bool false)] [])) (∃ (m_1 : Nat), m_1 < n ∧ I m_1 (sp 26 [(0, AV.ae
 3 l), (1, AV.ae 3 m), (5, AV.int (IntKind.wrap IntKind.i64 (i + (1 : Int))))] []))))) (K (Exit.exit 0) (sp 26 [] []))) := by kernel_rfl
def lF (l m : List AV) : Bool := decide (l.map toInt = m.map toInt)
abbrev KP (a : List AV × List AV × Int) : S := sp 26 [(0, .ae 3 a.1), (1, .ae 3 a.2.1), (5, .int a.2.2)] []
def Dm (a : List AV × List AV × Int) : Prop := a.1.length = a.2.1.length ∧ a.1.length ≤ aL ∧ 0 ≤ a.2.2 ∧ a.2.2 ≤ a.1.length
def wc (a : List AV × List AV × Int) : Out (Exit × S) := .aD (lF (a.1.drop a.2.2.toNat) (a.2.1.drop a.2.2.toNat)) (.one (.exit 0, sp 26 [] [])) (.one (.ret, sp 26 [(4, .bool false)] []))
theorem Xo (κ : Kp) : bq (JH κ) 12 28 4 (aO 0 KP Dm wc) := by
 refine aR (fun a => a.1.length - a.2.2.toNat) ?_
 rintro ⟨l, m, i⟩ K ⟨h1, h2, h3, h4⟩ ho
 simp only at h1 h2 h3 h4
 rw [show (JH κ).P = Pr κ from rfl]
 refine Eq.mpr (Zn κ l m i _ _ K) ?_
 simp only [aL] at h2
 simp only [wc, Out.run, af] at ho
 simp only [af, ax, aa0, aa2, aa1, bne_iff_ne, bne_eq_false_iff_eq]
 refine ⟨fun hi => ⟨⟨h3, hi⟩, ⟨h3, by omega⟩, ?_⟩, fun hi => ?_⟩
 ·rw [ab1 (show i.toNat < l.length by omega), ← br l i.toNat (by omega), ab1 (show i.toNat < m.length by omega), ← br m i.toNat (by omega)] at ho
  simp only [lF, ac0, List.cons.injEq] at ho
  refine ⟨fun e => ho.2 (by simp [e]), fun e => ?_⟩
  rw [a8 (n := i + 1) (by omega) (by omega)]
  refine ⟨_, ?_, (l, m, i + 1), rfl, ⟨h1, by simpa [aL] using h2, by simp only; omega, by simp only; omega⟩, rfl, ?_⟩
  ·simp only; omega
  ·simp only [wc, Out.run, af, show (i + 1).toNat = i.toNat + 1 by omega, lF]
   simpa [e] using ho
 ·rw [aa8 (by omega), aa8 (by omega)] at ho
  exact ho.1 rfl
noncomputable def GH (κ : Kp) : Env := (JH κ).aj 28 4 (aO 0 KP Dm wc)
theorem QT (κ : Kp) : ay (GH κ) := (UM κ).aj (RD κ) (Xo κ)
theorem ND (κ : Kp) : ah (GH κ) := (RD κ).aj aG
theorem Yk (κ : Kp) (l m : List AV) (K : AV → List Dn.Obj → Prop) : (bh (GH κ) 12 28 [.ae 3 l, .ae 3 m] [] K) = (
 letI z1 := Pg.toProgram (Env.P (JH κ))
 aD ((↑(l.length) : Int) != (↑(m.length) : Int)) (K (AV.bool false) []) (ag z1 28 4 = ag z1 28 4 ∧ ∃ (a : List AV × List AV × Int), sp 26 [(0, AV.ae 3 l), (1,
 AV.ae 3 m), (5, AV.int 0)] [] = sp 26 [(0, AV.ae 3 a.1), (1, AV.ae 3 a.2.1), (5, AV.int a.2.2)] [] ∧ (a.1.length = a.2.1.length ∧ a.1.length ≤
 9223372036854775807 ∧ (0 : Int) ≤ a.2.2 ∧ a.2.2 ≤ (↑(a.1.length) : Int)) ∧ aD (lF (List.drop (Int.toNat a.2.2) a.1) (List.drop (Int.toNat a.2.2) a.2.1)) (K
 (AV.bool true) []) (K (AV.bool false) []))) := by kernel_rfl
def QK : List AV → Option (Bool × AV)
 | [.ae 3 l, .ae 3 m] => some (decide (l.length ≤ aL), .bool (lF l m))
 | _ => none
theorem Wc (κ : Kp) : cx (GH κ) 12 28 QK := by
 intro args x hh
 unfold QK at hh
 split at hh
 ·rename_i l m
  simp only [aa3, aa9, aa0] at hh
  obtain ⟨h1, rfl⟩ := hh
  refine ⟨_, rfl, rfl, ?_⟩
  refine Eq.mpr (Yk κ l m _) ?_
  simp only [af, bne_iff_ne, bne_eq_false_iff_eq]
  refine ⟨fun e => ?_, fun e => ⟨trivial, (l, m, 0), rfl, ⟨by simp only; omega, h1, by simp only; omega, by simp only; omega⟩, ?_⟩⟩
  ·have : lF l m = false := by
    unfold lF
    rw [aa4]
    intro h
    have := congrArg List.length h
    simp at this; omega
   rw [this]
  ·simp only [ab7, ab0]
   exact ⟨fun e => by rw [e], fun e => by rw [e]⟩
 ·cases hh
noncomputable def Rr (κ : Kp) : Env := (GH κ).aE 28 QK
theorem Tq (κ : Kp) : ay (Rr κ) := (QT κ).aE (ND κ) (Wc κ)
theorem TH (κ : Kp) : ah (Rr κ) := (ND κ).aE
end Go.Proofs.YtdpmikfheebicaaGreatDoor
namespace Go.Proofs.YtdpmikfheebicaaGreatDoor
open Go Go.Dn Go.Rl Go.Proofs
theorem lW {b c : Bool} (h : b = c) : AV.bool b = .lit (.bool c) := by rw [h]
theorem Lb (a b : Int) : (a == b) = decide (a = b) := by by_cases h : a = b <;> simp [h]
theorem HN (a b : Int) : (a != b) = !decide (a = b) := by by_cases h : a = b <;> simp [h]
structure AT where
 op : Int
 s : ByteArray
 n : Int
 l : List AV
def AT.tm (a : AT) : Tm := .mk a.op a.s a.n (aa a.l)
def Ci (x : AV) : AT := ⟨toInt (ad x 0), toStr (ad x 1), toInt (ad x 2), ai (ad x 3)⟩
theorem tC (x : AV) : (Ci x).tm = cz x := by rw [cy]; rfl
abbrev c6 (a : AT) : AV := .agg [.int a.op, .lit (.string a.s), .int a.n, .ae 52 a.l]
theorem Fb {a : bQ} (h : dh a) : (cU (aI a)).length ≤ 100000 := by
 have h6 := bZ (aa (aV 52 a.hl a.bl))
 rw [im 52 a.rel a.hl a.bl] at h6
 have h7 := kt (eB (aI a)) []
 unfold cU
 cases aM (aI a)
 ·exact Nat.zero_le _
 ·rw [aa7]; exact Nat.le_trans h7 (Nat.le_trans h6 h.1)
end Go.Proofs.YtdpmikfheebicaaGreatDoor
