import Derived.Test.YtpgahkbkfflkaaaGreatDoorDrM4
import Derived.Test.YtpgahkbkfflkaaaGreatDoorDrM1
import Derived.Test.YtpgahkbkfflkaaaGreatDoorDrM2
import Derived.Test.YtpgahkbkfflkaaaGreatDoorDoG
import Derived.Test.YtpgahkbkfflkaaaGreatDoorRows
import Derived.ProofKit
import Derived.Deep.DeepHandedRow
import Derived.Stop.LaidTwo
import Derived.LaidHandle
namespace Go.Proofs.YtpgahkbkfflkaaaGreatDoor
open Go Go.Dn Go.Rl Go.Proofs
attribute [local irreducible] funA vc
set_option maxRecDepth 20000
noncomputable abbrev lp8 (a : A45) (ws : List AV) (κ : Kp) (st : LoopState) (p : Option Code) : Dn.Obj :=
  .loop (lpA (Pr κ).toProgram 9 5 st p (spR (junks 63) [(0, rl45 a), (1, .ptr 0 0 [] 0), (2, .ptr 1 0 [] 0), (3, .ptr 2 0 [] 0), (4, .slc 3 0 ws.length), (5, .int 0), (10, .tup [.slc 3 0 ws.length, .int 0]), (11, rl45 a), (12, .tup [.slc 3 0 ws.length, .int 0]), (13, .slc 3 0 ws.length), (14, .int 0), (15, .int 0), (16, .bool false), (18, rl45 a), (19, .clo 56 [.ptr 4 0 [] 0])]))
noncomputable abbrev str8 (κ : Kp) (a : A45) (ws : List AV) (b : Bool) (st : LoopState) (p : Option Code) : List Dn.Obj := [.box 27 (rl45 a), .box 4 (.bool b), .box 31 (.int 0), .row 3 ws, .box 27 (rl45 a), lp8 a ws κ st p]
theorem x8 (κ : Kp) (a : A45) (ws : List AV) (es : List (Value × AV)) (done : List AV) (i : Int) (I : Nat → S → Prop) (n : Nat) (K : Exit → S → Prop) : (vc (E10 κ) 12 56 none 6 (loopCode (Pr κ).toProgram 56 3) (sp 38 [(0, .yld 5), (1, .ptr 4 0 [] 0), (3, .mp 6), (4, .slc 7 0 done.length), (13, .int a.bl.length), (14, .int i)] (str8 κ a ws false .ready none ++ [.map 9 4 es, .row 4 done])) (loopK (E10 κ) 56 3 6 I n K)) = (
  brn (decide (i < (↑(List.length (A45.bl a)) : Int))) (∃ (a_1 : A36), ([AV.agg [AV.agg [AV.str (A45.rel a), AV.lst 43 (A45.hl a)], AV.lst 46 (A45.bl a), AV.int
  (A45.line a)], AV.slc 0 0 (List.length done), AV.mp 1], [Obj.row 4 done, Dn.Obj.map 9 4 es]) = ([AV.agg [AV.agg [AV.str (A45.rel (A36.a a_1)), AV.lst 43
  (A45.hl (A36.a a_1))], AV.lst 46 (A45.bl (A36.a a_1)), AV.int (A45.line (A36.a a_1))], AV.slc 0 0 (List.length (bools (A36.done a_1))), AV.mp 1], [Obj.row 4
  (bools (A36.done a_1)), Dn.Obj.map 9 4 (setE (A36.b a_1))]) ∧ (rightR (rOf (A36.a a_1)) = true ∧ (cntL (tmsOf (ruleTs 43 (A45.hl (A36.a a_1)) (A45.bl (A36.a
  a_1)))) ≤ 100000 ∧ List.length (A45.bl (A36.a a_1)) ≤ 100000) ∧ List.length (A36.done a_1) = List.length (A45.bl (A36.a a_1))) ∧ brn (decide (nextI (rOf (A36.a
  a_1)) (A36.done a_1) (A36.b a_1) < (0 : Int))) (K Exit.ret (sp 38 [] [Obj.box 27 (AV.agg [AV.agg [AV.str (A45.rel a), AV.lst 43 (A45.hl a)], AV.lst 46 (A45.bl
  a), AV.int (A45.line a)]), Obj.box 4 (AV.bool false), Obj.box 31 (AV.int 0), Obj.row 3 ws, Obj.box 27 (AV.agg [AV.agg [AV.str (A45.rel a), AV.lst 43 (A45.hl
  a)], AV.lst 46 (A45.bl a), AV.int (A45.line a)]), Dn.Obj.loop (lpA Tryz.prog 9 5 LoopState.ready none (spR (junks 63) [(0, AV.agg [AV.agg [AV.str (A45.rel a),
  AV.lst 43 (A45.hl a)], AV.lst 46 (A45.bl a), AV.int (A45.line a)]), (1, AV.ptr 0 0 [] 0), (2, AV.ptr 1 0 [] 0), (3, AV.ptr 2 0 [] 0), (4, AV.slc 3 0
  (List.length ws)), (5, AV.int 0), (10, AV.tup [AV.slc 3 0 (List.length ws), AV.int 0]), (11, AV.agg [AV.agg [AV.str (A45.rel a), AV.lst 43 (A45.hl a)], AV.lst
  46 (A45.bl a), AV.int (A45.line a)]), (12, AV.tup [AV.slc 3 0 (List.length ws), AV.int 0]), (13, AV.slc 3 0 (List.length ws)), (14, AV.int 0), (15, AV.int 0),
  (16, AV.bool false), (18, AV.agg [AV.agg [AV.str (A45.rel a), AV.lst 43 (A45.hl a)], AV.lst 46 (A45.bl a), AV.int (A45.line a)]), (19, AV.clo 56 [AV.ptr 4 0 []
  0])]))])) (cnd (decide ((0 : Int) ≤ nextI (rOf (A36.a a_1)) (A36.done a_1) (A36.b a_1)) && decide (nextI (rOf (A36.a a_1)) (A36.done a_1) (A36.b a_1) <
  (↑(List.length (A45.bl a)) : Int))) (brn (toInt (fld (nth (A45.bl a) (Int.toNat (nextI (rOf (A36.a a_1)) (A36.done a_1) (A36.b a_1)))) 0) == (3 : Int)) (∃ (a_2
  : TA), ([AV.mp 0, AV.agg [AV.int (toInt (fld (fld (nth (A45.bl a) (Int.toNat (nextI (rOf (A36.a a_1)) (A36.done a_1) (A36.b a_1)))) 2) 0)), AV.str (toStr (fld
  (fld (nth (A45.bl a) (Int.toNat (nextI (rOf (A36.a a_1)) (A36.done a_1) (A36.b a_1)))) 2) 1)), AV.int (toInt (fld (fld (nth (A45.bl a) (Int.toNat (nextI (rOf
  (A36.a a_1)) (A36.done a_1) (A36.b a_1)))) 2) 2)), AV.lst 43 (toLst (fld (fld (nth (A45.bl a) (Int.toNat (nextI (rOf (A36.a a_1)) (A36.done a_1) (A36.b a_1))))
  2) 3))], AV.agg [AV.int (toInt (fld (fld (nth (A45.bl a) (Int.toNat (nextI (rOf (A36.a a_1)) (A36.done a_1) (A36.b a_1)))) 3) 0)), AV.str (toStr (fld (fld (nth
  (A45.bl a) (Int.toNat (nextI (rOf (A36.a a_1)) (A36.done a_1) (A36.b a_1)))) 3) 1)), AV.int (toInt (fld (fld (nth (A45.bl a) (Int.toNat (nextI (rOf (A36.a
  a_1)) (A36.done a_1) (A36.b a_1)))) 3) 2)), AV.lst 43 (toLst (fld (fld (nth (A45.bl a) (Int.toNat (nextI (rOf (A36.a a_1)) (A36.done a_1) (A36.b a_1)))) 3)
  3))]], [Dn.Obj.map 9 4 (setE (A36.b a_1))]) = ([AV.mp 0, AV.agg [AV.int (TA.o1 a_2), AV.str (TA.s1 a_2), AV.int (TA.n1 a_2), AV.lst 43 (TA.l1 a_2)], AV.agg
  [AV.int (TA.o2 a_2), AV.str (TA.s2 a_2), AV.int (TA.n2 a_2), AV.lst 43 (TA.l2 a_2)]], [Dn.Obj.map 9 4 (TA.es a_2)]) ∧ side20 a_2 ∧ brn (bindsS (TA.es a_2)
  (TA.x a_2) (TA.y a_2)) (brn (decide (toInt (fld (fld (nth (A45.bl a) (Int.toNat (nextI (rOf (A36.a a_1)) (A36.done a_1) (A36.b a_1)))) 3) 0) ≥ (5 : Int))) (K
  Exit.ret (sp 38 [] [Obj.box 27 (AV.agg [AV.agg [AV.str (A45.rel a), AV.lst 43 (A45.hl a)], AV.lst 46 (A45.bl a), AV.int (A45.line a)]), Obj.box 4 (AV.bool
  true), Obj.box 31 (AV.int 0), Obj.row 3 ws, Obj.box 27 (AV.agg [AV.agg [AV.str (A45.rel a), AV.lst 43 (A45.hl a)], AV.lst 46 (A45.bl a), AV.int (A45.line a)]),
  Dn.Obj.loop (lpA Tryz.prog 9 5 LoopState.done (some Code.ret) (spR (junks 63) [(0, AV.agg [AV.agg [AV.str (A45.rel a), AV.lst 43 (A45.hl a)], AV.lst 46 (A45.bl
  a), AV.int (A45.line a)]), (1, AV.ptr 0 0 [] 0), (2, AV.ptr 1 0 [] 0), (3, AV.ptr 2 0 [] 0), (4, AV.slc 3 0 (List.length ws)), (5, AV.int 0), (10, AV.tup
  [AV.slc 3 0 (List.length ws), AV.int 0]), (11, AV.agg [AV.agg [AV.str (A45.rel a), AV.lst 43 (A45.hl a)], AV.lst 46 (A45.bl a), AV.int (A45.line a)]), (12,
  AV.tup [AV.slc 3 0 (List.length ws), AV.int 0]), (13, AV.slc 3 0 (List.length ws)), (14, AV.int 0), (15, AV.int 0), (16, AV.bool false), (18, AV.agg [AV.agg
  [AV.str (A45.rel a), AV.lst 43 (A45.hl a)], AV.lst 46 (A45.bl a), AV.int (A45.line a)]), (19, AV.clo 56 [AV.ptr 4 0 [] 0])]))])) (∃ (a_3 : TA), ([AV.mp 0,
  AV.agg [AV.int (toInt (fld (fld (nth (A45.bl a) (Int.toNat (nextI (rOf (A36.a a_1)) (A36.done a_1) (A36.b a_1)))) 3) 0)), AV.str (toStr (fld (fld (nth (A45.bl
  a) (Int.toNat (nextI (rOf (A36.a a_1)) (A36.done a_1) (A36.b a_1)))) 3) 1)), AV.int (toInt (fld (fld (nth (A45.bl a) (Int.toNat (nextI (rOf (A36.a a_1))
  (A36.done a_1) (A36.b a_1)))) 3) 2)), AV.lst 43 (toLst (fld (fld (nth (A45.bl a) (Int.toNat (nextI (rOf (A36.a a_1)) (A36.done a_1) (A36.b a_1)))) 3) 3))],
  AV.agg [AV.int (toInt (fld (fld (nth (A45.bl a) (Int.toNat (nextI (rOf (A36.a a_1)) (A36.done a_1) (A36.b a_1)))) 2) 0)), AV.str (toStr (fld (fld (nth (A45.bl
  a) (Int.toNat (nextI (rOf (A36.a a_1)) (A36.done a_1) (A36.b a_1)))) 2) 1)), AV.int (toInt (fld (fld (nth (A45.bl a) (Int.toNat (nextI (rOf (A36.a a_1))
  (A36.done a_1) (A36.b a_1)))) 2) 2)), AV.lst 43 (toLst (fld (fld (nth (A45.bl a) (Int.toNat (nextI (rOf (A36.a a_1)) (A36.done a_1) (A36.b a_1)))) 2) 3))]],
  [Dn.Obj.map 9 4 (TA.es a_2)]) = ([AV.mp 0, AV.agg [AV.int (TA.o1 a_3), AV.str (TA.s1 a_3), AV.int (TA.n1 a_3), AV.lst 43 (TA.l1 a_3)], AV.agg [AV.int (TA.o2
  a_3), AV.str (TA.s2 a_3), AV.int (TA.n2 a_3), AV.lst 43 (TA.l2 a_3)]], [Dn.Obj.map 9 4 (TA.es a_3)]) ∧ side20 a_3 ∧ brn (bindsS (TA.es a_3) (TA.x a_3) (TA.y
  a_3)) (brn (decide (toInt (fld (fld (nth (A45.bl a) (Int.toNat (nextI (rOf (A36.a a_1)) (A36.done a_1) (A36.b a_1)))) 2) 0) ≥ (5 : Int))) (K Exit.ret (sp 38 []
  [Obj.box 27 (AV.agg [AV.agg [AV.str (A45.rel a), AV.lst 43 (A45.hl a)], AV.lst 46 (A45.bl a), AV.int (A45.line a)]), Obj.box 4 (AV.bool true), Obj.box 31
  (AV.int 0), Obj.row 3 ws, Obj.box 27 (AV.agg [AV.agg [AV.str (A45.rel a), AV.lst 43 (A45.hl a)], AV.lst 46 (A45.bl a), AV.int (A45.line a)]), Dn.Obj.loop (lpA
  Tryz.prog 9 5 LoopState.done (some Code.ret) (spR (junks 63) [(0, AV.agg [AV.agg [AV.str (A45.rel a), AV.lst 43 (A45.hl a)], AV.lst 46 (A45.bl a), AV.int
  (A45.line a)]), (1, AV.ptr 0 0 [] 0), (2, AV.ptr 1 0 [] 0), (3, AV.ptr 2 0 [] 0), (4, AV.slc 3 0 (List.length ws)), (5, AV.int 0), (10, AV.tup [AV.slc 3 0
  (List.length ws), AV.int 0]), (11, AV.agg [AV.agg [AV.str (A45.rel a), AV.lst 43 (A45.hl a)], AV.lst 46 (A45.bl a), AV.int (A45.line a)]), (12, AV.tup [AV.slc
  3 0 (List.length ws), AV.int 0]), (13, AV.slc 3 0 (List.length ws)), (14, AV.int 0), (15, AV.int 0), (16, AV.bool false), (18, AV.agg [AV.agg [AV.str (A45.rel
  a), AV.lst 43 (A45.hl a)], AV.lst 46 (A45.bl a), AV.int (A45.line a)]), (19, AV.clo 56 [AV.ptr 4 0 [] 0])]))])) (brn (decide ((7 : Int) ≤ toInt (fld (nth
  (A45.bl a) (Int.toNat (nextI (rOf (A36.a a_1)) (A36.done a_1) (A36.b a_1)))) 0))) (K Exit.ret (sp 38 [] [Obj.box 27 (AV.agg [AV.agg [AV.str (A45.rel a), AV.lst
  43 (A45.hl a)], AV.lst 46 (A45.bl a), AV.int (A45.line a)]), Obj.box 4 (AV.bool true), Obj.box 31 (AV.int 0), Obj.row 3 ws, Obj.box 27 (AV.agg [AV.agg [AV.str
  (A45.rel a), AV.lst 43 (A45.hl a)], AV.lst 46 (A45.bl a), AV.int (A45.line a)]), Dn.Obj.loop (lpA Tryz.prog 9 5 LoopState.done (some Code.ret) (spR (junks 63)
  [(0, AV.agg [AV.agg [AV.str (A45.rel a), AV.lst 43 (A45.hl a)], AV.lst 46 (A45.bl a), AV.int (A45.line a)]), (1, AV.ptr 0 0 [] 0), (2, AV.ptr 1 0 [] 0), (3,
  AV.ptr 2 0 [] 0), (4, AV.slc 3 0 (List.length ws)), (5, AV.int 0), (10, AV.tup [AV.slc 3 0 (List.length ws), AV.int 0]), (11, AV.agg [AV.agg [AV.str (A45.rel
  a), AV.lst 43 (A45.hl a)], AV.lst 46 (A45.bl a), AV.int (A45.line a)]), (12, AV.tup [AV.slc 3 0 (List.length ws), AV.int 0]), (13, AV.slc 3 0 (List.length
  ws)), (14, AV.int 0), (15, AV.int 0), (16, AV.bool false), (18, AV.agg [AV.agg [AV.str (A45.rel a), AV.lst 43 (A45.hl a)], AV.lst 46 (A45.bl a), AV.int
  (A45.line a)]), (19, AV.clo 56 [AV.ptr 4 0 [] 0])]))])) (cnd (decide ((0 : Int) ≤ nextI (rOf (A36.a a_1)) (A36.done a_1) (A36.b a_1)) && decide (nextI (rOf
  (A36.a a_1)) (A36.done a_1) (A36.b a_1) < (↑(List.length done) : Int))) (∃ (a_4 : A45 × Int), ([AV.agg [AV.agg [AV.str (A45.rel a), AV.lst 43 (A45.hl a)],
  AV.lst 46 (A45.bl a), AV.int (A45.line a)], AV.int (nextI (rOf (A36.a a_1)) (A36.done a_1) (A36.b a_1))], nilO) = ([AV.agg [AV.agg [AV.str (A45.rel (Prod.fst
  a_4)), AV.lst 43 (A45.hl (Prod.fst a_4))], AV.lst 46 (A45.bl (Prod.fst a_4)), AV.int (A45.line (Prod.fst a_4))], AV.int (Prod.snd a_4)], nilO) ∧ (rightR (rOf
  (Prod.fst a_4)) = true ∧ (cntL (tmsOf (ruleTs 43 (A45.hl (Prod.fst a_4)) (A45.bl (Prod.fst a_4)))) ≤ 100000 ∧ List.length (A45.bl (Prod.fst a_4)) ≤ 100000) ∧
  (0 : Int) ≤ Prod.snd a_4 ∧ Prod.snd a_4 < (↑(List.length (A45.bl (Prod.fst a_4))) : Int)) ∧ ∃ (a_5 : List AV × List (Value × AV)), ([AV.mp 0, AV.lst 9 (strs
  (gainsV (rOf (Prod.fst a_4)) (Int.toNat (Prod.snd a_4))))], [Dn.Obj.map 9 4 (TA.es a_3)]) = ([AV.mp 0, AV.lst 9 (Prod.fst a_5)], [Dn.Obj.map 9 4 (Prod.snd
  a_5)]) ∧ side23 a_5 ∧ ∃ (m : Nat), m < n ∧ I m (sp 38 [(0, AV.yld 5), (1, AV.ptr 4 0 [] 0), (3, AV.mp 6), (4, AV.slc 7 0 (List.length done)), (13, AV.int
  (↑(List.length (A45.bl a)) : Int)), (14, AV.int (IntKind.wrap IntKind.i64 (i + (1 : Int))))] [Obj.box 27 (AV.agg [AV.agg [AV.str (A45.rel a), AV.lst 43 (A45.hl
  a)], AV.lst 46 (A45.bl a), AV.int (A45.line a)]), Obj.box 4 (AV.bool false), Obj.box 31 (AV.int 0), Obj.row 3 ws, Obj.box 27 (AV.agg [AV.agg [AV.str (A45.rel
  a), AV.lst 43 (A45.hl a)], AV.lst 46 (A45.bl a), AV.int (A45.line a)]), Dn.Obj.loop (lpA Tryz.prog 9 5 LoopState.ready none (spR (junks 63) [(0, AV.agg [AV.agg
  [AV.str (A45.rel a), AV.lst 43 (A45.hl a)], AV.lst 46 (A45.bl a), AV.int (A45.line a)]), (1, AV.ptr 0 0 [] 0), (2, AV.ptr 1 0 [] 0), (3, AV.ptr 2 0 [] 0), (4,
  AV.slc 3 0 (List.length ws)), (5, AV.int 0), (10, AV.tup [AV.slc 3 0 (List.length ws), AV.int 0]), (11, AV.agg [AV.agg [AV.str (A45.rel a), AV.lst 43 (A45.hl
  a)], AV.lst 46 (A45.bl a), AV.int (A45.line a)]), (12, AV.tup [AV.slc 3 0 (List.length ws), AV.int 0]), (13, AV.slc 3 0 (List.length ws)), (14, AV.int 0), (15,
  AV.int 0), (16, AV.bool false), (18, AV.agg [AV.agg [AV.str (A45.rel a), AV.lst 43 (A45.hl a)], AV.lst 46 (A45.bl a), AV.int (A45.line a)]), (19, AV.clo 56
  [AV.ptr 4 0 [] 0])])), Dn.Obj.map 9 4 (putL (Prod.snd a_5) (Prod.fst a_5)), Obj.row 4 (setN (bools (A36.done a_1)) (0 + Int.toNat (nextI (rOf (A36.a a_1))
  (A36.done a_1) (A36.b a_1))) (AV.bool true))]))))) (brn (decide ((7 : Int) ≤ toInt (fld (nth (A45.bl a) (Int.toNat (nextI (rOf (A36.a a_1)) (A36.done a_1)
  (A36.b a_1)))) 0))) (K Exit.ret (sp 38 [] [Obj.box 27 (AV.agg [AV.agg [AV.str (A45.rel a), AV.lst 43 (A45.hl a)], AV.lst 46 (A45.bl a), AV.int (A45.line a)]),
  Obj.box 4 (AV.bool true), Obj.box 31 (AV.int 0), Obj.row 3 ws, Obj.box 27 (AV.agg [AV.agg [AV.str (A45.rel a), AV.lst 43 (A45.hl a)], AV.lst 46 (A45.bl a),
  AV.int (A45.line a)]), Dn.Obj.loop (lpA Tryz.prog 9 5 LoopState.done (some Code.ret) (spR (junks 63) [(0, AV.agg [AV.agg [AV.str (A45.rel a), AV.lst 43 (A45.hl
  a)], AV.lst 46 (A45.bl a), AV.int (A45.line a)]), (1, AV.ptr 0 0 [] 0), (2, AV.ptr 1 0 [] 0), (3, AV.ptr 2 0 [] 0), (4, AV.slc 3 0 (List.length ws)), (5,
  AV.int 0), (10, AV.tup [AV.slc 3 0 (List.length ws), AV.int 0]), (11, AV.agg [AV.agg [AV.str (A45.rel a), AV.lst 43 (A45.hl a)], AV.lst 46 (A45.bl a), AV.int
  (A45.line a)]), (12, AV.tup [AV.slc 3 0 (List.length ws), AV.int 0]), (13, AV.slc 3 0 (List.length ws)), (14, AV.int 0), (15, AV.int 0), (16, AV.bool false),
  (18, AV.agg [AV.agg [AV.str (A45.rel a), AV.lst 43 (A45.hl a)], AV.lst 46 (A45.bl a), AV.int (A45.line a)]), (19, AV.clo 56 [AV.ptr 4 0 [] 0])]))])) (cnd
  (decide ((0 : Int) ≤ nextI (rOf (A36.a a_1)) (A36.done a_1) (A36.b a_1)) && decide (nextI (rOf (A36.a a_1)) (A36.done a_1) (A36.b a_1) < (↑(List.length done) :
  Int))) (∃ (a_4 : A45 × Int), ([AV.agg [AV.agg [AV.str (A45.rel a), AV.lst 43 (A45.hl a)], AV.lst 46 (A45.bl a), AV.int (A45.line a)], AV.int (nextI (rOf (A36.a
  a_1)) (A36.done a_1) (A36.b a_1))], nilO) = ([AV.agg [AV.agg [AV.str (A45.rel (Prod.fst a_4)), AV.lst 43 (A45.hl (Prod.fst a_4))], AV.lst 46 (A45.bl (Prod.fst
  a_4)), AV.int (A45.line (Prod.fst a_4))], AV.int (Prod.snd a_4)], nilO) ∧ (rightR (rOf (Prod.fst a_4)) = true ∧ (cntL (tmsOf (ruleTs 43 (A45.hl (Prod.fst a_4))
  (A45.bl (Prod.fst a_4)))) ≤ 100000 ∧ List.length (A45.bl (Prod.fst a_4)) ≤ 100000) ∧ (0 : Int) ≤ Prod.snd a_4 ∧ Prod.snd a_4 < (↑(List.length (A45.bl (Prod.fst
  a_4))) : Int)) ∧ ∃ (a_5 : List AV × List (Value × AV)), ([AV.mp 0, AV.lst 9 (strs (gainsV (rOf (Prod.fst a_4)) (Int.toNat (Prod.snd a_4))))], [Dn.Obj.map 9 4
  (TA.es a_3)]) = ([AV.mp 0, AV.lst 9 (Prod.fst a_5)], [Dn.Obj.map 9 4 (Prod.snd a_5)]) ∧ side23 a_5 ∧ ∃ (m : Nat), m < n ∧ I m (sp 38 [(0, AV.yld 5), (1, AV.ptr
  4 0 [] 0), (3, AV.mp 6), (4, AV.slc 7 0 (List.length done)), (13, AV.int (↑(List.length (A45.bl a)) : Int)), (14, AV.int (IntKind.wrap IntKind.i64 (i + (1 :
  Int))))] [Obj.box 27 (AV.agg [AV.agg [AV.str (A45.rel a), AV.lst 43 (A45.hl a)], AV.lst 46 (A45.bl a), AV.int (A45.line a)]), Obj.box 4 (AV.bool false),
  Obj.box 31 (AV.int 0), Obj.row 3 ws, Obj.box 27 (AV.agg [AV.agg [AV.str (A45.rel a), AV.lst 43 (A45.hl a)], AV.lst 46 (A45.bl a), AV.int (A45.line a)]),
  Dn.Obj.loop (lpA Tryz.prog 9 5 LoopState.ready none (spR (junks 63) [(0, AV.agg [AV.agg [AV.str (A45.rel a), AV.lst 43 (A45.hl a)], AV.lst 46 (A45.bl a),
  AV.int (A45.line a)]), (1, AV.ptr 0 0 [] 0), (2, AV.ptr 1 0 [] 0), (3, AV.ptr 2 0 [] 0), (4, AV.slc 3 0 (List.length ws)), (5, AV.int 0), (10, AV.tup [AV.slc 3
  0 (List.length ws), AV.int 0]), (11, AV.agg [AV.agg [AV.str (A45.rel a), AV.lst 43 (A45.hl a)], AV.lst 46 (A45.bl a), AV.int (A45.line a)]), (12, AV.tup
  [AV.slc 3 0 (List.length ws), AV.int 0]), (13, AV.slc 3 0 (List.length ws)), (14, AV.int 0), (15, AV.int 0), (16, AV.bool false), (18, AV.agg [AV.agg [AV.str
  (A45.rel a), AV.lst 43 (A45.hl a)], AV.lst 46 (A45.bl a), AV.int (A45.line a)]), (19, AV.clo 56 [AV.ptr 4 0 [] 0])])), Dn.Obj.map 9 4 (putL (Prod.snd a_5)
  (Prod.fst a_5)), Obj.row 4 (setN (bools (A36.done a_1)) (0 + Int.toNat (nextI (rOf (A36.a a_1)) (A36.done a_1) (A36.b a_1))) (AV.bool true))])))))) (∃ (a_3 :
  TA), ([AV.mp 0, AV.agg [AV.int (toInt (fld (fld (nth (A45.bl a) (Int.toNat (nextI (rOf (A36.a a_1)) (A36.done a_1) (A36.b a_1)))) 3) 0)), AV.str (toStr (fld
  (fld (nth (A45.bl a) (Int.toNat (nextI (rOf (A36.a a_1)) (A36.done a_1) (A36.b a_1)))) 3) 1)), AV.int (toInt (fld (fld (nth (A45.bl a) (Int.toNat (nextI (rOf
  (A36.a a_1)) (A36.done a_1) (A36.b a_1)))) 3) 2)), AV.lst 43 (toLst (fld (fld (nth (A45.bl a) (Int.toNat (nextI (rOf (A36.a a_1)) (A36.done a_1) (A36.b a_1))))
  3) 3))], AV.agg [AV.int (toInt (fld (fld (nth (A45.bl a) (Int.toNat (nextI (rOf (A36.a a_1)) (A36.done a_1) (A36.b a_1)))) 2) 0)), AV.str (toStr (fld (fld (nth
  (A45.bl a) (Int.toNat (nextI (rOf (A36.a a_1)) (A36.done a_1) (A36.b a_1)))) 2) 1)), AV.int (toInt (fld (fld (nth (A45.bl a) (Int.toNat (nextI (rOf (A36.a
  a_1)) (A36.done a_1) (A36.b a_1)))) 2) 2)), AV.lst 43 (toLst (fld (fld (nth (A45.bl a) (Int.toNat (nextI (rOf (A36.a a_1)) (A36.done a_1) (A36.b a_1)))) 2)
  3))]], [Dn.Obj.map 9 4 (TA.es a_2)]) = ([AV.mp 0, AV.agg [AV.int (TA.o1 a_3), AV.str (TA.s1 a_3), AV.int (TA.n1 a_3), AV.lst 43 (TA.l1 a_3)], AV.agg [AV.int
  (TA.o2 a_3), AV.str (TA.s2 a_3), AV.int (TA.n2 a_3), AV.lst 43 (TA.l2 a_3)]], [Dn.Obj.map 9 4 (TA.es a_3)]) ∧ side20 a_3 ∧ brn (bindsS (TA.es a_3) (TA.x a_3)
  (TA.y a_3)) (brn (decide (toInt (fld (fld (nth (A45.bl a) (Int.toNat (nextI (rOf (A36.a a_1)) (A36.done a_1) (A36.b a_1)))) 2) 0) ≥ (5 : Int))) (K Exit.ret (sp
  38 [] [Obj.box 27 (AV.agg [AV.agg [AV.str (A45.rel a), AV.lst 43 (A45.hl a)], AV.lst 46 (A45.bl a), AV.int (A45.line a)]), Obj.box 4 (AV.bool true), Obj.box 31
  (AV.int 0), Obj.row 3 ws, Obj.box 27 (AV.agg [AV.agg [AV.str (A45.rel a), AV.lst 43 (A45.hl a)], AV.lst 46 (A45.bl a), AV.int (A45.line a)]), Dn.Obj.loop (lpA
  Tryz.prog 9 5 LoopState.done (some Code.ret) (spR (junks 63) [(0, AV.agg [AV.agg [AV.str (A45.rel a), AV.lst 43 (A45.hl a)], AV.lst 46 (A45.bl a), AV.int
  (A45.line a)]), (1, AV.ptr 0 0 [] 0), (2, AV.ptr 1 0 [] 0), (3, AV.ptr 2 0 [] 0), (4, AV.slc 3 0 (List.length ws)), (5, AV.int 0), (10, AV.tup [AV.slc 3 0
  (List.length ws), AV.int 0]), (11, AV.agg [AV.agg [AV.str (A45.rel a), AV.lst 43 (A45.hl a)], AV.lst 46 (A45.bl a), AV.int (A45.line a)]), (12, AV.tup [AV.slc
  3 0 (List.length ws), AV.int 0]), (13, AV.slc 3 0 (List.length ws)), (14, AV.int 0), (15, AV.int 0), (16, AV.bool false), (18, AV.agg [AV.agg [AV.str (A45.rel
  a), AV.lst 43 (A45.hl a)], AV.lst 46 (A45.bl a), AV.int (A45.line a)]), (19, AV.clo 56 [AV.ptr 4 0 [] 0])]))])) (brn (decide ((7 : Int) ≤ toInt (fld (nth
  (A45.bl a) (Int.toNat (nextI (rOf (A36.a a_1)) (A36.done a_1) (A36.b a_1)))) 0))) (K Exit.ret (sp 38 [] [Obj.box 27 (AV.agg [AV.agg [AV.str (A45.rel a), AV.lst
  43 (A45.hl a)], AV.lst 46 (A45.bl a), AV.int (A45.line a)]), Obj.box 4 (AV.bool true), Obj.box 31 (AV.int 0), Obj.row 3 ws, Obj.box 27 (AV.agg [AV.agg [AV.str
  (A45.rel a), AV.lst 43 (A45.hl a)], AV.lst 46 (A45.bl a), AV.int (A45.line a)]), Dn.Obj.loop (lpA Tryz.prog 9 5 LoopState.done (some Code.ret) (spR (junks 63)
  [(0, AV.agg [AV.agg [AV.str (A45.rel a), AV.lst 43 (A45.hl a)], AV.lst 46 (A45.bl a), AV.int (A45.line a)]), (1, AV.ptr 0 0 [] 0), (2, AV.ptr 1 0 [] 0), (3,
  AV.ptr 2 0 [] 0), (4, AV.slc 3 0 (List.length ws)), (5, AV.int 0), (10, AV.tup [AV.slc 3 0 (List.length ws), AV.int 0]), (11, AV.agg [AV.agg [AV.str (A45.rel
  a), AV.lst 43 (A45.hl a)], AV.lst 46 (A45.bl a), AV.int (A45.line a)]), (12, AV.tup [AV.slc 3 0 (List.length ws), AV.int 0]), (13, AV.slc 3 0 (List.length
  ws)), (14, AV.int 0), (15, AV.int 0), (16, AV.bool false), (18, AV.agg [AV.agg [AV.str (A45.rel a), AV.lst 43 (A45.hl a)], AV.lst 46 (A45.bl a), AV.int
  (A45.line a)]), (19, AV.clo 56 [AV.ptr 4 0 [] 0])]))])) (cnd (decide ((0 : Int) ≤ nextI (rOf (A36.a a_1)) (A36.done a_1) (A36.b a_1)) && decide (nextI (rOf
  (A36.a a_1)) (A36.done a_1) (A36.b a_1) < (↑(List.length done) : Int))) (∃ (a_4 : A45 × Int), ([AV.agg [AV.agg [AV.str (A45.rel a), AV.lst 43 (A45.hl a)],
  AV.lst 46 (A45.bl a), AV.int (A45.line a)], AV.int (nextI (rOf (A36.a a_1)) (A36.done a_1) (A36.b a_1))], nilO) = ([AV.agg [AV.agg [AV.str (A45.rel (Prod.fst
  a_4)), AV.lst 43 (A45.hl (Prod.fst a_4))], AV.lst 46 (A45.bl (Prod.fst a_4)), AV.int (A45.line (Prod.fst a_4))], AV.int (Prod.snd a_4)], nilO) ∧ (rightR (rOf
  (Prod.fst a_4)) = true ∧ (cntL (tmsOf (ruleTs 43 (A45.hl (Prod.fst a_4)) (A45.bl (Prod.fst a_4)))) ≤ 100000 ∧ List.length (A45.bl (Prod.fst a_4)) ≤ 100000) ∧
  (0 : Int) ≤ Prod.snd a_4 ∧ Prod.snd a_4 < (↑(List.length (A45.bl (Prod.fst a_4))) : Int)) ∧ ∃ (a_5 : List AV × List (Value × AV)), ([AV.mp 0, AV.lst 9 (strs
  (gainsV (rOf (Prod.fst a_4)) (Int.toNat (Prod.snd a_4))))], [Dn.Obj.map 9 4 (TA.es a_3)]) = ([AV.mp 0, AV.lst 9 (Prod.fst a_5)], [Dn.Obj.map 9 4 (Prod.snd
  a_5)]) ∧ side23 a_5 ∧ ∃ (m : Nat), m < n ∧ I m (sp 38 [(0, AV.yld 5), (1, AV.ptr 4 0 [] 0), (3, AV.mp 6), (4, AV.slc 7 0 (List.length done)), (13, AV.int
  (↑(List.length (A45.bl a)) : Int)), (14, AV.int (IntKind.wrap IntKind.i64 (i + (1 : Int))))] [Obj.box 27 (AV.agg [AV.agg [AV.str (A45.rel a), AV.lst 43 (A45.hl
  a)], AV.lst 46 (A45.bl a), AV.int (A45.line a)]), Obj.box 4 (AV.bool false), Obj.box 31 (AV.int 0), Obj.row 3 ws, Obj.box 27 (AV.agg [AV.agg [AV.str (A45.rel
  a), AV.lst 43 (A45.hl a)], AV.lst 46 (A45.bl a), AV.int (A45.line a)]), Dn.Obj.loop (lpA Tryz.prog 9 5 LoopState.ready none (spR (junks 63) [(0, AV.agg [AV.agg
  [AV.str (A45.rel a), AV.lst 43 (A45.hl a)], AV.lst 46 (A45.bl a), AV.int (A45.line a)]), (1, AV.ptr 0 0 [] 0), (2, AV.ptr 1 0 [] 0), (3, AV.ptr 2 0 [] 0), (4,
  AV.slc 3 0 (List.length ws)), (5, AV.int 0), (10, AV.tup [AV.slc 3 0 (List.length ws), AV.int 0]), (11, AV.agg [AV.agg [AV.str (A45.rel a), AV.lst 43 (A45.hl
  a)], AV.lst 46 (A45.bl a), AV.int (A45.line a)]), (12, AV.tup [AV.slc 3 0 (List.length ws), AV.int 0]), (13, AV.slc 3 0 (List.length ws)), (14, AV.int 0), (15,
  AV.int 0), (16, AV.bool false), (18, AV.agg [AV.agg [AV.str (A45.rel a), AV.lst 43 (A45.hl a)], AV.lst 46 (A45.bl a), AV.int (A45.line a)]), (19, AV.clo 56
  [AV.ptr 4 0 [] 0])])), Dn.Obj.map 9 4 (putL (Prod.snd a_5) (Prod.fst a_5)), Obj.row 4 (setN (bools (A36.done a_1)) (0 + Int.toNat (nextI (rOf (A36.a a_1))
  (A36.done a_1) (A36.b a_1))) (AV.bool true))]))))) (brn (decide ((7 : Int) ≤ toInt (fld (nth (A45.bl a) (Int.toNat (nextI (rOf (A36.a a_1)) (A36.done a_1)
  (A36.b a_1)))) 0))) (K Exit.ret (sp 38 [] [Obj.box 27 (AV.agg [AV.agg [AV.str (A45.rel a), AV.lst 43 (A45.hl a)], AV.lst 46 (A45.bl a), AV.int (A45.line a)]),
  Obj.box 4 (AV.bool true), Obj.box 31 (AV.int 0), Obj.row 3 ws, Obj.box 27 (AV.agg [AV.agg [AV.str (A45.rel a), AV.lst 43 (A45.hl a)], AV.lst 46 (A45.bl a),
  AV.int (A45.line a)]), Dn.Obj.loop (lpA Tryz.prog 9 5 LoopState.done (some Code.ret) (spR (junks 63) [(0, AV.agg [AV.agg [AV.str (A45.rel a), AV.lst 43 (A45.hl
  a)], AV.lst 46 (A45.bl a), AV.int (A45.line a)]), (1, AV.ptr 0 0 [] 0), (2, AV.ptr 1 0 [] 0), (3, AV.ptr 2 0 [] 0), (4, AV.slc 3 0 (List.length ws)), (5,
  AV.int 0), (10, AV.tup [AV.slc 3 0 (List.length ws), AV.int 0]), (11, AV.agg [AV.agg [AV.str (A45.rel a), AV.lst 43 (A45.hl a)], AV.lst 46 (A45.bl a), AV.int
  (A45.line a)]), (12, AV.tup [AV.slc 3 0 (List.length ws), AV.int 0]), (13, AV.slc 3 0 (List.length ws)), (14, AV.int 0), (15, AV.int 0), (16, AV.bool false),
  (18, AV.agg [AV.agg [AV.str (A45.rel a), AV.lst 43 (A45.hl a)], AV.lst 46 (A45.bl a), AV.int (A45.line a)]), (19, AV.clo 56 [AV.ptr 4 0 [] 0])]))])) (cnd
  (decide ((0 : Int) ≤ nextI (rOf (A36.a a_1)) (A36.done a_1) (A36.b a_1)) && decide (nextI (rOf (A36.a a_1)) (A36.done a_1) (A36.b a_1) < (↑(List.length done) :
  Int))) (∃ (a_4 : A45 × Int), ([AV.agg [AV.agg [AV.str (A45.rel a), AV.lst 43 (A45.hl a)], AV.lst 46 (A45.bl a), AV.int (A45.line a)], AV.int (nextI (rOf (A36.a
  a_1)) (A36.done a_1) (A36.b a_1))], nilO) = ([AV.agg [AV.agg [AV.str (A45.rel (Prod.fst a_4)), AV.lst 43 (A45.hl (Prod.fst a_4))], AV.lst 46 (A45.bl (Prod.fst
  a_4)), AV.int (A45.line (Prod.fst a_4))], AV.int (Prod.snd a_4)], nilO) ∧ (rightR (rOf (Prod.fst a_4)) = true ∧ (cntL (tmsOf (ruleTs 43 (A45.hl (Prod.fst a_4))
  (A45.bl (Prod.fst a_4)))) ≤ 100000 ∧ List.length (A45.bl (Prod.fst a_4)) ≤ 100000) ∧ (0 : Int) ≤ Prod.snd a_4 ∧ Prod.snd a_4 < (↑(List.length (A45.bl (Prod.fst
  a_4))) : Int)) ∧ ∃ (a_5 : List AV × List (Value × AV)), ([AV.mp 0, AV.lst 9 (strs (gainsV (rOf (Prod.fst a_4)) (Int.toNat (Prod.snd a_4))))], [Dn.Obj.map 9 4
  (TA.es a_3)]) = ([AV.mp 0, AV.lst 9 (Prod.fst a_5)], [Dn.Obj.map 9 4 (Prod.snd a_5)]) ∧ side23 a_5 ∧ ∃ (m : Nat), m < n ∧ I m (sp 38 [(0, AV.yld 5), (1, AV.ptr
  4 0 [] 0), (3, AV.mp 6), (4, AV.slc 7 0 (List.length done)), (13, AV.int (↑(List.length (A45.bl a)) : Int)), (14, AV.int (IntKind.wrap IntKind.i64 (i + (1 :
  Int))))] [Obj.box 27 (AV.agg [AV.agg [AV.str (A45.rel a), AV.lst 43 (A45.hl a)], AV.lst 46 (A45.bl a), AV.int (A45.line a)]), Obj.box 4 (AV.bool false),
  Obj.box 31 (AV.int 0), Obj.row 3 ws, Obj.box 27 (AV.agg [AV.agg [AV.str (A45.rel a), AV.lst 43 (A45.hl a)], AV.lst 46 (A45.bl a), AV.int (A45.line a)]),
  Dn.Obj.loop (lpA Tryz.prog 9 5 LoopState.ready none (spR (junks 63) [(0, AV.agg [AV.agg [AV.str (A45.rel a), AV.lst 43 (A45.hl a)], AV.lst 46 (A45.bl a),
  AV.int (A45.line a)]), (1, AV.ptr 0 0 [] 0), (2, AV.ptr 1 0 [] 0), (3, AV.ptr 2 0 [] 0), (4, AV.slc 3 0 (List.length ws)), (5, AV.int 0), (10, AV.tup [AV.slc 3
  0 (List.length ws), AV.int 0]), (11, AV.agg [AV.agg [AV.str (A45.rel a), AV.lst 43 (A45.hl a)], AV.lst 46 (A45.bl a), AV.int (A45.line a)]), (12, AV.tup
  [AV.slc 3 0 (List.length ws), AV.int 0]), (13, AV.slc 3 0 (List.length ws)), (14, AV.int 0), (15, AV.int 0), (16, AV.bool false), (18, AV.agg [AV.agg [AV.str
  (A45.rel a), AV.lst 43 (A45.hl a)], AV.lst 46 (A45.bl a), AV.int (A45.line a)]), (19, AV.clo 56 [AV.ptr 4 0 [] 0])])), Dn.Obj.map 9 4 (putL (Prod.snd a_5)
  (Prod.fst a_5)), Obj.row 4 (setN (bools (A36.done a_1)) (0 + Int.toNat (nextI (rOf (A36.a a_1)) (A36.done a_1) (A36.b a_1))) (AV.bool true))])))))) (brn
  (decide ((7 : Int) ≤ toInt (fld (nth (A45.bl a) (Int.toNat (nextI (rOf (A36.a a_1)) (A36.done a_1) (A36.b a_1)))) 0))) (K Exit.ret (sp 38 [] [Obj.box 27
  (AV.agg [AV.agg [AV.str (A45.rel a), AV.lst 43 (A45.hl a)], AV.lst 46 (A45.bl a), AV.int (A45.line a)]), Obj.box 4 (AV.bool true), Obj.box 31 (AV.int 0),
  Obj.row 3 ws, Obj.box 27 (AV.agg [AV.agg [AV.str (A45.rel a), AV.lst 43 (A45.hl a)], AV.lst 46 (A45.bl a), AV.int (A45.line a)]), Dn.Obj.loop (lpA Tryz.prog 9
  5 LoopState.done (some Code.ret) (spR (junks 63) [(0, AV.agg [AV.agg [AV.str (A45.rel a), AV.lst 43 (A45.hl a)], AV.lst 46 (A45.bl a), AV.int (A45.line a)]),
  (1, AV.ptr 0 0 [] 0), (2, AV.ptr 1 0 [] 0), (3, AV.ptr 2 0 [] 0), (4, AV.slc 3 0 (List.length ws)), (5, AV.int 0), (10, AV.tup [AV.slc 3 0 (List.length ws),
  AV.int 0]), (11, AV.agg [AV.agg [AV.str (A45.rel a), AV.lst 43 (A45.hl a)], AV.lst 46 (A45.bl a), AV.int (A45.line a)]), (12, AV.tup [AV.slc 3 0 (List.length
  ws), AV.int 0]), (13, AV.slc 3 0 (List.length ws)), (14, AV.int 0), (15, AV.int 0), (16, AV.bool false), (18, AV.agg [AV.agg [AV.str (A45.rel a), AV.lst 43
  (A45.hl a)], AV.lst 46 (A45.bl a), AV.int (A45.line a)]), (19, AV.clo 56 [AV.ptr 4 0 [] 0])]))])) (cnd (decide ((0 : Int) ≤ nextI (rOf (A36.a a_1)) (A36.done
  a_1) (A36.b a_1)) && decide (nextI (rOf (A36.a a_1)) (A36.done a_1) (A36.b a_1) < (↑(List.length done) : Int))) (∃ (a_2 : A45 × Int), ([AV.agg [AV.agg [AV.str
  (A45.rel a), AV.lst 43 (A45.hl a)], AV.lst 46 (A45.bl a), AV.int (A45.line a)], AV.int (nextI (rOf (A36.a a_1)) (A36.done a_1) (A36.b a_1))], nilO) = ([AV.agg
  [AV.agg [AV.str (A45.rel (Prod.fst a_2)), AV.lst 43 (A45.hl (Prod.fst a_2))], AV.lst 46 (A45.bl (Prod.fst a_2)), AV.int (A45.line (Prod.fst a_2))], AV.int
  (Prod.snd a_2)], nilO) ∧ (rightR (rOf (Prod.fst a_2)) = true ∧ (cntL (tmsOf (ruleTs 43 (A45.hl (Prod.fst a_2)) (A45.bl (Prod.fst a_2)))) ≤ 100000 ∧ List.length
  (A45.bl (Prod.fst a_2)) ≤ 100000) ∧ (0 : Int) ≤ Prod.snd a_2 ∧ Prod.snd a_2 < (↑(List.length (A45.bl (Prod.fst a_2))) : Int)) ∧ ∃ (a_3 : List AV × List (Value
  × AV)), ([AV.mp 0, AV.lst 9 (strs (gainsV (rOf (Prod.fst a_2)) (Int.toNat (Prod.snd a_2))))], [Dn.Obj.map 9 4 (setE (A36.b a_1))]) = ([AV.mp 0, AV.lst 9
  (Prod.fst a_3)], [Dn.Obj.map 9 4 (Prod.snd a_3)]) ∧ side23 a_3 ∧ ∃ (m : Nat), m < n ∧ I m (sp 38 [(0, AV.yld 5), (1, AV.ptr 4 0 [] 0), (3, AV.mp 6), (4, AV.slc
  7 0 (List.length done)), (13, AV.int (↑(List.length (A45.bl a)) : Int)), (14, AV.int (IntKind.wrap IntKind.i64 (i + (1 : Int))))] [Obj.box 27 (AV.agg [AV.agg
  [AV.str (A45.rel a), AV.lst 43 (A45.hl a)], AV.lst 46 (A45.bl a), AV.int (A45.line a)]), Obj.box 4 (AV.bool false), Obj.box 31 (AV.int 0), Obj.row 3 ws,
  Obj.box 27 (AV.agg [AV.agg [AV.str (A45.rel a), AV.lst 43 (A45.hl a)], AV.lst 46 (A45.bl a), AV.int (A45.line a)]), Dn.Obj.loop (lpA Tryz.prog 9 5
  LoopState.ready none (spR (junks 63) [(0, AV.agg [AV.agg [AV.str (A45.rel a), AV.lst 43 (A45.hl a)], AV.lst 46 (A45.bl a), AV.int (A45.line a)]), (1, AV.ptr 0
  0 [] 0), (2, AV.ptr 1 0 [] 0), (3, AV.ptr 2 0 [] 0), (4, AV.slc 3 0 (List.length ws)), (5, AV.int 0), (10, AV.tup [AV.slc 3 0 (List.length ws), AV.int 0]),
  (11, AV.agg [AV.agg [AV.str (A45.rel a), AV.lst 43 (A45.hl a)], AV.lst 46 (A45.bl a), AV.int (A45.line a)]), (12, AV.tup [AV.slc 3 0 (List.length ws), AV.int
  0]), (13, AV.slc 3 0 (List.length ws)), (14, AV.int 0), (15, AV.int 0), (16, AV.bool false), (18, AV.agg [AV.agg [AV.str (A45.rel a), AV.lst 43 (A45.hl a)],
  AV.lst 46 (A45.bl a), AV.int (A45.line a)]), (19, AV.clo 56 [AV.ptr 4 0 [] 0])])), Dn.Obj.map 9 4 (putL (Prod.snd a_3) (Prod.fst a_3)), Obj.row 4 (setN (bools
  (A36.done a_1)) (0 + Int.toNat (nextI (rOf (A36.a a_1)) (A36.done a_1) (A36.b a_1))) (AV.bool true))]))))))) (K (Exit.exit 0) (sp 38 [] [Obj.box 27 (AV.agg
  [AV.agg [AV.str (A45.rel a), AV.lst 43 (A45.hl a)], AV.lst 46 (A45.bl a), AV.int (A45.line a)]), Obj.box 4 (AV.bool false), Obj.box 31 (AV.int 0), Obj.row 3
  ws, Obj.box 27 (AV.agg [AV.agg [AV.str (A45.rel a), AV.lst 43 (A45.hl a)], AV.lst 46 (A45.bl a), AV.int (A45.line a)]), Dn.Obj.loop (lpA Tryz.prog 9 5
  LoopState.ready none (spR (junks 63) [(0, AV.agg [AV.agg [AV.str (A45.rel a), AV.lst 43 (A45.hl a)], AV.lst 46 (A45.bl a), AV.int (A45.line a)]), (1, AV.ptr 0
  0 [] 0), (2, AV.ptr 1 0 [] 0), (3, AV.ptr 2 0 [] 0), (4, AV.slc 3 0 (List.length ws)), (5, AV.int 0), (10, AV.tup [AV.slc 3 0 (List.length ws), AV.int 0]),
  (11, AV.agg [AV.agg [AV.str (A45.rel a), AV.lst 43 (A45.hl a)], AV.lst 46 (A45.bl a), AV.int (A45.line a)]), (12, AV.tup [AV.slc 3 0 (List.length ws), AV.int
  0]), (13, AV.slc 3 0 (List.length ws)), (14, AV.int 0), (15, AV.int 0), (16, AV.bool false), (18, AV.agg [AV.agg [AV.str (A45.rel a), AV.lst 43 (A45.hl a)],
  AV.lst 46 (A45.bl a), AV.int (A45.line a)]), (19, AV.clo 56 [AV.ptr 4 0 [] 0])]))]))) := by kernel_rfl
structure A8 where
  a : A45
  ws : List AV
  done : List Bool
  b : List ByteArray
  i : Int
noncomputable abbrev st8l (κ : Kp) (a : A8) : S := sp 38 [(0, .yld 5), (1, .ptr 4 0 [] 0), (3, .mp 6), (4, .slc 7 0 (bools a.done).length), (13, .int a.a.bl.length), (14, .int a.i)] (str8 κ a.a a.ws false .ready none ++ [.map 9 4 (setE a.b), .row 4 (bools a.done)])
def side8l (a : A8) : Prop := rightR (rOf a.a) = true ∧ side42 a.a ∧ 0 ≤ a.i ∧ a.i ≤ a.a.bl.length ∧ a.done.length = a.a.bl.length
noncomputable def inv8 (a : A8) : Bool := invL (rOf a.a) (a.a.bl.length - a.i.toNat) a.done a.b
noncomputable def out8l (κ : Kp) (a : A8) : Out (Exit × S) := .brn (inv8 a) (.one (.ret, sp 38 [] (str8 κ a.a a.ws true .done (some .ret)))) (.all (fun _ : Bool => True) fun e => .brn e (.one (.ret, sp 38 [] (str8 κ a.a a.ws false .ready none))) (.one (.exit 0, sp 38 [] (str8 κ a.a a.ws false .ready none))))
theorem invL_succ (r : Rl) (n : Nat) (done : List Bool) (b : List ByteArray) : invL r (n + 1) done b =
    bif decide (nextI r done b < 0) then false else invB r b (nextI r done b).toNat || invL r n (done.set (nextI r done b).toNat true) (b ++ gainsV r (nextI r done b).toNat) := rfl
theorem l8 (κ : Kp) : LoopOk (E10 κ) 12 56 3 (loopE 6 (st8l κ) side8l (out8l κ)) := by
  refine loopE_ok (fun a => a.a.bl.length - a.i.toNat) ?_
  rintro ⟨a, ws, done, b, i⟩ K ⟨h1, h2, h3, h4, h5⟩ ho
  simp only at h1 h2 h3 h4 h5
  rw [show (E10 κ).P = Pr κ from rfl]
  refine Eq.mpr (x8 κ a ws (setE b) (bools done) i _ _ K) ?_
  simp only [out8l, Out.run, brn_iff, inv8] at ho
  simp only [and_self]
  have hbl := bools_len done
  have hl := h2.2
  rw [brn_iff, decide_eq_true_eq, decide_eq_false_iff_not]
  refine ⟨fun hi => ⟨⟨a, done, b, 0, 0⟩, rfl, ⟨h1, h2, h5⟩, ?_⟩, fun hi => ?_⟩
  · have hw := invL_succ (rOf a) (a.bl.length - (i.toNat + 1)) done b
    rw [show a.bl.length - (i.toNat + 1) + 1 = a.bl.length - i.toNat by omega] at hw
    rw [brn_iff, decide_eq_true_eq, decide_eq_false_iff_not]
    refine ⟨fun e => ?_, fun e => ?_⟩
    · rw [hw, decide_eq_true e] at ho
      exact (ho.2 rfl true trivial).1 rfl
    · rw [hw, decide_eq_false e, cond_false] at ho
      rcases nextI_spec (rOf a) done b with e0 | ⟨e1, e2, e3, _⟩
      · rw [e0] at e; omega
      have e2' := e2
      rw [body_len] at e2'
      have hg := gains_len h2 e2'
      have hlit := side_lit h2 e2'
      have e2i : nextI (rOf a) done b < a.bl.length := by omega
      have hsd : side23 (strs (gainsV (rOf a) (nextI (rOf a) done b).toNat), setE b) := by simp only [side23, strs_len, maxI]; omega
      have hbnd : (decide (0 ≤ nextI (rOf a) done b) && decide (nextI (rOf a) done b < (a.bl.length : Int))) = true := by simp [e1, e2i]
      have hbnd2 : (decide (0 ≤ nextI (rOf a) done b) && decide (nextI (rOf a) done b < ((bools done).length : Int))) = true := by rw [hbl, h5]; exact hbnd
      have hlc : litC (ltOf (nth a.bl (nextI (rOf a) done b).toNat)) = cntL [tmOf (fld (nth a.bl (nextI (rOf a) done b).toNat) 2), tmOf (fld (nth a.bl (nextI (rOf a) done b).toNat) 3)] + cntL (tmsOf (toLst (fld (fld (nth a.bl (nextI (rOf a) done b).toNat) 1) 1))) := rfl
      have hcx : cntL [tmOf (fld (nth a.bl (nextI (rOf a) done b).toNat) 2)] ≤ 100000 ∧ cntL [tmOf (fld (nth a.bl (nextI (rOf a) done b).toNat) 3)] ≤ 100000 := by
        simp only [cntL] at hlc ⊢; omega
      have hx1 : side20 (taOf (fld (nth a.bl (nextI (rOf a) done b).toNat) 2) (fld (nth a.bl (nextI (rOf a) done b).toNat) 3) (setE b)) := by unfold side20 taOf; rw [taOf_y]; exact hcx.2
      have hx2 : side20 (taOf (fld (nth a.bl (nextI (rOf a) done b).toNat) 3) (fld (nth a.bl (nextI (rOf a) done b).toNat) 2) (setE b)) := by unfold side20 taOf; rw [taOf_y]; exact hcx.1
      have ta1 : bindsS (taOf (fld (nth a.bl (nextI (rOf a) done b).toNat) 2) (fld (nth a.bl (nextI (rOf a) done b).toNat) 3) (setE b)).es (taOf (fld (nth a.bl (nextI (rOf a) done b).toNat) 2) (fld (nth a.bl (nextI (rOf a) done b).toNat) 3) (setE b)).x (taOf (fld (nth a.bl (nextI (rOf a) done b).toNat) 2) (fld (nth a.bl (nextI (rOf a) done b).toNat) 3) (setE b)).y = bindsB b (tmOf (fld (nth a.bl (nextI (rOf a) done b).toNat) 2)) (tmOf (fld (nth a.bl (nextI (rOf a) done b).toNat) 3)) := by
        unfold taOf; rw [taOf_x, taOf_y, binds_set]
      have ta2 : bindsS (taOf (fld (nth a.bl (nextI (rOf a) done b).toNat) 3) (fld (nth a.bl (nextI (rOf a) done b).toNat) 2) (setE b)).es (taOf (fld (nth a.bl (nextI (rOf a) done b).toNat) 3) (fld (nth a.bl (nextI (rOf a) done b).toNat) 2) (setE b)).x (taOf (fld (nth a.bl (nextI (rOf a) done b).toNat) 3) (fld (nth a.bl (nextI (rOf a) done b).toNat) 2) (setE b)).y = bindsB b (tmOf (fld (nth a.bl (nextI (rOf a) done b).toNat) 3)) (tmOf (fld (nth a.bl (nextI (rOf a) done b).toNat) 2)) := by
        unfold taOf; rw [taOf_x, taOf_y, binds_set]
      have hinv : invB (rOf a) b (nextI (rOf a) done b).toNat = ((decide (toInt (fld (nth a.bl (nextI (rOf a) done b).toNat) 0) = 3) && (bindsB b (tmOf (fld (nth a.bl (nextI (rOf a) done b).toNat) 2)) (tmOf (fld (nth a.bl (nextI (rOf a) done b).toNat) 3)) && decide (toInt (fld (fld (nth a.bl (nextI (rOf a) done b).toNat) 3) 0) ≥ 5) || bindsB b (tmOf (fld (nth a.bl (nextI (rOf a) done b).toNat) 3)) (tmOf (fld (nth a.bl (nextI (rOf a) done b).toNat) 2)) && decide (toInt (fld (fld (nth a.bl (nextI (rOf a) done b).toNat) 2) 0) ≥ 5))) || decide (7 ≤ toInt (fld (nth a.bl (nextI (rOf a) done b).toNat) 0))) := by
        have o1 : (tmOf (fld (nth a.bl (nextI (rOf a) done b).toNat) 2)).op = toInt (fld (fld (nth a.bl (nextI (rOf a) done b).toNat) 2) 0) := by rw [tmOf_eq]; rfl
        have o2 : (tmOf (fld (nth a.bl (nextI (rOf a) done b).toNat) 3)).op = toInt (fld (fld (nth a.bl (nextI (rOf a) done b).toNat) 3) 0) := by rw [tmOf_eq]; rfl
        unfold invB
        rw [show (rOf a).body = ltsOf a.bl from rfl, nthLt_lts _ e2', show (ltOf (nth a.bl (nextI (rOf a) done b).toNat)).op = toInt (fld (nth a.bl (nextI (rOf a) done b).toNat) 0) from rfl, show (ltOf (nth a.bl (nextI (rOf a) done b).toNat)).x = tmOf (fld (nth a.bl (nextI (rOf a) done b).toNat) 2) from rfl, show (ltOf (nth a.bl (nextI (rOf a) done b).toNat)).y = tmOf (fld (nth a.bl (nextI (rOf a) done b).toNat) 3) from rfl, o1, o2]
      have h3t : (toInt (fld (nth a.bl (nextI (rOf a) done b).toNat) 0) == 3) = true → decide (toInt (fld (nth a.bl (nextI (rOf a) done b).toNat) 0) = 3) = true := fun e => by simpa using e
      have h3f : (toInt (fld (nth a.bl (nextI (rOf a) done b).toNat) 0) == 3) = false → decide (toInt (fld (nth a.bl (nextI (rOf a) done b).toNat) 0) = 3) = false := fun e => by simpa using e
      have ho1 : invB (rOf a) b (nextI (rOf a) done b).toNat = true → K .ret (sp 38 [] (str8 κ a ws true .done (some .ret))) := fun e => ho.1 (by rw [e]; rfl)
      have nx : invB (rOf a) b (nextI (rOf a) done b).toNat = false → ∃ m, m < a.bl.length - i.toNat ∧ invOf (st8l κ) side8l (out8l κ) (fun a => a.a.bl.length - a.i.toNat) K m (sp 38 [(0, .yld 5), (1, .ptr 4 0 [] 0), (3, .mp 6), (4, .slc 7 0 (bools done).length), (13, .int a.bl.length), (14, .int (IntKind.wrap .i64 (i + 1)))] (str8 κ a ws false .ready none ++ [.map 9 4 (putL (setE b) (strs (gainsV (rOf a) (nextI (rOf a) done b).toNat))), .row 4 (setN (bools done) (0 + (nextI (rOf a) done b).toNat) (.lit (.bool true)))])) := by
        intro e
        rw [e, Bool.false_or] at ho
        rw [wrap_ok (n := i + 1) (by omega) (by omega)]
        refine ⟨_, ?_, ⟨a, ws, done.set (nextI (rOf a) done b).toNat true, b ++ gainsV (rOf a) (nextI (rOf a) done b).toNat, i + 1⟩, ?_, ⟨h1, h2, by simp only; omega, by simp only; omega, by simpa using h5⟩, rfl, ?_⟩
        · simp only; omega
        · simp only [st8l, Nat.zero_add, setN_bools, setE_app, bools_len, List.length_set]
        · simp only [out8l, Out.run, brn_iff, inv8, show (i + 1).toNat = i.toNat + 1 by omega]
          exact ho
      rw [cnd_iff]
      refine ⟨hbnd, ?_⟩
      rw [brn_iff]
      exact ⟨fun f3 => ⟨taOf (fld (nth a.bl (nextI (rOf a) done b).toNat) 2) (fld (nth a.bl (nextI (rOf a) done b).toNat) 3) (setE b), rfl, hx1, by
      rw [ta1]
      exact brn_iff.2 ⟨fun g1 => brn_iff.2 ⟨fun g4 => ho1 (by rw [hinv, h3t f3, g1, g4]; simp), fun g4 => ⟨taOf (fld (nth a.bl (nextI (rOf a) done b).toNat) 3) (fld (nth a.bl (nextI (rOf a) done b).toNat) 2) (setE b), rfl, hx2, by
      rw [ta2]
      exact brn_iff.2 ⟨fun g2 => brn_iff.2 ⟨fun g3 => ho1 (by rw [hinv, h3t f3, g1, g4, g2, g3]; simp), fun g3 => brn_iff.2 ⟨fun f7 => ho1 (by rw [hinv, h3t f3, g1, g4, g2, g3, f7]; simp), fun f7 => cnd_iff.2 ⟨hbnd2, (a, (nextI (rOf a) done b)), rfl, ⟨h1, h2, e1, e2i⟩, (strs (gainsV (rOf a) (nextI (rOf a) done b).toNat), setE b), rfl, hsd, nx (by rw [hinv, h3t f3, g1, g4, g2, g3, f7]; simp)⟩⟩⟩, fun g2 => brn_iff.2 ⟨fun f7 => ho1 (by rw [hinv, h3t f3, g1, g4, g2, f7]; simp), fun f7 => cnd_iff.2 ⟨hbnd2, (a, (nextI (rOf a) done b)), rfl, ⟨h1, h2, e1, e2i⟩, (strs (gainsV (rOf a) (nextI (rOf a) done b).toNat), setE b), rfl, hsd, nx (by rw [hinv, h3t f3, g1, g4, g2, f7]; simp)⟩⟩⟩⟩⟩, fun g1 => ⟨taOf (fld (nth a.bl (nextI (rOf a) done b).toNat) 3) (fld (nth a.bl (nextI (rOf a) done b).toNat) 2) (setE b), rfl, hx2, by
      rw [ta2]
      exact brn_iff.2 ⟨fun g2 => brn_iff.2 ⟨fun g3 => ho1 (by rw [hinv, h3t f3, g1, g2, g3]; simp), fun g3 => brn_iff.2 ⟨fun f7 => ho1 (by rw [hinv, h3t f3, g1, g2, g3, f7]; simp), fun f7 => cnd_iff.2 ⟨hbnd2, (a, (nextI (rOf a) done b)), rfl, ⟨h1, h2, e1, e2i⟩, (strs (gainsV (rOf a) (nextI (rOf a) done b).toNat), setE b), rfl, hsd, nx (by rw [hinv, h3t f3, g1, g2, g3, f7]; simp)⟩⟩⟩, fun g2 => brn_iff.2 ⟨fun f7 => ho1 (by rw [hinv, h3t f3, g1, g2, f7]; simp), fun f7 => cnd_iff.2 ⟨hbnd2, (a, (nextI (rOf a) done b)), rfl, ⟨h1, h2, e1, e2i⟩, (strs (gainsV (rOf a) (nextI (rOf a) done b).toNat), setE b), rfl, hsd, nx (by rw [hinv, h3t f3, g1, g2, f7]; simp)⟩⟩⟩⟩⟩⟩, fun f3 => brn_iff.2 ⟨fun f7 => ho1 (by rw [hinv, h3f f3, f7]; simp), fun f7 => cnd_iff.2 ⟨hbnd2, (a, (nextI (rOf a) done b)), rfl, ⟨h1, h2, e1, e2i⟩, (strs (gainsV (rOf a) (nextI (rOf a) done b).toNat), setE b), rfl, hsd, nx (by rw [hinv, h3f f3, f7]; simp)⟩⟩⟩
  · rw [show a.bl.length - i.toNat = 0 by omega] at ho
    exact (ho.2 rfl false trivial).2 rfl
noncomputable def E8l (κ : Kp) : Env := (E10 κ).addLoop 56 3 (loopE 6 (st8l κ) side8l (out8l κ))
theorem e8l (κ : Kp) : EnvOK (E8l κ) := (e10 κ).addLoop (m10 κ) (l8 κ)
theorem m8l (κ : Kp) : EnvMono (E8l κ) := (m10 κ).addLoop loopE_mono
theorem y8 (κ : Kp) (a : A45) (K : AV → List Dn.Obj → Prop) : (funA (E8l κ) 12 9 [rl45 a] [] K) = (
  ∃ (a_1 : A45), ([AV.agg [AV.agg [AV.str (A45.rel a), AV.lst 43 (A45.hl a)], AV.lst 46 (A45.bl a), AV.int (A45.line a)]], nilO) = ([AV.agg [AV.agg [AV.str
  (A45.rel a_1), AV.lst 43 (A45.hl a_1)], AV.lst 46 (A45.bl a_1), AV.int (A45.line a_1)]], nilO) ∧ (cntL (tmsOf (ruleTs 43 (A45.hl a_1) (A45.bl a_1))) ≤ 100000 ∧
  List.length (A45.bl a_1) ≤ 100000) ∧ brn (rightR (rOf a_1)) (brn (safeR (rOf a_1)) (cnd (true && decide ((↑(List.length (A45.bl a)) : Int) ≤ (↑(List.length
  (A45.bl a)) : Int)) && decide ((Int.toNat (↑(List.length (A45.bl a)) : Int) + 1) * 2 ≤ 70368744177664) && true) (loopCode (Pg.toProgram (Env.P (E10 κ))) 56 3 =
  loopCode (Pg.toProgram (Env.P (E10 κ))) 56 3 ∧ ∃ (a_2 : A8), sp 38 [(0, AV.yld 5), (1, AV.ptr 4 0 [] 0), (3, AV.mp 6), (4, AV.slc 7 0 (Int.toNat (↑(List.length
  (A45.bl a)) : Int))), (13, AV.int (↑(List.length (A45.bl a)) : Int)), (14, AV.int 0)] [Obj.box 27 (AV.agg [AV.agg [AV.str (A45.rel a), AV.lst 43 (A45.hl a)],
  AV.lst 46 (A45.bl a), AV.int (A45.line a)]), Obj.box 4 (AV.bool false), Obj.box 31 (AV.int 0), Obj.row 3 (ints (walkR (rOf a_1))), Obj.box 27 (AV.agg [AV.agg
  [AV.str (A45.rel a), AV.lst 43 (A45.hl a)], AV.lst 46 (A45.bl a), AV.int (A45.line a)]), Dn.Obj.loop (lpA Tryz.prog 9 5 LoopState.ready none (spR (junks 63)
  [(0, AV.agg [AV.agg [AV.str (A45.rel a), AV.lst 43 (A45.hl a)], AV.lst 46 (A45.bl a), AV.int (A45.line a)]), (1, AV.ptr 0 0 [] 0), (2, AV.ptr 1 0 [] 0), (3,
  AV.ptr 2 0 [] 0), (4, AV.slc 3 0 (List.length (walkR (rOf a_1)))), (5, AV.int 0), (10, AV.tup [AV.slc 3 0 (List.length (walkR (rOf a_1))), AV.int 0]), (11,
  AV.agg [AV.agg [AV.str (A45.rel a), AV.lst 43 (A45.hl a)], AV.lst 46 (A45.bl a), AV.int (A45.line a)]), (12, AV.tup [AV.slc 3 0 (List.length (walkR (rOf
  a_1))), AV.int 0]), (13, AV.slc 3 0 (List.length (walkR (rOf a_1)))), (14, AV.int 0), (15, AV.int 0), (16, AV.bool false), (18, AV.agg [AV.agg [AV.str (A45.rel
  a), AV.lst 43 (A45.hl a)], AV.lst 46 (A45.bl a), AV.int (A45.line a)]), (19, AV.clo 56 [AV.ptr 4 0 [] 0])])), Dn.Obj.map 9 4 [], Obj.row 4 (zerosA (AV.bool
  false) (Int.toNat (↑(List.length (A45.bl a)) : Int)))] = sp 38 [(0, AV.yld 5), (1, AV.ptr 4 0 [] 0), (3, AV.mp 6), (4, AV.slc 7 0 (List.length (bools (A8.done
  a_2)))), (13, AV.int (↑(List.length (A45.bl (A8.a a_2))) : Int)), (14, AV.int (A8.i a_2))] [Obj.box 27 (AV.agg [AV.agg [AV.str (A45.rel (A8.a a_2)), AV.lst 43
  (A45.hl (A8.a a_2))], AV.lst 46 (A45.bl (A8.a a_2)), AV.int (A45.line (A8.a a_2))]), Obj.box 4 (AV.bool false), Obj.box 31 (AV.int 0), Obj.row 3 (A8.ws a_2),
  Obj.box 27 (AV.agg [AV.agg [AV.str (A45.rel (A8.a a_2)), AV.lst 43 (A45.hl (A8.a a_2))], AV.lst 46 (A45.bl (A8.a a_2)), AV.int (A45.line (A8.a a_2))]),
  Dn.Obj.loop (lpA Tryz.prog 9 5 LoopState.ready none (spR (junks 63) [(0, AV.agg [AV.agg [AV.str (A45.rel (A8.a a_2)), AV.lst 43 (A45.hl (A8.a a_2))], AV.lst 46
  (A45.bl (A8.a a_2)), AV.int (A45.line (A8.a a_2))]), (1, AV.ptr 0 0 [] 0), (2, AV.ptr 1 0 [] 0), (3, AV.ptr 2 0 [] 0), (4, AV.slc 3 0 (List.length (A8.ws
  a_2))), (5, AV.int 0), (10, AV.tup [AV.slc 3 0 (List.length (A8.ws a_2)), AV.int 0]), (11, AV.agg [AV.agg [AV.str (A45.rel (A8.a a_2)), AV.lst 43 (A45.hl (A8.a
  a_2))], AV.lst 46 (A45.bl (A8.a a_2)), AV.int (A45.line (A8.a a_2))]), (12, AV.tup [AV.slc 3 0 (List.length (A8.ws a_2)), AV.int 0]), (13, AV.slc 3 0
  (List.length (A8.ws a_2))), (14, AV.int 0), (15, AV.int 0), (16, AV.bool false), (18, AV.agg [AV.agg [AV.str (A45.rel (A8.a a_2)), AV.lst 43 (A45.hl (A8.a
  a_2))], AV.lst 46 (A45.bl (A8.a a_2)), AV.int (A45.line (A8.a a_2))]), (19, AV.clo 56 [AV.ptr 4 0 [] 0])])), Dn.Obj.map 9 4 (setE (A8.b a_2)), Obj.row 4 (bools
  (A8.done a_2))] ∧ (rightR (rOf (A8.a a_2)) = true ∧ (cntL (tmsOf (ruleTs 43 (A45.hl (A8.a a_2)) (A45.bl (A8.a a_2)))) ≤ 100000 ∧ List.length (A45.bl (A8.a
  a_2)) ≤ 100000) ∧ (0 : Int) ≤ A8.i a_2 ∧ A8.i a_2 ≤ (↑(List.length (A45.bl (A8.a a_2))) : Int) ∧ List.length (A8.done a_2) = List.length (A45.bl (A8.a a_2))) ∧
  brn (inv8 a_2) (K (AV.tup [AV.bool true, AV.int 0]) []) (∀ (y : Bool), True → brn y (K (AV.tup [AV.bool false, AV.int 0]) []) (K (AV.tup [AV.bool false, AV.int
  0]) [])))) (K (AV.tup [AV.bool false, AV.int 60]) [])) (K (AV.tup [AV.bool false, AV.int 30]) [])) := by kernel_rfl
def out8 (a : A45) : Out (AV × List Dn.Obj) := .brn (rightR (rOf a)) (.brn (safeR (rOf a)) (.one (.tup [.bool (invR (rOf a)), .int 0], [])) (.one (.tup [.bool false, .int 60], []))) (.one (.tup [.bool false, .int 30], []))
theorem c8 (κ : Kp) : CallOk (E8l κ) 12 9 (callE st17 side42 out8) := by
  refine callE_ok ?_
  rintro a K h2 ho
  refine Eq.mpr (y8 κ a K) ?_
  simp only [out8, Out.run, brn_iff] at ho
  have hl := h2.2
  refine ⟨a, rfl, h2, ?_⟩
  rw [brn_iff]
  refine ⟨fun e1 => ?_, fun e1 => ho.2 e1⟩
  rw [brn_iff]
  refine ⟨fun e2 => ?_, fun e2 => (ho.1 e1).2 e2⟩
  have hw := walk_full e2
  have ho1 := (ho.1 e1).1 e2
  simp only [cnd_iff, Bool.and_eq_true, decide_eq_true_eq, Int.toNat_natCast]
  have hi : inv8 ⟨a, ints (walkR (rOf a)), List.replicate a.bl.length false, [], 0⟩ = invR (rOf a) := by
    unfold inv8 invR
    rw [body_len]; rfl
  refine ⟨⟨⟨⟨trivial, by omega⟩, by omega⟩, trivial⟩, trivial, ⟨a, ints (walkR (rOf a)), List.replicate a.bl.length false, [], 0⟩, ?_, ⟨e1, h2, by simp only; omega, by simp only; omega, by simp⟩, ?_⟩
  · simp only [zeros_bools, bools_len, ints_len, List.length_replicate]; rfl
  · rw [hi, brn_iff]
    refine ⟨fun e => by rw [e] at ho1; exact ho1, fun e y _ => ?_⟩
    rw [e] at ho1
    cases y
    · exact ho1
    · exact ho1
noncomputable def E8 (κ : Kp) : Env := (E8l κ).addCall 9 (callE st17 side42 out8)
theorem e8 (κ : Kp) : EnvOK (E8 κ) := (e8l κ).addCall (m8l κ) (c8 κ)
theorem m8 (κ : Kp) : EnvMono (E8 κ) := (m8l κ).addCall callE_mono
end Go.Proofs.YtpgahkbkfflkaaaGreatDoor
namespace Go.Proofs.YtpgahkbkfflkaaaGreatDoor
open Go Go.Dn Go.Rl Go.Proofs
attribute [local irreducible] funA vc
set_option maxRecDepth 20000
def g54 : List AV → Option (Bool × AV)
  | [.agg [.lit (.int .i64 op), .lit (.string s), .lit (.int .i64 n), .lst 43 l], .lit (.int .i64 left)] => some (decide (0 ≤ left) && decide (left ≤ 100000), .int ((Tm.mk op s n (tmsOf l)).size left))
  | _ => none
def μ54 : List AV → Nat
  | [.agg [_, _, _, .lst _ l], _] => cntL (tmsOf l)
  | _ => 0
noncomputable def E54p (κ : Kp) (n : Nat) : Env := (E8 κ).addPure 66 (below g54 μ54 n)
structure A54 where
  op : Int
  s : ByteArray
  n : Int
  l : List AV
  left : Int
  i : Int
abbrev st54l (a : A54) : S := sp 31 [(1, .int a.left), (2, .ptr 0 0 [] 0), (5, .int a.i)] [.box 43 (.agg [.int a.op, .lit (.string a.s), .int a.n, .lst 43 a.l])]
theorem x54 (κ : Kp) (r : Nat) (a : A54) (I : Nat → S → Prop) (n : Nat) (K : Exit → S → Prop) : (vc (E54p κ r) 12 66 none 0 (loopCode (Pr κ).toProgram 66 5) (st54l a) (loopK (E54p κ r) 66 5 0 I n K)) = (
  brn (decide (A54.i a < (↑(List.length (A54.l a)) : Int))) (brn (decide (A54.left a ≥ (0 : Int))) (cnd (decide ((0 : Int) ≤ A54.i a) && decide (A54.i a <
  (↑(List.length (A54.l a)) : Int))) (cnd (decide ((0 : Int) ≤ A54.left a) && decide (A54.left a ≤ (100000 : Int)) && Nat.blt (μ54 [AV.agg [AV.int (toInt (fld
  (nth (A54.l a) (Int.toNat (A54.i a))) 0)), AV.str (toStr (fld (nth (A54.l a) (Int.toNat (A54.i a))) 1)), AV.int (toInt (fld (nth (A54.l a) (Int.toNat (A54.i
  a))) 2)), AV.lst 43 (toLst (fld (nth (A54.l a) (Int.toNat (A54.i a))) 3))], AV.int (A54.left a)]) r) (∃ (m : Nat), m < n ∧ I m (sp 31 [(1, AV.int (Tm.size
  (Tm.mk (toInt (fld (nth (A54.l a) (Int.toNat (A54.i a))) 0)) (toStr (fld (nth (A54.l a) (Int.toNat (A54.i a))) 1)) (toInt (fld (nth (A54.l a) (Int.toNat (A54.i
  a))) 2)) (tmsOf (toLst (fld (nth (A54.l a) (Int.toNat (A54.i a))) 3)))) (A54.left a))), (2, AV.ptr 0 0 [] 0), (5, AV.int (IntKind.wrap IntKind.i64 (A54.i a +
  (1 : Int))))] [Obj.box 43 (AV.agg [AV.int (A54.op a), AV.str (A54.s a), AV.int (A54.n a), AV.lst 43 (A54.l a)])])))) (K (Exit.exit 0) (sp 31 [(1, AV.int
  (A54.left a))] []))) (K (Exit.exit 0) (sp 31 [(1, AV.int (A54.left a))] []))) := by kernel_rfl
def side54l (r : Nat) (a : A54) : Prop := -1 ≤ a.left ∧ a.i + a.left ≤ 100000 ∧ 0 ≤ a.i ∧ a.i ≤ a.l.length ∧ cntL (tmsOf (a.l.drop a.i.toNat)) ≤ r
def out54l (a : A54) : Out (Exit × S) := .one (.exit 0, sp 31 [(1, .int (sizeL (tmsOf (a.l.drop a.i.toNat)) a.left))] [])
theorem l54 (κ : Kp) (r : Nat) : LoopOk (E54p κ r) 12 66 5 (loopE 0 st54l (side54l r) out54l) := by
  refine loopE_ok (fun a => a.l.length - a.i.toNat) ?_
  rintro ⟨op, s, n, l, left, i⟩ K ⟨h1, h2, h3, h4, h5⟩ ho
  simp only at h1 h2 h3 h4 h5
  rw [show (E54p κ r).P = Pr κ from rfl]
  refine Eq.mpr (x54 κ r ⟨op, s, n, l, left, i⟩ _ _ K) ?_
  simp only [out54l, Out.run] at ho
  simp only [brn_iff, cnd_iff, decide_eq_true_eq, decide_eq_false_iff_not, Bool.and_eq_true, Nat.blt_eq, ← tmOf_eq]
  refine ⟨fun hi => ⟨fun hl => ⟨⟨h3, hi⟩, ?_⟩, fun hl => ?_⟩, fun hi => ?_⟩
  · have hc := cnt_drop l i.toNat (by omega)
    have hz := Tm.size_le (tmOf (nth l i.toNat)) left hl
    have hp : (tmOf (nth l i.toNat)).cnt = 1 + cntL (tmsOf (toLst (fld (nth l i.toNat) 3))) := by rw [tmOf_eq, Tm.cnt]
    rw [tms_drop l i.toNat (by omega), sizeL, decide_eq_true hl, cond_true] at ho
    rw [wrap_ok (n := i + 1) (by omega) (by omega)]
    refine ⟨⟨⟨hl, by omega⟩, by simp only [μ54]; omega⟩, _, ?_, ⟨op, s, n, l, (tmOf (nth l i.toNat)).size left, i + 1⟩, rfl, ⟨by simp only; omega, by simp only; omega, by simp only; omega, by simp only; omega, ?_⟩, rfl, ?_⟩
    · simp only; omega
    · simp only [show (i + 1).toNat = i.toNat + 1 by omega]; omega
    · simp only [out54l, Out.run, show (i + 1).toNat = i.toNat + 1 by omega]
      exact ho
  · rw [tms_drop l i.toNat (by omega), sizeL, decide_eq_false (show ¬ 0 ≤ left from hl), cond_false] at ho
    exact ho
  · rw [List.drop_eq_nil_of_le (by omega)] at ho
    exact ho
noncomputable def E54r (κ : Kp) (r : Nat) : Env := (E54p κ r).addLoop 66 5 (loopE 0 st54l (side54l r) out54l)
theorem y54 (κ : Kp) (r : Nat) (op : Int) (s : ByteArray) (n : Int) (l : List AV) (left : Int) (K : AV → List Dn.Obj → Prop) : (funA (E54r κ r) 12 66 [.agg [.int op, .lit (.string s), .int n, .lst 43 l], .int left] [] K) = (
  brn (decide ((↑(ByteArray.size s) : Int) > (1000 : Int))) (K (AV.int (-1)) []) (loopCode (Pg.toProgram (Env.P (E54p κ r))) 66 5 = loopCode (Pg.toProgram (Env.P
  (E54p κ r))) 66 5 ∧ ∃ (a : A54), sp 31 [(1, AV.int (IntKind.wrap IntKind.i64 (left - (1 : Int)))), (2, AV.ptr 0 0 [] 0), (5, AV.int 0)] [Obj.box 43 (AV.agg
  [AV.int op, AV.str s, AV.int n, AV.lst 43 l])] = sp 31 [(1, AV.int (A54.left a)), (2, AV.ptr 0 0 [] 0), (5, AV.int (A54.i a))] [Obj.box 43 (AV.agg [AV.int
  (A54.op a), AV.str (A54.s a), AV.int (A54.n a), AV.lst 43 (A54.l a)])] ∧ ((-1 : Int) ≤ A54.left a ∧ A54.i a + A54.left a ≤ (100000 : Int) ∧ (0 : Int) ≤ A54.i a
  ∧ A54.i a ≤ (↑(List.length (A54.l a)) : Int) ∧ cntL (tmsOf (List.drop (Int.toNat (A54.i a)) (A54.l a))) ≤ r) ∧ K (AV.int (sizeL (tmsOf (List.drop (Int.toNat
  (A54.i a)) (A54.l a))) (A54.left a))) [])) := by kernel_rfl
theorem e54r (κ : Kp) (r : Nat) (hp : PureSim (Pr κ) 66 (below g54 μ54 r)) : EnvOK (E54r κ r) ∧ EnvMono (E54r κ r) ∧ (E54r κ r).P = Pr κ :=
  have h : EnvOK (E54p κ r) := (e8 κ).addPureSim hp
  have hm : EnvMono (E54p κ r) := (m8 κ).addPure
  ⟨h.addLoop hm (l54 κ r), hm.addLoop loopE_mono, rfl⟩
theorem p54 (κ : Kp) (r : Nat) : PureOk (E54r κ r) 12 66 (fun xs => bif Nat.beq (μ54 xs) r then g54 xs else none) := by
  intro args x hh
  cases hb : Nat.beq (μ54 args) r with
  | false => simp only [hb] at hh; cases hh
  | true =>
    simp only [hb, cond_true] at hh
    unfold g54 at hh
    split at hh
    · rename_i op s n l left
      simp only [Option.some.injEq, Prod.mk.injEq, Bool.and_eq_true, decide_eq_true_eq] at hh
      obtain ⟨⟨h1, h2⟩, rfl⟩ := hh
      have hr : cntL (tmsOf l) = r := Nat.eq_of_beq_eq_true hb
      refine ⟨_, rfl, rfl, ?_⟩
      refine Eq.mpr (y54 κ r op s n l left _) ?_
      rw [brn_iff, decide_eq_true_eq, decide_eq_false_iff_not]
      refine ⟨fun e => ?_, fun e => ?_⟩
      · unfold Tm.size; rw [decide_eq_true (show (1000 : Int) < s.size from e)]; rfl
      · rw [wrap_ok (n := left - 1) (by omega) (by omega)]
        refine ⟨rfl, ⟨op, s, n, l, left - 1, 0⟩, rfl, ⟨by simp only; omega, by simp only; omega, by simp only; omega, by simp only; omega, ?_⟩, ?_⟩
        · simp only [Int.toNat_zero, List.drop_zero]; omega
        · unfold Tm.size; rw [decide_eq_false (show ¬ (1000 : Int) < s.size from e)]; rfl
    · cases hh
theorem q54 (κ : Kp) : PureSim (Pr κ) 66 g54 := EnvOK.addPureRec g54 μ54 (E54r κ) (e54r κ) (p54 κ)
noncomputable def E54 (κ : Kp) : Env := (E8 κ).addPure 66 g54
theorem e54 (κ : Kp) : EnvOK (E54 κ) := (e8 κ).addPureSim (q54 κ)
theorem m54 (κ : Kp) : EnvMono (E54 κ) := (m8 κ).addPure
structure A53 where
  s : ByteArray
  l : List AV
  left : Int
  i : Int
abbrev st53l (a : A53) : S := sp 29 [(1, .int a.left), (2, .ptr 0 0 [] 0), (5, .int a.i)] [.box 24 (.agg [.lit (.string a.s), .lst 43 a.l])]
theorem x53 (κ : Kp) (a : A53) (I : Nat → S → Prop) (n : Nat) (K : Exit → S → Prop) : (vc (E54 κ) 12 65 none 0 (loopCode (Pr κ).toProgram 65 4) (st53l a) (loopK (E54 κ) 65 4 0 I n K)) = (
  brn (decide (A53.i a < (↑(List.length (A53.l a)) : Int))) (brn (decide (A53.left a ≥ (0 : Int))) (cnd (decide ((0 : Int) ≤ A53.i a) && decide (A53.i a <
  (↑(List.length (A53.l a)) : Int))) (cnd (decide ((0 : Int) ≤ A53.left a) && decide (A53.left a ≤ (100000 : Int))) (∃ (m : Nat), m < n ∧ I m (sp 29 [(1, AV.int
  (Tm.size (Tm.mk (toInt (fld (nth (A53.l a) (Int.toNat (A53.i a))) 0)) (toStr (fld (nth (A53.l a) (Int.toNat (A53.i a))) 1)) (toInt (fld (nth (A53.l a)
  (Int.toNat (A53.i a))) 2)) (tmsOf (toLst (fld (nth (A53.l a) (Int.toNat (A53.i a))) 3)))) (A53.left a))), (2, AV.ptr 0 0 [] 0), (5, AV.int (IntKind.wrap
  IntKind.i64 (A53.i a + (1 : Int))))] [Obj.box 24 (AV.agg [AV.str (A53.s a), AV.lst 43 (A53.l a)])])))) (K (Exit.exit 0) (sp 29 [(1, AV.int (A53.left a))] [])))
  (K (Exit.exit 0) (sp 29 [(1, AV.int (A53.left a))] []))) := by kernel_rfl
def side53l (a : A53) : Prop := -1 ≤ a.left ∧ a.i + a.left ≤ 100000 ∧ 0 ≤ a.i ∧ a.i ≤ a.l.length
def out53l (a : A53) : Out (Exit × S) := .one (.exit 0, sp 29 [(1, .int (sizeL (tmsOf (a.l.drop a.i.toNat)) a.left))] [])
theorem l53 (κ : Kp) : LoopOk (E54 κ) 12 65 4 (loopE 0 st53l side53l out53l) := by
  refine loopE_ok (fun a => a.l.length - a.i.toNat) ?_
  rintro ⟨s, l, left, i⟩ K ⟨h1, h2, h3, h4⟩ ho
  simp only at h1 h2 h3 h4
  rw [show (E54 κ).P = Pr κ from rfl]
  refine Eq.mpr (x53 κ ⟨s, l, left, i⟩ _ _ K) ?_
  simp only [out53l, Out.run] at ho
  simp only [brn_iff, cnd_iff, decide_eq_true_eq, decide_eq_false_iff_not, Bool.and_eq_true, ← tmOf_eq]
  refine ⟨fun hi => ⟨fun hl => ⟨⟨h3, hi⟩, ?_⟩, fun hl => ?_⟩, fun hi => ?_⟩
  · have hz := Tm.size_le (tmOf (nth l i.toNat)) left hl
    rw [tms_drop l i.toNat (by omega), sizeL, decide_eq_true hl, cond_true] at ho
    rw [wrap_ok (n := i + 1) (by omega) (by omega)]
    refine ⟨⟨hl, by omega⟩, _, ?_, ⟨s, l, (tmOf (nth l i.toNat)).size left, i + 1⟩, rfl, ⟨by simp only; omega, by simp only; omega, by simp only; omega, by simp only; omega⟩, rfl, ?_⟩
    · simp only; omega
    · simp only [out53l, Out.run, show (i + 1).toNat = i.toNat + 1 by omega]
      exact ho
  · rw [tms_drop l i.toNat (by omega), sizeL, decide_eq_false (show ¬ 0 ≤ left from hl), cond_false] at ho
    exact ho
  · rw [List.drop_eq_nil_of_le (by omega)] at ho
    exact ho
noncomputable def E53l (κ : Kp) : Env := (E54 κ).addLoop 65 4 (loopE 0 st53l side53l out53l)
theorem e53l (κ : Kp) : EnvOK (E53l κ) := (e54 κ).addLoop (m54 κ) (l53 κ)
theorem m53l (κ : Kp) : EnvMono (E53l κ) := (m54 κ).addLoop loopE_mono
theorem y53 (κ : Kp) (s : ByteArray) (l : List AV) (left : Int) (K : AV → List Dn.Obj → Prop) : (funA (E53l κ) 12 65 [.agg [.lit (.string s), .lst 43 l], .int left] [] K) = (
  brn (decide ((↑(ByteArray.size s) : Int) > (1000 : Int))) (K (AV.int (-1)) []) (loopCode (Pg.toProgram (Env.P (E54 κ))) 65 4 = loopCode (Pg.toProgram (Env.P (E54
  κ))) 65 4 ∧ ∃ (a : A53), sp 29 [(1, AV.int left), (2, AV.ptr 0 0 [] 0), (5, AV.int 0)] [Obj.box 24 (AV.agg [AV.str s, AV.lst 43 l])] = sp 29 [(1, AV.int
  (A53.left a)), (2, AV.ptr 0 0 [] 0), (5, AV.int (A53.i a))] [Obj.box 24 (AV.agg [AV.str (A53.s a), AV.lst 43 (A53.l a)])] ∧ ((-1 : Int) ≤ A53.left a ∧ A53.i a
  + A53.left a ≤ (100000 : Int) ∧ (0 : Int) ≤ A53.i a ∧ A53.i a ≤ (↑(List.length (A53.l a)) : Int)) ∧ K (AV.int (sizeL (tmsOf (List.drop (Int.toNat (A53.i a))
  (A53.l a))) (A53.left a))) [])) := by kernel_rfl
def g53 : List AV → Option (Bool × AV)
  | [.agg [.lit (.string s), .lst 43 l], .lit (.int .i64 left)] => some (decide (-1 ≤ left) && decide (left ≤ 100000), .int (sizeA ⟨s, tmsOf l⟩ left))
  | _ => none
theorem p53 (κ : Kp) : PureOk (E53l κ) 12 65 g53 := by
  intro args x hh
  unfold g53 at hh
  split at hh
  · rename_i s l left
    simp only [Option.some.injEq, Prod.mk.injEq, Bool.and_eq_true, decide_eq_true_eq] at hh
    obtain ⟨⟨h1, h2⟩, rfl⟩ := hh
    refine ⟨_, rfl, rfl, ?_⟩
    refine Eq.mpr (y53 κ s l left _) ?_
    rw [brn_iff, decide_eq_true_eq, decide_eq_false_iff_not]
    refine ⟨fun e => ?_, fun e => ?_⟩
    · unfold sizeA; rw [decide_eq_true (show (1000 : Int) < s.size from e)]; rfl
    · refine ⟨rfl, ⟨s, l, left, 0⟩, rfl, ⟨h1, by simp only; omega, by simp only; omega, by simp only; omega⟩, ?_⟩
      unfold sizeA; rw [decide_eq_false (show ¬ (1000 : Int) < s.size from e)]; rfl
  · cases hh
noncomputable def E53 (κ : Kp) : Env := (E53l κ).addPure 65 g53
theorem e53 (κ : Kp) : EnvOK (E53 κ) := (e53l κ).addPure (m53l κ) (p53 κ)
theorem m53 (κ : Kp) : EnvMono (E53 κ) := (m53l κ).addPure
structure A38 where
  a : A45
  left : Int
  i : Int
abbrev st38l (a : A38) : S := sp 52 [(1, .int a.left), (2, .ptr 0 0 [] 0), (5, .int a.i)] [.box 27 (rl45 a.a)]
theorem x38 (κ : Kp) (a : A38) (I : Nat → S → Prop) (n : Nat) (K : Exit → S → Prop) : (vc (E53 κ) 12 41 none 0 (loopCode (Pr κ).toProgram 41 3) (st38l a) (loopK (E53 κ) 41 3 0 I n K)) = (
  brn (decide (A38.i a < (↑(List.length (A45.bl (A38.a a))) : Int))) (brn (decide (A38.left a ≥ (0 : Int))) (cnd (decide ((0 : Int) ≤ A38.i a) && decide (A38.i a <
  (↑(List.length (A45.bl (A38.a a))) : Int))) (cnd (decide ((-1 : Int) ≤ IntKind.wrap IntKind.i64 (A38.left a - (1 : Int))) && decide (IntKind.wrap IntKind.i64
  (A38.left a - (1 : Int)) ≤ (100000 : Int))) (brn (decide (sizeA
  { rel := toStr (fld (fld (nth (A45.bl (A38.a a)) (Int.toNat (A38.i a))) 1) 0), l := tmsOf (toLst (fld (fld (nth (A45.bl (A38.a a)) (Int.toNat (A38.i a))) 1) 1)) }
  (IntKind.wrap IntKind.i64 (A38.left a - (1 : Int))) ≥ (0 : Int))) (cnd (decide ((0 : Int) ≤ A38.i a) && decide (A38.i a < (↑(List.length (A45.bl (A38.a a))) :
  Int))) (cnd (decide ((0 : Int) ≤ sizeA
  { rel := toStr (fld (fld (nth (A45.bl (A38.a a)) (Int.toNat (A38.i a))) 1) 0), l := tmsOf (toLst (fld (fld (nth (A45.bl (A38.a a)) (Int.toNat (A38.i a))) 1) 1)) }
  (IntKind.wrap IntKind.i64 (A38.left a - (1 : Int)))) && decide (sizeA
  { rel := toStr (fld (fld (nth (A45.bl (A38.a a)) (Int.toNat (A38.i a))) 1) 0), l := tmsOf (toLst (fld (fld (nth (A45.bl (A38.a a)) (Int.toNat (A38.i a))) 1) 1)) }
  (IntKind.wrap IntKind.i64 (A38.left a - (1 : Int))) ≤ (100000 : Int))) (brn (decide (Tm.size (Tm.mk (toInt (fld (fld (nth (A45.bl (A38.a a)) (Int.toNat (A38.i
  a))) 2) 0)) (toStr (fld (fld (nth (A45.bl (A38.a a)) (Int.toNat (A38.i a))) 2) 1)) (toInt (fld (fld (nth (A45.bl (A38.a a)) (Int.toNat (A38.i a))) 2) 2))
  (tmsOf (toLst (fld (fld (nth (A45.bl (A38.a a)) (Int.toNat (A38.i a))) 2) 3)))) (sizeA
  { rel := toStr (fld (fld (nth (A45.bl (A38.a a)) (Int.toNat (A38.i a))) 1) 0), l := tmsOf (toLst (fld (fld (nth (A45.bl (A38.a a)) (Int.toNat (A38.i a))) 1) 1)) }
  (IntKind.wrap IntKind.i64 (A38.left a - (1 : Int)))) ≥ (0 : Int))) (cnd (decide ((0 : Int) ≤ A38.i a) && decide (A38.i a < (↑(List.length (A45.bl (A38.a a))) :
  Int))) (cnd (decide ((0 : Int) ≤ Tm.size (Tm.mk (toInt (fld (fld (nth (A45.bl (A38.a a)) (Int.toNat (A38.i a))) 2) 0)) (toStr (fld (fld (nth (A45.bl (A38.a a))
  (Int.toNat (A38.i a))) 2) 1)) (toInt (fld (fld (nth (A45.bl (A38.a a)) (Int.toNat (A38.i a))) 2) 2)) (tmsOf (toLst (fld (fld (nth (A45.bl (A38.a a)) (Int.toNat
  (A38.i a))) 2) 3)))) (sizeA
  { rel := toStr (fld (fld (nth (A45.bl (A38.a a)) (Int.toNat (A38.i a))) 1) 0), l := tmsOf (toLst (fld (fld (nth (A45.bl (A38.a a)) (Int.toNat (A38.i a))) 1) 1)) }
  (IntKind.wrap IntKind.i64 (A38.left a - (1 : Int))))) && decide (Tm.size (Tm.mk (toInt (fld (fld (nth (A45.bl (A38.a a)) (Int.toNat (A38.i a))) 2) 0)) (toStr
  (fld (fld (nth (A45.bl (A38.a a)) (Int.toNat (A38.i a))) 2) 1)) (toInt (fld (fld (nth (A45.bl (A38.a a)) (Int.toNat (A38.i a))) 2) 2)) (tmsOf (toLst (fld (fld
  (nth (A45.bl (A38.a a)) (Int.toNat (A38.i a))) 2) 3)))) (sizeA
  { rel := toStr (fld (fld (nth (A45.bl (A38.a a)) (Int.toNat (A38.i a))) 1) 0), l := tmsOf (toLst (fld (fld (nth (A45.bl (A38.a a)) (Int.toNat (A38.i a))) 1) 1)) }
  (IntKind.wrap IntKind.i64 (A38.left a - (1 : Int)))) ≤ (100000 : Int))) (∃ (m : Nat), m < n ∧ I m (sp 52 [(1, AV.lit (Value.int IntKind.i64 (Tm.size (Tm.mk
  (toInt (fld (fld (nth (A45.bl (A38.a a)) (Int.toNat (A38.i a))) 3) 0)) (toStr (fld (fld (nth (A45.bl (A38.a a)) (Int.toNat (A38.i a))) 3) 1)) (toInt (fld (fld
  (nth (A45.bl (A38.a a)) (Int.toNat (A38.i a))) 3) 2)) (tmsOf (toLst (fld (fld (nth (A45.bl (A38.a a)) (Int.toNat (A38.i a))) 3) 3)))) (Tm.size (Tm.mk (toInt
  (fld (fld (nth (A45.bl (A38.a a)) (Int.toNat (A38.i a))) 2) 0)) (toStr (fld (fld (nth (A45.bl (A38.a a)) (Int.toNat (A38.i a))) 2) 1)) (toInt (fld (fld (nth
  (A45.bl (A38.a a)) (Int.toNat (A38.i a))) 2) 2)) (tmsOf (toLst (fld (fld (nth (A45.bl (A38.a a)) (Int.toNat (A38.i a))) 2) 3)))) (sizeA
  { rel := toStr (fld (fld (nth (A45.bl (A38.a a)) (Int.toNat (A38.i a))) 1) 0), l := tmsOf (toLst (fld (fld (nth (A45.bl (A38.a a)) (Int.toNat (A38.i a))) 1) 1)) }
  (IntKind.wrap IntKind.i64 (A38.left a - (1 : Int)))))))), (2, AV.ptr 0 0 [] 0), (5, AV.int (IntKind.wrap IntKind.i64 (A38.i a + (1 : Int))))] [Obj.box 27
  (AV.agg [AV.agg [AV.str (A45.rel (A38.a a)), AV.lst 43 (A45.hl (A38.a a))], AV.lst 46 (A45.bl (A38.a a)), AV.int (A45.line (A38.a a))])])))) (∃ (m : Nat), m <
  n ∧ I m (sp 52 [(1, AV.lit (Value.int IntKind.i64 (Tm.size (Tm.mk (toInt (fld (fld (nth (A45.bl (A38.a a)) (Int.toNat (A38.i a))) 2) 0)) (toStr (fld (fld (nth
  (A45.bl (A38.a a)) (Int.toNat (A38.i a))) 2) 1)) (toInt (fld (fld (nth (A45.bl (A38.a a)) (Int.toNat (A38.i a))) 2) 2)) (tmsOf (toLst (fld (fld (nth (A45.bl
  (A38.a a)) (Int.toNat (A38.i a))) 2) 3)))) (sizeA
  { rel := toStr (fld (fld (nth (A45.bl (A38.a a)) (Int.toNat (A38.i a))) 1) 0), l := tmsOf (toLst (fld (fld (nth (A45.bl (A38.a a)) (Int.toNat (A38.i a))) 1) 1)) }
  (IntKind.wrap IntKind.i64 (A38.left a - (1 : Int))))))), (2, AV.ptr 0 0 [] 0), (5, AV.int (IntKind.wrap IntKind.i64 (A38.i a + (1 : Int))))] [Obj.box 27
  (AV.agg [AV.agg [AV.str (A45.rel (A38.a a)), AV.lst 43 (A45.hl (A38.a a))], AV.lst 46 (A45.bl (A38.a a)), AV.int (A45.line (A38.a a))])]))))) (brn (decide
  (sizeA
  { rel := toStr (fld (fld (nth (A45.bl (A38.a a)) (Int.toNat (A38.i a))) 1) 0), l := tmsOf (toLst (fld (fld (nth (A45.bl (A38.a a)) (Int.toNat (A38.i a))) 1) 1)) }
  (IntKind.wrap IntKind.i64 (A38.left a - (1 : Int))) ≥ (0 : Int))) (cnd (decide ((0 : Int) ≤ A38.i a) && decide (A38.i a < (↑(List.length (A45.bl (A38.a a))) :
  Int))) (cnd (decide ((0 : Int) ≤ sizeA
  { rel := toStr (fld (fld (nth (A45.bl (A38.a a)) (Int.toNat (A38.i a))) 1) 0), l := tmsOf (toLst (fld (fld (nth (A45.bl (A38.a a)) (Int.toNat (A38.i a))) 1) 1)) }
  (IntKind.wrap IntKind.i64 (A38.left a - (1 : Int)))) && decide (sizeA
  { rel := toStr (fld (fld (nth (A45.bl (A38.a a)) (Int.toNat (A38.i a))) 1) 0), l := tmsOf (toLst (fld (fld (nth (A45.bl (A38.a a)) (Int.toNat (A38.i a))) 1) 1)) }
  (IntKind.wrap IntKind.i64 (A38.left a - (1 : Int))) ≤ (100000 : Int))) (∃ (m : Nat), m < n ∧ I m (sp 52 [(1, AV.lit (Value.int IntKind.i64 (Tm.size (Tm.mk
  (toInt (fld (fld (nth (A45.bl (A38.a a)) (Int.toNat (A38.i a))) 3) 0)) (toStr (fld (fld (nth (A45.bl (A38.a a)) (Int.toNat (A38.i a))) 3) 1)) (toInt (fld (fld
  (nth (A45.bl (A38.a a)) (Int.toNat (A38.i a))) 3) 2)) (tmsOf (toLst (fld (fld (nth (A45.bl (A38.a a)) (Int.toNat (A38.i a))) 3) 3)))) (sizeA
  { rel := toStr (fld (fld (nth (A45.bl (A38.a a)) (Int.toNat (A38.i a))) 1) 0), l := tmsOf (toLst (fld (fld (nth (A45.bl (A38.a a)) (Int.toNat (A38.i a))) 1) 1)) }
  (IntKind.wrap IntKind.i64 (A38.left a - (1 : Int))))))), (2, AV.ptr 0 0 [] 0), (5, AV.int (IntKind.wrap IntKind.i64 (A38.i a + (1 : Int))))] [Obj.box 27
  (AV.agg [AV.agg [AV.str (A45.rel (A38.a a)), AV.lst 43 (A45.hl (A38.a a))], AV.lst 46 (A45.bl (A38.a a)), AV.int (A45.line (A38.a a))])])))) (∃ (m : Nat), m <
  n ∧ I m (sp 52 [(1, AV.lit (Value.int IntKind.i64 (sizeA
  { rel := toStr (fld (fld (nth (A45.bl (A38.a a)) (Int.toNat (A38.i a))) 1) 0), l := tmsOf (toLst (fld (fld (nth (A45.bl (A38.a a)) (Int.toNat (A38.i a))) 1) 1)) }
  (IntKind.wrap IntKind.i64 (A38.left a - (1 : Int)))))), (2, AV.ptr 0 0 [] 0), (5, AV.int (IntKind.wrap IntKind.i64 (A38.i a + (1 : Int))))] [Obj.box 27 (AV.agg
  [AV.agg [AV.str (A45.rel (A38.a a)), AV.lst 43 (A45.hl (A38.a a))], AV.lst 46 (A45.bl (A38.a a)), AV.int (A45.line (A38.a a))])])))))) (K (Exit.exit 0) (sp 52
  [(1, AV.int (A38.left a))] []))) (K (Exit.exit 0) (sp 52 [(1, AV.int (A38.left a))] []))) := by kernel_rfl
def side38l (a : A38) : Prop := -1 ≤ a.left ∧ a.i + a.left ≤ 100000 ∧ 0 ≤ a.i ∧ a.i ≤ a.a.bl.length
def out38l (a : A38) : Out (Exit × S) := .one (.exit 0, sp 52 [(1, .int (sizeB (ltsOf (a.a.bl.drop a.i.toNat)) a.left))] [])
theorem l38 (κ : Kp) : LoopOk (E53 κ) 12 41 3 (loopE 0 st38l side38l out38l) := by
  refine loopE_ok (fun a => a.a.bl.length - a.i.toNat) ?_
  rintro ⟨a, left, i⟩ K ⟨h1, h2, h3, h4⟩ ho
  simp only at h1 h2 h3 h4
  rw [show (E53 κ).P = Pr κ from rfl]
  refine Eq.mpr (x38 κ ⟨a, left, i⟩ _ _ K) ?_
  simp only [out38l, Out.run] at ho
  by_cases hi : i < a.bl.length
  · by_cases hl : left ≥ 0
    · have hk : i.toNat < a.bl.length := by omega
      rw [lts_drop a.bl i.toNat hk, sizeB, decide_eq_true hl, cond_true] at ho
      have hA : (⟨toStr (fld (fld (nth a.bl i.toNat) 1) 0), tmsOf (toLst (fld (fld (nth a.bl i.toNat) 1) 1))⟩ : At) = (ltOf (nth a.bl i.toNat)).a := rfl
      have hX : tmOf (fld (nth a.bl i.toNat) 2) = (ltOf (nth a.bl i.toNat)).x := rfl
      have hY : tmOf (fld (nth a.bl i.toNat) 3) = (ltOf (nth a.bl i.toNat)).y := rfl
      have hz := sizeLt_le (ltOf (nth a.bl i.toNat)) left hl
      have hz1 := sizeA_le (ltOf (nth a.bl i.toNat)).a (left - 1) (by omega)
      have hz2 := Tm.size_le (ltOf (nth a.bl i.toNat)).x (sizeA (ltOf (nth a.bl i.toNat)).a (left - 1))
      have go : ∀ z, sizeLt (ltOf (nth a.bl i.toNat)) left = z → ∃ m, m < a.bl.length - i.toNat ∧ invOf st38l side38l out38l (fun a => a.a.bl.length - a.i.toNat) K m (st38l ⟨a, z, i + 1⟩) := by
        rintro z rfl
        refine ⟨_, ?_, ⟨a, sizeLt (ltOf (nth a.bl i.toNat)) left, i + 1⟩, rfl, ⟨by simp only; omega, by simp only; omega, by simp only; omega, by simp only; omega⟩, rfl, ?_⟩
        · simp only; omega
        · simp only [out38l, Out.run, show (i + 1).toNat = i.toNat + 1 by omega]
          exact ho
      simp only [wrap_ok (n := i + 1) (by omega) (by omega), wrap_ok (n := left - 1) (by omega) (by omega), hA, ← tmOf_eq, hX, hY]
      simp only [brn_iff, cnd_iff, decide_eq_true_eq, decide_eq_false_iff_not, Bool.and_eq_true]
      refine ⟨fun _ => ⟨fun _ => ⟨⟨h3, hi⟩, ⟨by omega, by omega⟩, fun e1 => ⟨⟨h3, hi⟩, ⟨e1, by omega⟩, fun e2 => ⟨⟨h3, hi⟩, ⟨e2, by have := hz2 e1; omega⟩, go _ ?_⟩, fun e2 => go _ ?_⟩, fun e1 => ⟨fun e => absurd e e1, fun _ => go _ ?_⟩⟩, fun e => absurd hl e⟩, fun e => absurd hi e⟩
      · unfold sizeLt; rw [decide_eq_true (show 0 ≤ sizeA (ltOf (nth a.bl i.toNat)).a (left - 1) from e1), cond_true, decide_eq_true (show 0 ≤ (ltOf (nth a.bl i.toNat)).x.size _ from e2), cond_true]
      · unfold sizeLt; rw [decide_eq_true (show 0 ≤ sizeA (ltOf (nth a.bl i.toNat)).a (left - 1) from e1), cond_true, decide_eq_false (show ¬ 0 ≤ (ltOf (nth a.bl i.toNat)).x.size _ from e2), cond_false]
      · unfold sizeLt; rw [decide_eq_false (show ¬ 0 ≤ sizeA (ltOf (nth a.bl i.toNat)).a (left - 1) from e1), cond_false]; rfl
    · rw [lts_drop a.bl i.toNat (by omega), sizeB, decide_eq_false (show ¬ 0 ≤ left from hl), cond_false] at ho
      rw [decide_eq_true (show i < (a.bl.length : Int) from hi), decide_eq_false hl]
      exact ho
  · rw [List.drop_eq_nil_of_le (by omega)] at ho
    rw [decide_eq_false (show ¬ i < (a.bl.length : Int) from hi)]
    exact ho
noncomputable def E38l (κ : Kp) : Env := (E53 κ).addLoop 41 3 (loopE 0 st38l side38l out38l)
theorem e38l (κ : Kp) : EnvOK (E38l κ) := (e53 κ).addLoop (m53 κ) (l38 κ)
theorem m38l (κ : Kp) : EnvMono (E38l κ) := (m53 κ).addLoop loopE_mono
theorem y38 (κ : Kp) (a : A45) (left : Int) (K : AV → List Dn.Obj → Prop) : (funA (E38l κ) 12 41 [rl45 a, .int left] [] K) = (
  cnd (decide ((-1 : Int) ≤ IntKind.wrap IntKind.i64 (left - (1 : Int))) && decide (IntKind.wrap IntKind.i64 (left - (1 : Int)) ≤ (100000 : Int))) (loopCode
  (Pg.toProgram (Env.P (E53 κ))) 41 3 = loopCode (Pg.toProgram (Env.P (E53 κ))) 41 3 ∧ ∃ (a_1 : A38), sp 52 [(1, AV.lit (Value.int IntKind.i64 (sizeA
  { rel := A45.rel a, l := tmsOf (A45.hl a) } (IntKind.wrap IntKind.i64 (left - (1 : Int)))))), (2, AV.ptr 0 0 [] 0), (5, AV.int 0)] [Obj.box 27 (AV.agg [AV.agg
  [AV.str (A45.rel a), AV.lst 43 (A45.hl a)], AV.lst 46 (A45.bl a), AV.int (A45.line a)])] = sp 52 [(1, AV.int (A38.left a_1)), (2, AV.ptr 0 0 [] 0), (5, AV.int
  (A38.i a_1))] [Obj.box 27 (AV.agg [AV.agg [AV.str (A45.rel (A38.a a_1)), AV.lst 43 (A45.hl (A38.a a_1))], AV.lst 46 (A45.bl (A38.a a_1)), AV.int (A45.line
  (A38.a a_1))])] ∧ ((-1 : Int) ≤ A38.left a_1 ∧ A38.i a_1 + A38.left a_1 ≤ (100000 : Int) ∧ (0 : Int) ≤ A38.i a_1 ∧ A38.i a_1 ≤ (↑(List.length (A45.bl (A38.a
  a_1))) : Int)) ∧ K (AV.lit (Value.int IntKind.i64 (sizeB (ltsOf (List.drop (Int.toNat (A38.i a_1)) (A45.bl (A38.a a_1)))) (A38.left a_1)))) [])) := by kernel_rfl
def g38 : List AV → Option (Bool × AV)
  | [.agg [.agg [.lit (.string rel), .lst 43 hl], .lst 46 bl, .lit (.int .i64 _)], .lit (.int .i64 left)] => some (decide (0 ≤ left) && decide (left ≤ 100000), .int (sizeR ⟨⟨rel, tmsOf hl⟩, ltsOf bl⟩ left))
  | _ => none
theorem p38 (κ : Kp) : PureOk (E38l κ) 12 41 g38 := by
  intro args x hh
  unfold g38 at hh
  split at hh
  · rename_i rel hl bl line left
    simp only [Option.some.injEq, Prod.mk.injEq, Bool.and_eq_true, decide_eq_true_eq] at hh
    obtain ⟨⟨h1, h2⟩, rfl⟩ := hh
    refine ⟨_, rfl, rfl, ?_⟩
    refine Eq.mpr (y38 κ ⟨[], [], rel, hl, bl, line, 0⟩ left _) ?_
    have hz1 := sizeA_le ⟨rel, tmsOf hl⟩ (left - 1) (by omega)
    simp only [wrap_ok (n := left - 1) (by omega) (by omega)]
    rw [cnd_iff, Bool.and_eq_true, decide_eq_true_eq, decide_eq_true_eq]
    exact ⟨⟨by omega, by omega⟩, trivial, ⟨⟨[], [], rel, hl, bl, line, 0⟩, sizeA ⟨rel, tmsOf hl⟩ (left - 1), 0⟩, rfl, ⟨by simp only; omega, by simp only; omega, by simp only; omega, by simp only; omega⟩, rfl⟩
  · cases hh
noncomputable def E38 (κ : Kp) : Env := (E38l κ).addPure 41 g38
theorem e38 (κ : Kp) : EnvOK (E38 κ) := (e38l κ).addPure (m38l κ) (p38 κ)
theorem m38 (κ : Kp) : EnvMono (E38 κ) := (m38l κ).addPure
end Go.Proofs.YtpgahkbkfflkaaaGreatDoor
namespace Go.Proofs.YtpgahkbkfflkaaaGreatDoor
open Go Go.Dn Go.Rl Go.Proofs
attribute [local irreducible] funA vc
set_option maxRecDepth 20000
abbrev st37l (a : List AV × Int) : S := sp 16 [(0, .lst 9 a.1), (3, .int a.2)] []
theorem x37 (κ : Kp) (l : List AV) (i : Int) (I : Nat → S → Prop) (n : Nat) (K : Exit → S → Prop) : (vc (E38 κ) 12 40 none 0 (loopCode (Pr κ).toProgram 40 2) (st37l (l, i)) (loopK (E38 κ) 40 2 0 I n K)) = (
  brn (decide (i < (↑(List.length l) : Int))) (cnd (decide ((0 : Int) ≤ i) && decide (i < (↑(List.length l) : Int))) (brn (decide ((↑(ByteArray.size (toStr (nth l
  (Int.toNat i)))) : Int) > (1000 : Int))) (K Exit.ret (sp 16 [(2, AV.bool true)] [])) (∃ (m : Nat), m < n ∧ I m (sp 16 [(0, AV.lst 9 l), (3, AV.int
  (IntKind.wrap IntKind.i64 (i + (1 : Int))))] [])))) (K (Exit.exit 0) (sp 16 [] []))) := by kernel_rfl
def side37l (a : List AV × Int) : Prop := a.1.length ≤ maxI ∧ 0 ≤ a.2 ∧ a.2 ≤ a.1.length
def out37l (a : List AV × Int) : Out (Exit × S) := .brn (longS (a.1.drop a.2.toNat)) (.one (.ret, sp 16 [(2, .bool true)] [])) (.one (.exit 0, sp 16 [] []))
theorem l37 (κ : Kp) : LoopOk (E38 κ) 12 40 2 (loopE 0 st37l side37l out37l) := by
  refine loopE_ok (fun a => a.1.length - a.2.toNat) ?_
  rintro ⟨l, i⟩ K ⟨h1, h2, h3⟩ ho
  simp only at h1 h2 h3
  rw [show (E38 κ).P = Pr κ from rfl]
  refine Eq.mpr (x37 κ l i _ _ K) ?_
  simp only [maxI] at h1
  simp only [out37l, Out.run, brn_iff] at ho
  simp only [brn_iff, cnd_iff, decide_eq_true_eq, decide_eq_false_iff_not, Bool.and_eq_true]
  refine ⟨fun hi => ⟨⟨h2, hi⟩, ?_⟩, fun hi => ?_⟩
  · rw [List.drop_eq_getElem_cons (show i.toNat < l.length by omega), ← nth_get l i.toNat (by omega)] at ho
    simp only [longS, List.any_cons] at ho
    refine ⟨fun e => ho.1 (by rw [decide_eq_true (show (1000 : Int) < _ from e)]; rfl), fun e => ?_⟩
    rw [decide_eq_false (show ¬ (1000 : Int) < _ from e), Bool.false_or] at ho
    rw [wrap_ok (n := i + 1) (by omega) (by omega)]
    refine ⟨_, ?_, (l, i + 1), rfl, ⟨by simpa [maxI] using h1, by simp only; omega, by simp only; omega⟩, rfl, ?_⟩
    · simp only; omega
    · simp only [out37l, Out.run, brn_iff, show (i + 1).toNat = i.toNat + 1 by omega]
      exact ho
  · rw [List.drop_eq_nil_of_le (by omega)] at ho
    exact ho.2 rfl
noncomputable def E37l (κ : Kp) : Env := (E38 κ).addLoop 40 2 (loopE 0 st37l side37l out37l)
theorem e37l (κ : Kp) : EnvOK (E37l κ) := (e38 κ).addLoop (m38 κ) (l37 κ)
theorem m37l (κ : Kp) : EnvMono (E37l κ) := (m38 κ).addLoop loopE_mono
theorem y37 (κ : Kp) (l : List AV) (K : AV → List Dn.Obj → Prop) : (funA (E37l κ) 12 40 [.lst 9 l] [] K) = (
  loopCode (Pg.toProgram (Env.P (E38 κ))) 40 2 = loopCode (Pg.toProgram (Env.P (E38 κ))) 40 2 ∧ ∃ (a : List AV × Int), sp 16 [(0, AV.lst 9 l), (3, AV.int 0)] [] =
  sp 16 [(0, AV.lst 9 (Prod.fst a)), (3, AV.int (Prod.snd a))] [] ∧ (List.length (Prod.fst a) ≤ 9223372036854775807 ∧ (0 : Int) ≤ Prod.snd a ∧ Prod.snd a ≤
  (↑(List.length (Prod.fst a)) : Int)) ∧ brn (longS (List.drop (Int.toNat (Prod.snd a)) (Prod.fst a))) (K (AV.bool true) []) (K (AV.bool false) [])) := by kernel_rfl
def g37 : List AV → Option (Bool × AV)
  | [.lst 9 l] => some (decide (l.length ≤ maxI), .bool (longS l))
  | _ => none
theorem p37 (κ : Kp) : PureOk (E37l κ) 12 40 g37 := by
  intro args x hh
  unfold g37 at hh
  split at hh
  · rename_i l
    simp only [Option.some.injEq, Prod.mk.injEq, decide_eq_true_eq] at hh
    obtain ⟨h1, rfl⟩ := hh
    refine ⟨_, rfl, rfl, ?_⟩
    refine Eq.mpr (y37 κ l _) ?_
    refine ⟨rfl, (l, 0), rfl, ⟨h1, by simp only; omega, by simp only; omega⟩, ?_⟩
    rw [brn_iff]
    exact ⟨fun e => by rw [show longS l = true from e], fun e => by rw [show longS l = false from e]⟩
  · cases hh
noncomputable def E37 (κ : Kp) : Env := (E37l κ).addPure 40 g37
theorem e37 (κ : Kp) : EnvOK (E37 κ) := (e37l κ).addPure (m37l κ) (p37 κ)
theorem m37 (κ : Kp) : EnvMono (E37 κ) := (m37l κ).addPure
structure A22 where
  ds : List AV
  rs : List AV
  left : Int
  i : Int
abbrev pr22 (a : A22) : AV := .agg [.lst 76 a.ds, .lst 27 a.rs]
abbrev st22a (a : A22) : S := sp 62 [(1, .ptr 0 0 [] 0), (3, .int a.left), (4, .int a.i)] [.box 52 (pr22 a)]
theorem x22a (κ : Kp) (a : A22) (I : Nat → S → Prop) (n : Nat) (K : Exit → S → Prop) : (vc (E37 κ) 12 19 none 0 (loopCode (Pr κ).toProgram 19 3) (st22a a) (loopK (E37 κ) 19 3 0 I n K)) = (
  brn (decide (A22.i a < (↑(List.length (A22.ds a)) : Int))) (cnd (decide ((0 : Int) ≤ A22.i a) && decide (A22.i a < (↑(List.length (A22.ds a)) : Int))) (brn
  (decide ((↑(ByteArray.size (toStr (fld (nth (A22.ds a) (Int.toNat (A22.i a))) 0))) : Int) > (1000 : Int))) (K Exit.ret (sp 62 [(2, AV.int 0)] [])) (cnd (decide
  ((0 : Int) ≤ A22.i a) && decide (A22.i a < (↑(List.length (A22.ds a)) : Int))) (cnd (decide (List.length (toLst (fld (nth (A22.ds a) (Int.toNat (A22.i a))) 1))
  ≤ 9223372036854775807)) (brn (longS (toLst (fld (nth (A22.ds a) (Int.toNat (A22.i a))) 1))) (K Exit.ret (sp 62 [(2, AV.int 0)] [])) (∃ (m : Nat), m < n ∧ I m
  (sp 62 [(1, AV.ptr 0 0 [] 0), (3, AV.int (A22.left a)), (4, AV.int (IntKind.wrap IntKind.i64 (A22.i a + (1 : Int))))] [Obj.box 52 (AV.agg [AV.lst 76 (A22.ds
  a), AV.lst 27 (A22.rs a)])]))))))) (K (Exit.exit 0) (sp 62 [(1, AV.ptr 0 0 [] 0), (3, AV.int (A22.left a))] [Obj.box 52 (AV.agg [AV.lst 76 (A22.ds a), AV.lst
  27 (A22.rs a)])]))) := by kernel_rfl
def side22a (a : A22) : Prop := a.ds.length ≤ maxI ∧ (∀ d, d ∈ a.ds → (toLst (fld d 1)).length ≤ maxI) ∧ 0 ≤ a.i ∧ a.i ≤ a.ds.length
def out22a (a : A22) : Out (Exit × S) := .brn ((a.ds.drop a.i.toNat).any badD) (.one (.ret, sp 62 [(2, .int 0)] [])) (.one (.exit 0, sp 62 [(1, .ptr 0 0 [] 0), (3, .int a.left)] [.box 52 (pr22 a)]))
theorem l22a (κ : Kp) : LoopOk (E37 κ) 12 19 3 (loopE 0 st22a side22a out22a) := by
  refine loopE_ok (fun a => a.ds.length - a.i.toNat) ?_
  rintro ⟨ds, rs, left, i⟩ K ⟨h1, h1', h2, h3⟩ ho
  simp only at h1 h1' h2 h3
  rw [show (E37 κ).P = Pr κ from rfl]
  refine Eq.mpr (x22a κ ⟨ds, rs, left, i⟩ _ _ K) ?_
  simp only [maxI] at h1
  simp only [out22a, Out.run, brn_iff] at ho
  simp only [brn_iff, cnd_iff, Bool.and_eq_true, decide_eq_true_eq, decide_eq_false_iff_not]
  refine ⟨fun hi => ⟨⟨h2, hi⟩, ?_⟩, fun hi => ?_⟩
  · have hi' : i.toNat < ds.length := by omega
    have hm : nth ds i.toNat ∈ ds := by rw [nth_get ds _ hi']; exact List.getElem_mem _
    rw [List.drop_eq_getElem_cons hi', ← nth_get ds i.toNat hi'] at ho
    simp only [List.any_cons, badD] at ho
    have go : (∀ h : ((ds.drop (i.toNat + 1)).any badD = true → K .ret (sp 62 [(2, .int 0)] [])) ∧ ((ds.drop (i.toNat + 1)).any badD = false → K (.exit 0) (sp 62 [(1, .ptr 0 0 [] 0), (3, .int left)] [.box 52 (pr22 ⟨ds, rs, left, i⟩)])), ∃ m, m < ds.length - i.toNat ∧ invOf st22a side22a out22a (fun a => a.ds.length - a.i.toNat) K m (sp 62 [(1, .ptr 0 0 [] 0), (3, .int left), (4, .int (IntKind.wrap .i64 (i + 1)))] [.box 52 (pr22 ⟨ds, rs, left, i⟩)])) := by
      intro h
      rw [wrap_ok (n := i + 1) (by omega) (by omega)]
      refine ⟨_, ?_, ⟨ds, rs, left, i + 1⟩, rfl, ⟨by simpa [maxI] using h1, h1', by simp only; omega, by simp only; omega⟩, rfl, ?_⟩
      · simp only; omega
      · simp only [out22a, Out.run, brn_iff, show (i + 1).toNat = i.toNat + 1 by omega]
        exact h
    refine ⟨fun e1 => ho.1 (by rw [decide_eq_true (show (1000 : Int) < _ from e1)]; rfl), fun e1 => ⟨⟨h2, hi⟩, h1' _ hm, fun e2 => ho.1 (by rw [e2]; simp), fun e2 => go ?_⟩⟩
    rw [decide_eq_false (show ¬ (1000 : Int) < _ from e1), e2] at ho
    exact ho
  · rw [List.drop_eq_nil_of_le (by omega)] at ho
    exact ho.2 rfl
noncomputable def E22a (κ : Kp) : Env := (E37 κ).addLoop 19 3 (loopE 0 st22a side22a out22a)
theorem e22a (κ : Kp) : EnvOK (E22a κ) := (e37 κ).addLoop (m37 κ) (l22a κ)
theorem m22a (κ : Kp) : EnvMono (E22a κ) := (m37 κ).addLoop loopE_mono
abbrev st22b (a : A22) : S := sp 62 [(1, .ptr 0 0 [] 0), (3, .int a.left), (5, .int a.i)] [.box 52 (pr22 a)]
theorem x22b (κ : Kp) (a : A22) (I : Nat → S → Prop) (n : Nat) (K : Exit → S → Prop) : (vc (E22a κ) 12 19 none 0 (loopCode (Pr κ).toProgram 19 8) (st22b a) (loopK (E22a κ) 19 8 0 I n K)) = (
  brn (decide (A22.i a < (↑(List.length (A22.rs a)) : Int))) (brn (decide (A22.left a ≥ (0 : Int))) (cnd (decide ((0 : Int) ≤ A22.i a) && decide (A22.i a <
  (↑(List.length (A22.rs a)) : Int))) (cnd (decide ((0 : Int) ≤ A22.left a) && decide (A22.left a ≤ (100000 : Int))) (∃ (m : Nat), m < n ∧ I m (sp 62 [(1, AV.ptr
  0 0 [] 0), (3, AV.lit (Value.int IntKind.i64 (sizeR
  { head := { rel := toStr (fld (fld (nth (A22.rs a) (Int.toNat (A22.i a))) 0) 0), l := tmsOf (toLst (fld (fld (nth (A22.rs a) (Int.toNat (A22.i a))) 0) 1)) }, body := ltsOf (toLst (fld (nth (A22.rs a) (Int.toNat (A22.i a))) 1)) }
  (A22.left a)))), (5, AV.int (IntKind.wrap IntKind.i64 (A22.i a + (1 : Int))))] [Obj.box 52 (AV.agg [AV.lst 76 (A22.ds a), AV.lst 27 (A22.rs a)])])))) (K
  (Exit.exit 2) (sp 62 [(1, AV.ptr 0 0 [] 0), (3, AV.int (A22.left a))] [Obj.box 52 (AV.agg [AV.lst 76 (A22.ds a), AV.lst 27 (A22.rs a)])]))) (K (Exit.exit 2)
  (sp 62 [(1, AV.ptr 0 0 [] 0), (3, AV.int (A22.left a))] [Obj.box 52 (AV.agg [AV.lst 76 (A22.ds a), AV.lst 27 (A22.rs a)])]))) := by kernel_rfl
def side22b (a : A22) : Prop := -1 ≤ a.left ∧ a.i + a.left ≤ 100000 ∧ 0 ≤ a.i ∧ a.i ≤ a.rs.length
def out22b (a : A22) : Out (Exit × S) := .one (.exit 2, sp 62 [(1, .ptr 0 0 [] 0), (3, .int (sizeP ((a.rs.drop a.i.toNat).map rlOf) a.left))] [.box 52 (pr22 a)])
theorem l22b (κ : Kp) : LoopOk (E22a κ) 12 19 8 (loopE 0 st22b side22b out22b) := by
  refine loopE_ok (fun a => a.rs.length - a.i.toNat) ?_
  rintro ⟨ds, rs, left, i⟩ K ⟨h1, h2, h3, h4⟩ ho
  simp only at h1 h2 h3 h4
  rw [show (E22a κ).P = Pr κ from rfl]
  refine Eq.mpr (x22b κ ⟨ds, rs, left, i⟩ _ _ K) ?_
  simp only [out22b, Out.run] at ho
  by_cases hi : i < rs.length
  · have hi' : i.toNat < rs.length := by omega
    rw [List.drop_eq_getElem_cons hi', ← nth_get rs i.toNat hi', List.map_cons, sizeP] at ho
    by_cases hl : left ≥ 0
    · have hz := sizeR_le (rlOf (nth rs i.toNat)) left hl
      rw [decide_eq_true (show 0 ≤ left from hl), cond_true] at ho
      rw [decide_eq_true (show i < (rs.length : Int) from hi), decide_eq_true hl, wrap_ok (n := i + 1) (by omega) (by omega)]
      simp only [brn, cnd_iff, Bool.and_eq_true, decide_eq_true_eq]
      refine ⟨⟨h3, trivial⟩, ⟨trivial, by omega⟩, _, ?_, ⟨ds, rs, sizeR (rlOf (nth rs i.toNat)) left, i + 1⟩, rfl, ⟨by simp only; omega, by simp only; omega, by simp only; omega, by simp only; omega⟩, rfl, ?_⟩
      · simp only; omega
      · simp only [out22b, Out.run, show (i + 1).toNat = i.toNat + 1 by omega]
        exact ho
    · rw [decide_eq_false (show ¬ 0 ≤ left from hl), cond_false] at ho
      rw [decide_eq_true (show i < (rs.length : Int) from hi), decide_eq_false hl]
      exact ho
  · rw [List.drop_eq_nil_of_le (by omega)] at ho
    rw [decide_eq_false (show ¬ i < (rs.length : Int) from hi)]
    exact ho
noncomputable def E22b (κ : Kp) : Env := (E22a κ).addLoop 19 8 (loopE 0 st22b side22b out22b)
theorem e22b (κ : Kp) : EnvOK (E22b κ) := (e22a κ).addLoop (m22a κ) (l22b κ)
theorem m22b (κ : Kp) : EnvMono (E22b κ) := (m22a κ).addLoop loopE_mono
theorem y22 (κ : Kp) (ds rs : List AV) (K : AV → List Dn.Obj → Prop) : (funA (E22b κ) 12 19 [.agg [.lst 76 ds, .lst 27 rs]] [] K) = (
  loopCode (Pg.toProgram (Env.P (E37 κ))) 19 3 = loopCode (Pg.toProgram (Env.P (E37 κ))) 19 3 ∧ ∃ (a : A22), sp 62 [(1, AV.ptr 0 0 [] 0), (3, AV.int 2000), (4,
  AV.int 0)] [Obj.box 52 (AV.agg [AV.lst 76 ds, AV.lst 27 rs])] = sp 62 [(1, AV.ptr 0 0 [] 0), (3, AV.int (A22.left a)), (4, AV.int (A22.i a))] [Obj.box 52
  (AV.agg [AV.lst 76 (A22.ds a), AV.lst 27 (A22.rs a)])] ∧ (List.length (A22.ds a) ≤ 9223372036854775807 ∧ (∀ (d : AV), List.Mem d (A22.ds a) → List.length
  (toLst (fld d 1)) ≤ 9223372036854775807) ∧ (0 : Int) ≤ A22.i a ∧ A22.i a ≤ (↑(List.length (A22.ds a)) : Int)) ∧ brn (List.any (List.drop (Int.toNat (A22.i a))
  (A22.ds a)) badD) (K (AV.int 0) []) (loopCode (Pg.toProgram (Env.P (E22a κ))) 19 8 = loopCode (Pg.toProgram (Env.P (E22a κ))) 19 8 ∧ ∃ (a_1 : A22), sp 62 [(1,
  AV.ptr 0 0 [] 0), (3, AV.int (A22.left a)), (5, AV.int 0)] [Obj.box 52 (AV.agg [AV.lst 76 (A22.ds a), AV.lst 27 (A22.rs a)])] = sp 62 [(1, AV.ptr 0 0 [] 0),
  (3, AV.int (A22.left a_1)), (5, AV.int (A22.i a_1))] [Obj.box 52 (AV.agg [AV.lst 76 (A22.ds a_1), AV.lst 27 (A22.rs a_1)])] ∧ ((-1 : Int) ≤ A22.left a_1 ∧
  A22.i a_1 + A22.left a_1 ≤ (100000 : Int) ∧ (0 : Int) ≤ A22.i a_1 ∧ A22.i a_1 ≤ (↑(List.length (A22.rs a_1)) : Int)) ∧ brn (decide (sizeP (List.map rlOf
  (List.drop (Int.toNat (A22.i a_1)) (A22.rs a_1))) (A22.left a_1) < (0 : Int))) (K (AV.int 0) []) (brn (decide ((↑(List.length (A22.ds a_1)) : Int) > (100 :
  Int))) (K (AV.int 0) []) (brn (decide ((↑(List.length (A22.rs a_1)) : Int) > (300 : Int))) (K (AV.int 0) []) (K (AV.int 1) []))))) := by kernel_rfl
def g22 : List AV → Option (Bool × AV)
  | [.agg [.lst 76 ds, .lst 27 rs]] => some (decide (ds.length ≤ maxI) && ds.all (fun d => decide ((toLst (fld d 1)).length ≤ maxI)), .int (bif smallP ds rs then 1 else 0))
  | _ => none
theorem p22 (κ : Kp) : PureOk (E22b κ) 12 19 g22 := by
  intro args x hh
  unfold g22 at hh
  split at hh
  · rename_i ds rs
    simp only [Option.some.injEq, Prod.mk.injEq, Bool.and_eq_true, decide_eq_true_eq, List.all_eq_true] at hh
    obtain ⟨⟨h1, h2⟩, rfl⟩ := hh
    refine ⟨_, rfl, rfl, ?_⟩
    refine Eq.mpr (y22 κ ds rs _) ?_
    refine ⟨rfl, ⟨ds, rs, 2000, 0⟩, rfl, ⟨h1, h2, by simp only; omega, by simp only; omega⟩, ?_⟩
    simp only [Int.toNat_zero, List.drop_zero, brn_iff]
    refine ⟨fun e => ?_, fun e => ⟨trivial, ⟨ds, rs, 2000, 0⟩, rfl, ⟨by simp only; omega, by simp only; omega, by simp only; omega, by simp only; omega⟩, ?_⟩⟩
    · unfold smallP; rw [e]; rfl
    · simp only [Int.toNat_zero, List.drop_zero, decide_eq_true_eq, decide_eq_false_iff_not]
      refine ⟨fun e1 => ?_, fun e1 => ⟨fun e2 => ?_, fun e2 => ⟨fun e3 => ?_, fun e3 => ?_⟩⟩⟩
      · unfold smallP; rw [e, decide_eq_false (show ¬ 0 ≤ sizeP (rs.map rlOf) 2000 by omega)]; rfl
      · unfold smallP; rw [decide_eq_false (show ¬ ds.length ≤ 100 by omega)]; simp
      · unfold smallP; rw [decide_eq_false (show ¬ rs.length ≤ 300 by omega)]; simp
      · unfold smallP; rw [e, decide_eq_true (show 0 ≤ sizeP (rs.map rlOf) 2000 by omega), decide_eq_true (show ds.length ≤ 100 by omega), decide_eq_true (show rs.length ≤ 300 by omega)]; rfl
  · cases hh
noncomputable def E22 (κ : Kp) : Env := (E22b κ).addPure 19 g22
theorem e22 (κ : Kp) : EnvOK (E22 κ) := (e22b κ).addPure (m22b κ) (p22 κ)
theorem m22 (κ : Kp) : EnvMono (E22 κ) := (m22b κ).addPure
end Go.Proofs.YtpgahkbkfflkaaaGreatDoor
namespace Go.Proofs.YtpgahkbkfflkaaaGreatDoor
open Go Go.Dn Go.Rl Go.Proofs
attribute [local irreducible] funA vc
set_option maxRecDepth 20000
theorem y9 (κ : Kp) (a : A45) (K : AV → List Dn.Obj → Prop) : (funA (E22 κ) 12 6 [rl45 a] [] K) = (
  K (AV.bool ((bif smallP [] [AV.agg [AV.agg [AV.str (A45.rel a), AV.lst 43 (A45.hl a)], AV.lst 46 (A45.bl a), AV.int (A45.line a)]] then (1 : Int) else (0 : Int))
  == (1 : Int))) []) := by kernel_rfl
def smallR (r : Rl) : Bool := decide (0 ≤ sizeR r 2000)
def g9 : List AV → Option (Bool × AV)
  | [.agg [.agg [.lit (.string rel), .lst 43 hl], .lst 46 bl, .lit (.int .i64 _)]] => some (true, .bool (smallR ⟨⟨rel, tmsOf hl⟩, ltsOf bl⟩))
  | _ => none
theorem small_one (a : A45) : ((bif smallP [] [rl45 a] then (1 : Int) else 0) == 1) = smallR (rOf a) := by
  have h : smallP [] [rl45 a] = smallR (rOf a) := by
    have e : sizeP ([rl45 a].map rlOf) 2000 = sizeR (rOf a) 2000 := rfl
    unfold smallP smallR
    rw [e]
    simp
  rw [h]
  cases smallR (rOf a) <;> rfl
theorem p9 (κ : Kp) : PureOk (E22 κ) 12 6 g9 := by
  intro args x hh
  unfold g9 at hh
  split at hh
  · rename_i rel hl bl line
    simp only [Option.some.injEq, Prod.mk.injEq, true_and] at hh
    subst hh
    refine ⟨_, rfl, rfl, ?_⟩
    refine Eq.mpr (y9 κ ⟨[], [], rel, hl, bl, line, 0⟩ _) ?_
    have := small_one ⟨[], [], rel, hl, bl, line, 0⟩
    simp only [rl45] at this
    simp only [this]
    rfl
  · cases hh
noncomputable def E9 (κ : Kp) : Env := (E22 κ).addPure 6 g9
theorem e9 (κ : Kp) : EnvOK (E9 κ) := (e22 κ).addPure (m22 κ) (p9 κ)
theorem m9 (κ : Kp) : EnvMono (E9 κ) := (m22 κ).addPure
theorem small_side {a : A45} (h : smallR (rOf a) = true) : side42 a ∧ ruleC (rOf a) + a.bl.length ≤ 2000 := by
  simp only [smallR, decide_eq_true_eq] at h
  have h1 := sizeR_cnt (rOf a) 2000 (by omega) h
  rw [body_len] at h1
  refine ⟨⟨?_, by omega⟩, by omega⟩
  rw [ruleTs_cnt 43 a.rel a.hl a.bl]
  have : ruleC (rOf a) ≤ 2000 := by omega
  exact Nat.le_trans this (by omega)
abbrev tvA (s : ByteArray) : AV := .agg [.int 1, .lit (.string s), .int 0, .lst 43 []]
theorem y13 (κ : Kp) (s : ByteArray) (K : AV → List Dn.Obj → Prop) : (funA (E9 κ) 12 17 [.lit (.string s)] [] K) = (
  K (AV.agg [AV.int 1, AV.str s, AV.int 0, AV.lst 43 []]) []) := by kernel_rfl
def g13 : List AV → Option (Bool × AV)
  | [.lit (.string s)] => some (true, tvA s)
  | _ => none
theorem c13 (κ : Kp) : FreshOk (E9 κ) 12 17 g13 := by
  intro args x hh
  unfold g13 at hh
  split at hh
  · rename_i s
    simp only [Option.some.injEq, Prod.mk.injEq, true_and] at hh
    subst hh
    exact ⟨rfl, Eq.mpr (y13 κ s _) rfl⟩
  · cases hh
noncomputable def E13 (κ : Kp) : Env := (E9 κ).addFresh 17 g13
theorem e13 (κ : Kp) : EnvOK (E13 κ) := (e9 κ).addFresh (m9 κ) (c13 κ)
theorem m13 (κ : Kp) : EnvMono (E13 κ) := (m9 κ).addFresh
theorem y14 (κ : Kp) (r s : ByteArray) (K : AV → List Dn.Obj → Prop) : (funA (E13 κ) 12 18 [.lit (.string r), .lit (.string s)] [] K) = (
  K (AV.agg [AV.str r, AV.lst 43 [AV.agg [AV.int 1, AV.str s, AV.int 0, AV.lst 43 []]]]) []) := by kernel_rfl
def g14 : List AV → Option (Bool × AV)
  | [.lit (.string r), .lit (.string s)] => some (true, .agg [.lit (.string r), .lst 43 [tvA s]])
  | _ => none
theorem c14 (κ : Kp) : FreshOk (E13 κ) 12 18 g14 := by
  intro args x hh
  unfold g14 at hh
  split at hh
  · rename_i r s
    simp only [Option.some.injEq, Prod.mk.injEq, true_and] at hh
    subst hh
    exact ⟨rfl, Eq.mpr (y14 κ r s _) rfl⟩
  · cases hh
noncomputable def E14 (κ : Kp) : Env := (E13 κ).addFresh 18 g14
theorem e14 (κ : Kp) : EnvOK (E14 κ) := (e13 κ).addFresh (m13 κ) (c14 κ)
theorem m14 (κ : Kp) : EnvMono (E14 κ) := (m13 κ).addFresh
theorem x15 (κ : Kp) (l m : List AV) (i : Int) (I : Nat → S → Prop) (n : Nat) (K : Exit → S → Prop) : (vc (E14 κ) 12 11 none 0 (loopCode (Pr κ).toProgram 11 4) (sp 26 [(0, .lst 3 l), (1, .lst 3 m), (5, .int i)] []) (loopK (E14 κ) 11 4 0 I n K)) = (
  brn (decide (i < (↑(List.length l) : Int))) (cnd (decide ((0 : Int) ≤ i) && decide (i < (↑(List.length l) : Int))) (cnd (decide ((0 : Int) ≤ i) && decide (i <
  (↑(List.length m) : Int))) (brn (toInt (nth l (Int.toNat i)) != toInt (nth m (Int.toNat i))) (K Exit.ret (sp 26 [(4, AV.bool false)] [])) (∃ (m_1 : Nat), m_1 <
  n ∧ I m_1 (sp 26 [(0, AV.lst 3 l), (1, AV.lst 3 m), (5, AV.int (IntKind.wrap IntKind.i64 (i + (1 : Int))))] []))))) (K (Exit.exit 0) (sp 26 [] []))) := by kernel_rfl
def sameI (l m : List AV) : Bool := decide (l.map toInt = m.map toInt)
abbrev st15l (a : List AV × List AV × Int) : S := sp 26 [(0, .lst 3 a.1), (1, .lst 3 a.2.1), (5, .int a.2.2)] []
def side15l (a : List AV × List AV × Int) : Prop := a.1.length = a.2.1.length ∧ a.1.length ≤ maxI ∧ 0 ≤ a.2.2 ∧ a.2.2 ≤ a.1.length
def out15l (a : List AV × List AV × Int) : Out (Exit × S) := .brn (sameI (a.1.drop a.2.2.toNat) (a.2.1.drop a.2.2.toNat)) (.one (.exit 0, sp 26 [] [])) (.one (.ret, sp 26 [(4, .bool false)] []))
theorem l15 (κ : Kp) : LoopOk (E14 κ) 12 11 4 (loopE 0 st15l side15l out15l) := by
  refine loopE_ok (fun a => a.1.length - a.2.2.toNat) ?_
  rintro ⟨l, m, i⟩ K ⟨h1, h2, h3, h4⟩ ho
  simp only at h1 h2 h3 h4
  rw [show (E14 κ).P = Pr κ from rfl]
  refine Eq.mpr (x15 κ l m i _ _ K) ?_
  simp only [maxI] at h2
  simp only [out15l, Out.run, brn_iff] at ho
  simp only [brn_iff, cnd_iff, decide_eq_true_eq, decide_eq_false_iff_not, Bool.and_eq_true, bne_iff_ne, bne_eq_false_iff_eq]
  refine ⟨fun hi => ⟨⟨h3, hi⟩, ⟨h3, by omega⟩, ?_⟩, fun hi => ?_⟩
  · rw [List.drop_eq_getElem_cons (show i.toNat < l.length by omega), ← nth_get l i.toNat (by omega), List.drop_eq_getElem_cons (show i.toNat < m.length by omega), ← nth_get m i.toNat (by omega)] at ho
    simp only [sameI, List.map_cons, List.cons.injEq] at ho
    refine ⟨fun e => ho.2 (by simp [e]), fun e => ?_⟩
    rw [wrap_ok (n := i + 1) (by omega) (by omega)]
    refine ⟨_, ?_, (l, m, i + 1), rfl, ⟨h1, by simpa [maxI] using h2, by simp only; omega, by simp only; omega⟩, rfl, ?_⟩
    · simp only; omega
    · simp only [out15l, Out.run, brn_iff, show (i + 1).toNat = i.toNat + 1 by omega, sameI]
      simpa [e] using ho
  · rw [List.drop_eq_nil_of_le (by omega), List.drop_eq_nil_of_le (by omega)] at ho
    exact ho.1 rfl
noncomputable def E15l (κ : Kp) : Env := (E14 κ).addLoop 11 4 (loopE 0 st15l side15l out15l)
theorem e15l (κ : Kp) : EnvOK (E15l κ) := (e14 κ).addLoop (m14 κ) (l15 κ)
theorem m15l (κ : Kp) : EnvMono (E15l κ) := (m14 κ).addLoop loopE_mono
theorem y15 (κ : Kp) (l m : List AV) (K : AV → List Dn.Obj → Prop) : (funA (E15l κ) 12 11 [.lst 3 l, .lst 3 m] [] K) = (
  brn ((↑(List.length l) : Int) != (↑(List.length m) : Int)) (K (AV.bool false) []) (loopCode (Pg.toProgram (Env.P (E14 κ))) 11 4 = loopCode (Pg.toProgram (Env.P
  (E14 κ))) 11 4 ∧ ∃ (a : List AV × List AV × Int), sp 26 [(0, AV.lst 3 l), (1, AV.lst 3 m), (5, AV.int 0)] [] = sp 26 [(0, AV.lst 3 (Prod.fst a)), (1, AV.lst 3
  (Prod.fst (Prod.snd a))), (5, AV.int (Prod.snd (Prod.snd a)))] [] ∧ (List.length (Prod.fst a) = List.length (Prod.fst (Prod.snd a)) ∧ List.length (Prod.fst a)
  ≤ 9223372036854775807 ∧ (0 : Int) ≤ Prod.snd (Prod.snd a) ∧ Prod.snd (Prod.snd a) ≤ (↑(List.length (Prod.fst a)) : Int)) ∧ brn (sameI (List.drop (Int.toNat
  (Prod.snd (Prod.snd a))) (Prod.fst a)) (List.drop (Int.toNat (Prod.snd (Prod.snd a))) (Prod.fst (Prod.snd a)))) (K (AV.bool true) []) (K (AV.bool false) []))) := by kernel_rfl
def g15 : List AV → Option (Bool × AV)
  | [.lst 3 l, .lst 3 m] => some (decide (l.length ≤ maxI), .bool (sameI l m))
  | _ => none
theorem p15 (κ : Kp) : PureOk (E15l κ) 12 11 g15 := by
  intro args x hh
  unfold g15 at hh
  split at hh
  · rename_i l m
    simp only [Option.some.injEq, Prod.mk.injEq, decide_eq_true_eq] at hh
    obtain ⟨h1, rfl⟩ := hh
    refine ⟨_, rfl, rfl, ?_⟩
    refine Eq.mpr (y15 κ l m _) ?_
    simp only [brn_iff, bne_iff_ne, bne_eq_false_iff_eq]
    refine ⟨fun e => ?_, fun e => ⟨trivial, (l, m, 0), rfl, ⟨by simp only; omega, h1, by simp only; omega, by simp only; omega⟩, ?_⟩⟩
    · have : sameI l m = false := by
        unfold sameI
        rw [decide_eq_false]
        intro h
        have := congrArg List.length h
        simp at this; omega
      rw [this]
    · simp only [Int.toNat_zero, List.drop_zero]
      exact ⟨fun e => by rw [e], fun e => by rw [e]⟩
  · cases hh
noncomputable def E15 (κ : Kp) : Env := (E15l κ).addPure 11 g15
theorem e15 (κ : Kp) : EnvOK (E15 κ) := (e15l κ).addPure (m15l κ) (p15 κ)
theorem m15 (κ : Kp) : EnvMono (E15 κ) := (m15l κ).addPure
theorem y6 (κ : Kp) (K : AV → List Dn.Obj → Prop) : (funA (E15 κ) 12 5 [] [] K) = (
  ∃ (a : A45), ([AV.agg [AV.agg [AV.str { data := #[OfNat.ofNat 112] }, AV.lst 43 [AV.agg [AV.int 1, AV.str { data := #[OfNat.ofNat 120] }, AV.int 0, AV.lst 43
  []]]], AV.lst 46 [AV.agg [AV.int 3, AV.agg [AV.str { data := #[] }, AV.nil], AV.agg [AV.int 1, AV.str { data := #[OfNat.ofNat 121] }, AV.int 0, AV.lst 43 []],
  AV.agg [AV.int 5, AV.str { data := #[] }, AV.int 0, AV.lst 43 [AV.agg [AV.int 1, AV.str { data := #[OfNat.ofNat 120] }, AV.int 0, AV.lst 43 []], AV.agg [AV.int
  2, AV.str { data := #[] }, AV.int 1, AV.nil]]]], AV.agg [AV.int 1, AV.agg [AV.str { data := #[OfNat.ofNat 113] }, AV.lst 43 [AV.agg [AV.int 1, AV.str
  { data := #[OfNat.ofNat 120] }, AV.int 0, AV.lst 43 []]]], AV.agg [AV.int 0, AV.str { data := #[] }, AV.int 0, AV.nil], AV.agg [AV.int 0, AV.str
  { data := #[] }, AV.int 0, AV.nil]], AV.agg [AV.int 5, AV.agg [AV.str { data := #[] }, AV.nil], AV.agg [AV.int 1, AV.str { data := #[OfNat.ofNat 121] }, AV.int
  0, AV.lst 43 []], AV.agg [AV.int 2, AV.str { data := #[] }, AV.int 3, AV.nil]]], AV.int 0]], nilO) = ([AV.agg [AV.agg [AV.str (A45.rel a), AV.lst 43 (A45.hl
  a)], AV.lst 46 (A45.bl a), AV.int (A45.line a)]], nilO) ∧ (cntL (tmsOf (ruleTs 43 (A45.hl a) (A45.bl a))) ≤ 100000 ∧ List.length (A45.bl a) ≤ 100000) ∧ brn
  (rightR (rOf a)) (brn (safeR (rOf a)) (∃ (a_1 : A45), ([AV.agg [AV.agg [AV.str { data := #[OfNat.ofNat 112] }, AV.lst 43 [AV.agg [AV.int 1, AV.str
  { data := #[OfNat.ofNat 120] }, AV.int 0, AV.lst 43 []]]], AV.lst 46 [AV.agg [AV.int 2, AV.agg [AV.str { data := #[OfNat.ofNat 113] }, AV.lst 43 [AV.agg
  [AV.int 1, AV.str { data := #[OfNat.ofNat 120] }, AV.int 0, AV.lst 43 []]]], AV.agg [AV.int 0, AV.str { data := #[] }, AV.int 0, AV.nil], AV.agg [AV.int 0,
  AV.str { data := #[] }, AV.int 0, AV.nil]]], AV.int 0]], nilO) = ([AV.agg [AV.agg [AV.str (A45.rel a_1), AV.lst 43 (A45.hl a_1)], AV.lst 46 (A45.bl a_1),
  AV.int (A45.line a_1)]], nilO) ∧ (cntL (tmsOf (ruleTs 43 (A45.hl a_1) (A45.bl a_1))) ≤ 100000 ∧ List.length (A45.bl a_1) ≤ 100000) ∧ brn (rightR (rOf a_1))
  (brn (safeR (rOf a_1)) (K (AV.bool false) []) (cnd (decide (List.length (List.take (List.length (walkR (rOf a))) (List.drop 0 (ints (walkR (rOf a))))) ≤
  9223372036854775807)) (K (AV.lit (Value.bool (sameI (List.take (List.length (walkR (rOf a))) (List.drop 0 (ints (walkR (rOf a))))) [AV.int 1, AV.int 0, AV.int
  2]))) []))) (K (AV.bool false) [])) (∃ (a : A45), ([AV.agg [AV.agg [AV.str { data := #[OfNat.ofNat 112] }, AV.lst 43 [AV.agg [AV.int 1, AV.str
  { data := #[OfNat.ofNat 120] }, AV.int 0, AV.lst 43 []]]], AV.lst 46 [AV.agg [AV.int 2, AV.agg [AV.str { data := #[OfNat.ofNat 113] }, AV.lst 43 [AV.agg
  [AV.int 1, AV.str { data := #[OfNat.ofNat 120] }, AV.int 0, AV.lst 43 []]]], AV.agg [AV.int 0, AV.str { data := #[] }, AV.int 0, AV.nil], AV.agg [AV.int 0,
  AV.str { data := #[] }, AV.int 0, AV.nil]]], AV.int 0]], nilO) = ([AV.agg [AV.agg [AV.str (A45.rel a), AV.lst 43 (A45.hl a)], AV.lst 46 (A45.bl a), AV.int
  (A45.line a)]], nilO) ∧ (cntL (tmsOf (ruleTs 43 (A45.hl a) (A45.bl a))) ≤ 100000 ∧ List.length (A45.bl a) ≤ 100000) ∧ brn (rightR (rOf a)) (brn (safeR (rOf a))
  (K (AV.bool false) []) (K (AV.bool false) [])) (K (AV.bool false) []))) (∃ (a : A45), ([AV.agg [AV.agg [AV.str { data := #[OfNat.ofNat 112] }, AV.lst 43
  [AV.agg [AV.int 1, AV.str { data := #[OfNat.ofNat 120] }, AV.int 0, AV.lst 43 []]]], AV.lst 46 [AV.agg [AV.int 2, AV.agg [AV.str
  { data := #[OfNat.ofNat 113] }, AV.lst 43 [AV.agg [AV.int 1, AV.str { data := #[OfNat.ofNat 120] }, AV.int 0, AV.lst 43 []]]], AV.agg [AV.int 0, AV.str
  { data := #[] }, AV.int 0, AV.nil], AV.agg [AV.int 0, AV.str { data := #[] }, AV.int 0, AV.nil]]], AV.int 0]], nilO) = ([AV.agg [AV.agg [AV.str (A45.rel a),
  AV.lst 43 (A45.hl a)], AV.lst 46 (A45.bl a), AV.int (A45.line a)]], nilO) ∧ (cntL (tmsOf (ruleTs 43 (A45.hl a) (A45.bl a))) ≤ 100000 ∧ List.length (A45.bl a) ≤
  100000) ∧ brn (rightR (rOf a)) (brn (safeR (rOf a)) (K (AV.bool false) []) (K (AV.bool false) [])) (K (AV.bool false) []))) := by kernel_rfl
abbrev zTA : AV := .agg [.int 0, .lit (.string s0), .int 0, .nil]
abbrev zAA : AV := .agg [.lit (.string s0), .nil]
abbrev atA (r s : ByteArray) : AV := .agg [.lit (.string r), .lst 43 [tvA s]]
abbrev tiA (n : Int) : AV := .agg [.int 2, .lit (.string s0), .int n, .nil]
def aA : A45 := ⟨[], [], sp', [tvA sx], [.agg [.int 3, zAA, tvA sy, .agg [.int 5, .lit (.string s0), .int 0, .lst 43 [tvA sx, tiA 1]]], .agg [.int 1, atA sq sx, zTA, zTA], .agg [.int 5, zAA, tvA sy, tiA 3]], 0, 0⟩
def aB : A45 := ⟨[], [], sp', [tvA sx], [.agg [.int 2, atA sq sx, zTA, zTA]], 0, 0⟩
theorem tm_tv (s : ByteArray) : tmOf (tvA s) = tv s := by rw [tmOf_agg]; rfl
theorem tm_ti (n : Int) : tmOf (tiA n) = ti n := by rw [tmOf_eq]; rfl
theorem tm_z : tmOf zTA = t0 := by rw [tmOf_eq]; rfl
theorem rOf_aA : rOf aA = ruleA := by
  have e5 : tmOf (.agg [.int 5, .lit (.string s0), .int 0, .lst 43 [tvA sx, tiA 1]]) = .mk 5 s0 0 [tv sx, ti 1] := by
    rw [tmOf_agg]; simp only [tmsOf, List.map_cons, List.map_nil, tm_tv, tm_ti]
  simp only [rOf, aA, ruleA, tmsOf, ltsOf, List.map_cons, List.map_nil, tm_tv, ltOf, atOf, fld, nth, tm_z, tm_ti, e5, toLst, toInt, toStr]
  rfl
theorem rOf_aB : rOf aB = ruleB := by
  simp only [rOf, aB, ruleB, tmsOf, ltsOf, List.map_cons, List.map_nil, tm_tv, ltOf, atOf, fld, nth, tm_z, toLst, toInt, toStr]
theorem side_aA : side42 aA := by
  refine ⟨?_, by simp [aA]⟩
  have := ruleTs_cnt 43 aA.rel aA.hl aA.bl
  rw [show (⟨⟨aA.rel, tmsOf aA.hl⟩, ltsOf aA.bl⟩ : Rl) = rOf aA from rfl, rOf_aA] at this
  rw [this]; decide
theorem side_aB : side42 aB := by
  refine ⟨?_, by simp [aB]⟩
  have := ruleTs_cnt 43 aB.rel aB.hl aB.bl
  rw [show (⟨⟨aB.rel, tmsOf aB.hl⟩, ltsOf aB.bl⟩ : Rl) = rOf aB from rfl, rOf_aB] at this
  rw [this]; decide
def g6 : List AV → Option (Bool × AV)
  | [] => some (true, .bool true)
  | _ => none
theorem p6 (κ : Kp) : PureOk (E15 κ) 12 5 g6 := by
  intro args x hh
  unfold g6 at hh
  split at hh
  · simp only [Option.some.injEq, Prod.mk.injEq, true_and] at hh
    subst hh
    refine ⟨_, rfl, rfl, ?_⟩
    refine Eq.mpr (y6 κ _) ?_
    refine ⟨aA, rfl, side_aA, ?_⟩
    rw [rOf_aA, right_A, safe_A, walk_A]
    refine ⟨aB, rfl, side_aB, ?_⟩
    rw [rOf_aB, right_B, safe_B]
    rfl
  · cases hh
noncomputable def E6 (κ : Kp) : Env := (E15 κ).addPure 5 g6
theorem e6 (κ : Kp) : EnvOK (E6 κ) := (e15 κ).addPure (m15 κ) (p6 κ)
theorem m6 (κ : Kp) : EnvMono (E6 κ) := (m15 κ).addPure
end Go.Proofs.YtpgahkbkfflkaaaGreatDoor
namespace Go.Proofs.YtpgahkbkfflkaaaGreatDoor
open Go Go.Dn Go.Rl Go.Proofs Go.ChangeShapes Go.WideShapes Go.ChangeAt Go.RowKit
theorem own : ownKnob Tryz.prog.godebug = none := by kernel_rfl
theorem laid_out : laidOutB Tryz.prog = true := by kernel_rfl
abbrev laidL : List (String × DataW Unit) := [("sorites/dtree.errTree", Rows.laid_sorites_dtree_errTree), ("sorites/dsafe.errStuck", Rows.laid_sorites_dsafe_errStuck)]
theorem gTree : Tryz.prog.globalNamed "sorites/dtree.errTree" = some 1 := by kernel_rfl
theorem gStuck : Tryz.prog.globalNamed "sorites/dsafe.errStuck" = some 0 := by kernel_rfl
theorem gTreeT : (Tryz.prog.globals[1]?).map (·.type) = some 54 := by kernel_rfl
theorem gStuckT : (Tryz.prog.globals[0]?).map (·.type) = some 54 := by kernel_rfl
theorem cellsE : Tryz.prog.cellsOf 155 = 1 := by kernel_rfl
theorem cellsS : Tryz.prog.cellsOf 9 = 1 := by kernel_rfl
theorem starE : "*" ++ "errors.errorString" = "*errors.errorString" := by decide
theorem rowE (u : TypeId) (h : Tryz.prog.typeName? 3 u = some "*errors.errorString") : u = 129 :=
  typeName_ptr_named (nm := "errors.errorString") (by rw [starE]; kernel_rfl) (by kernel_rfl) (by decide) u (by rw [starE]; exact h)
theorem var_block {P : Program} {w : World} {n : String} {g : Nat} {cs : Array Value} (hg : P.globalNamed n = some g) (h : w.var? P n = some cs) : ∃ T z, w.heap[g]? = some (.cells cs T z) := by
  simp only [World.var?, hg, Option.bind_some] at h
  split at h
  · rename_i cs' T z e
    cases h
    exact ⟨T, z, e⟩
  · cases h
theorem kept_of_laid {W : World} (h : laidMetH Tryz.prog laidL W) : ∃ κ : Kp, ∀ b o, keptO κ b = some o → W.heap[b]? = some o := by
  have h' : laidMet Tryz.prog laidL W := h
  obtain ⟨a0, a1, s0, s1, c0, c1, t0, t1, hv0, hv1, _⟩ := laid_sentinels2 h' gTree gTreeT gStuck gStuckT Tryz.underlying54 rowE Tryz.underlying129 Tryz.underlying155 rfl rfl Tryz.underlying9 cellsE cellsS
  obtain ⟨T1, z1, e1⟩ := var_block gTree hv0
  obtain ⟨T2, z2, e2⟩ := var_block gStuck hv1
  refine ⟨⟨a0, a1, T1, T2, z1, z2⟩, fun b o hb => ?_⟩
  unfold keptO at hb
  cases e3 : Nat.beq b 1 with
  | true =>
    rw [e3, cond_true] at hb
    cases hb
    rw [Nat.eq_of_beq_eq_true e3]; exact e1
  | false =>
    rw [e3, cond_false] at hb
    cases e4 : Nat.beq b 0 with
    | true =>
      rw [e4, cond_true] at hb
      cases hb
      rw [Nat.eq_of_beq_eq_true e4]; exact e2
    | false => rw [e4] at hb; cases hb
abbrev treeS : ByteArray := { data := #[110, 111, 32, 116, 114, 101, 101] }
abbrev stuckS : ByteArray := { data := #[110, 111, 32, 112, 97, 114, 116, 32, 105, 115, 32, 114, 101, 97, 100, 121] }
noncomputable def low : Nat := (World.holding Tryz.prog default ⟨#[], #[], []⟩).heap.size
noncomputable def laidWorld (os : Os) : World :=
  let w0 := World.holding Tryz.prog os ⟨#[.cells #[.string treeS] 155, .cells #[.string stuckS] 155], #[], []⟩
  { w0 with heap := (w0.heap.modify 1 fun
      | .cells _ t frozen => .cells #[.iface 129 (.pointer (some ⟨low, 0, none⟩))] t frozen
      | o => o).modify 0 fun
      | .cells _ t frozen => .cells #[.iface 129 (.pointer (some ⟨low + 1, 0, none⟩))] t frozen
      | o => o }
theorem laid_met (os : Os) (args : Array Value) : laidMetH Tryz.prog laidL ((laidWorld os).forCall (fun _ _ => 0) ⟨#[], args, []⟩).memory :=
  laidMetH_of_parts (laidMet_of_run (ps := [.cell 1 0, .cell low 0, .cell 0 0, .cell (low + 1) 0]) 8 (by kernel_rfl) (by kernel_rfl) (by kernel_rfl)) (by kernel_rfl)
end Go.Proofs.YtpgahkbkfflkaaaGreatDoor
namespace Go.Proofs.YtpgahkbkfflkaaaGreatDoor
open Go Go.Dn Go.Rl Go.Proofs
attribute [local irreducible] funA vc
set_option maxRecDepth 20000
theorem x27 (κ : Kp) (l : List AV) (s : ByteArray) (i : Int) (I : Nat → S → Prop) (n : Nat) (K : Exit → S → Prop) : (vc (E6 κ) 12 62 none 0 (loopCode (Pr κ).toProgram 62 2) (sp 19 [(0, .lst 9 l), (1, .lit (.string s)), (5, .int i)] []) (loopK (E6 κ) 62 2 0 I n K)) = (
  brn (decide (i < (↑(List.length l) : Int))) (cnd (decide ((0 : Int) ≤ i) && decide (i < (↑(List.length l) : Int))) (brn (ByteArray.toList (toStr (nth l
  (Int.toNat i))) == ByteArray.toList s) (K Exit.ret (sp 19 [(4, AV.int i)] [])) (∃ (m : Nat), m < n ∧ I m (sp 19 [(0, AV.lst 9 l), (1, AV.str s), (5, AV.int
  (IntKind.wrap IntKind.i64 (i + (1 : Int))))] [])))) (K (Exit.exit 0) (sp 19 [] []))) := by kernel_rfl
abbrev st27 (a : List AV × ByteArray × Int) : S := sp 19 [(0, .lst 9 a.1), (1, .lit (.string a.2.1)), (5, .int a.2.2)] []
def out27 (a : List AV × ByteArray × Int) : Out (Exit × S) := .brn (decide (placeS a.2.1 (a.1.drop a.2.2.toNat) a.2.2 ≥ 0)) (.one (.ret, sp 19 [(4, .int (placeS a.2.1 (a.1.drop a.2.2.toNat) a.2.2))] [])) (.one (.exit 0, sp 19 [] []))
theorem eqS_comm (a b : ByteArray) : eqS a b = eqS b a := by
  rw [eqS_eq, eqS_eq, Bool.eq_iff_iff, beq_iff_eq, beq_iff_eq]
  exact ⟨fun h => h.symm, fun h => h.symm⟩
theorem l27 (κ : Kp) : LoopOk (E6 κ) 12 62 2 (loopE 0 st27 side65 out27) := by
  refine loopE_ok (fun a => a.1.length - a.2.2.toNat) ?_
  rintro ⟨l, s, i⟩ K ⟨h1, h2, h3⟩ ho
  simp only at h1 h2 h3
  rw [show (E6 κ).P = Pr κ from rfl]
  refine Eq.mpr (x27 κ l s i _ _ K) ?_
  simp only [maxI] at h1
  simp only [out27, Out.run, brn_iff] at ho
  simp only [brn_iff, cnd_iff, decide_eq_true_eq, decide_eq_false_iff_not, Bool.and_eq_true]
  refine ⟨fun hi => ⟨⟨h2, hi⟩, fun e => ?_, fun e => ?_⟩, fun hi => ?_⟩
  · rw [List.drop_eq_getElem_cons (show i.toNat < l.length by omega), ← nth_get l i.toNat (by omega), placeS, eqS_comm, show eqS (toStr (nth l i.toNat)) s = true from e, cond_true, decide_eq_true (show i ≥ 0 from h2)] at ho
    exact ho.1 rfl
  · rw [wrap_ok (n := i + 1) (by omega) (by omega)]
    refine ⟨_, ?_, (l, s, i + 1), rfl, ⟨by simpa [maxI] using h1, by simp only; omega, by simp only; omega⟩, rfl, ?_⟩
    · simp only; omega
    · rw [List.drop_eq_getElem_cons (show i.toNat < l.length by omega), ← nth_get l i.toNat (by omega), placeS, eqS_comm, show eqS (toStr (nth l i.toNat)) s = false from e, cond_false] at ho
      simp only [out27, Out.run, brn_iff, show (i + 1).toNat = i.toNat + 1 by omega]
      exact ho
  · rw [List.drop_eq_nil_of_le (by omega)] at ho
    exact ho.2 rfl
noncomputable def E27l (κ : Kp) : Env := (E6 κ).addLoop 62 2 (loopE 0 st27 side65 out27)
theorem e27l (κ : Kp) : EnvOK (E27l κ) := (e6 κ).addLoop (m6 κ) (l27 κ)
theorem m27l (κ : Kp) : EnvMono (E27l κ) := (m6 κ).addLoop loopE_mono
theorem y27 (κ : Kp) (l : List AV) (s : ByteArray) (K : AV → List Dn.Obj → Prop) : (funA (E27l κ) 12 62 [.lst 9 l, .lit (.string s)] [] K) = (
  loopCode (Pg.toProgram (Env.P (E6 κ))) 62 2 = loopCode (Pg.toProgram (Env.P (E6 κ))) 62 2 ∧ ∃ (a : List AV × ByteArray × Int), sp 19 [(0, AV.lst 9 l), (1, AV.str
  s), (5, AV.int 0)] [] = sp 19 [(0, AV.lst 9 (Prod.fst a)), (1, AV.str (Prod.fst (Prod.snd a))), (5, AV.int (Prod.snd (Prod.snd a)))] [] ∧ (List.length
  (Prod.fst a) ≤ 9223372036854775807 ∧ (0 : Int) ≤ Prod.snd (Prod.snd a) ∧ Prod.snd (Prod.snd a) ≤ (↑(List.length (Prod.fst a)) : Int)) ∧ brn (decide (placeS
  (Prod.fst (Prod.snd a)) (List.drop (Int.toNat (Prod.snd (Prod.snd a))) (Prod.fst a)) (Prod.snd (Prod.snd a)) ≥ (0 : Int))) (K (AV.int (placeS (Prod.fst
  (Prod.snd a)) (List.drop (Int.toNat (Prod.snd (Prod.snd a))) (Prod.fst a)) (Prod.snd (Prod.snd a)))) []) (K (AV.int (-1)) [])) := by kernel_rfl
theorem p27 (κ : Kp) : PureOk (E27l κ) 12 62 g65 := by
  intro args x hh
  unfold g65 at hh
  split at hh
  · rename_i l s
    simp only [Option.some.injEq, Prod.mk.injEq, decide_eq_true_eq] at hh
    obtain ⟨h1, rfl⟩ := hh
    refine ⟨_, rfl, rfl, ?_⟩
    refine Eq.mpr (y27 κ l s _) ?_
    refine ⟨rfl, (l, s, 0), rfl, ⟨h1, by simp only; omega, by simp only; omega⟩, ?_⟩
    simp only [Int.toNat_zero, List.drop_zero, brn_iff, decide_eq_true_eq, decide_eq_false_iff_not]
    exact ⟨fun _ => trivial, fun e => by rw [placeS_neg s l 0 e (by omega)]⟩
  · cases hh
noncomputable def E27 (κ : Kp) : Env := (E27l κ).addPure 62 g65
theorem e27 (κ : Kp) : EnvOK (E27 κ) := (e27l κ).addPure (m27l κ) (p27 κ)
theorem m27 (κ : Kp) : EnvMono (E27 κ) := (m27l κ).addPure
theorem y11 (κ : Kp) (l : List AV) (s : ByteArray) (K : AV → List Dn.Obj → Prop) : (funA (E27 κ) 12 37 [.lst 9 l, .lit (.string s)] [] K) = (
  cnd (decide (List.length l ≤ 9223372036854775807)) (K (AV.int (placeS s l (0 : Int))) [])) := by kernel_rfl
theorem p11 (κ : Kp) : PureOk (E27 κ) 12 37 g65 := by
  intro args x hh
  unfold g65 at hh
  split at hh
  · rename_i l s
    simp only [Option.some.injEq, Prod.mk.injEq, decide_eq_true_eq] at hh
    obtain ⟨h1, rfl⟩ := hh
    refine ⟨_, rfl, rfl, ?_⟩
    refine Eq.mpr (y11 κ l s _) ?_
    rw [cnd_iff, decide_eq_true_eq]
    exact ⟨h1, rfl⟩
  · cases hh
noncomputable def E11 (κ : Kp) : Env := (E27 κ).addPure 37 g65
theorem e11 (κ : Kp) : EnvOK (E11 κ) := (e27 κ).addPure (m27 κ) (p11 κ)
theorem m11 (κ : Kp) : EnvMono (E11 κ) := (m27 κ).addPure
end Go.Proofs.YtpgahkbkfflkaaaGreatDoor
