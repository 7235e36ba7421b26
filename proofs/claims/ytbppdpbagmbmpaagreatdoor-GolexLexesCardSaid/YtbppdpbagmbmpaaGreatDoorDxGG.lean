import Derived.Test.YtbppdpbagmbmpaaGreatDoorDxGF
namespace Go.Proofs.YtbppdpbagmbmpaaGreatDoor
open Go Go.Dn Go.Proofs
attribute [local irreducible] funA vc
set_option maxRecDepth 20000
noncomputable def BGe (κ : Kp) : EB := ⟨(BAs κ).E.withGen (fun f => memN f [49]), (BAs κ).ok.withGen _, (BAs κ).mono.withGen _⟩
theorem zI0 (κ : Kp) (x : AIn) (I : Nat → S → Prop) (n : Nat) (K : Exit → S → Prop) : (vc (BGe κ).E 12 28 none 11 (loopCode (Pr κ).toProgram 28 1) (stI0 κ x) (loopK (BGe κ).E 28 1 11 I n K)) = (
  brn (ByteArray.toList { data := List.toArray (Lib.trimLeftS (bl x.t) (bl { data := #[OfNat.ofNat 32, OfNat.ofNat 9] })) } == ByteArray.toList { data := #[] }) (K
  (Exit.exit 0) (sp 45 [(0, AV.yld 10), (2, AV.ptr 9 0 [] 0), (4, AV.ptr 11 0 [] 0)] [Obj.box 24 (AV.slc 7 0 x.toks.length), Obj.box 35 (AV.lit Value.nilIface),
  Obj.box 3 (AV.int (IntKind.wrap IntKind.i64 (x.ln + (1 : Int)))), Obj.dead, Obj.dead, Obj.dead, Dn.Obj.loop (lpA Tryz.prog 10 7 LoopState.busy none (spR (junks
  58) [(0, AV.str x.s), (2, AV.nil), (3, AV.int 0), (4, AV.int 0), (5, AV.ptr 0 0 [] 0), (6, AV.ptr 1 0 [] 0), (7, AV.ptr 2 0 [] 0), (12, AV.str x.s), (13,
  AV.int (↑(ByteArray.size x.s) : Int)), (14, AV.bool false), (15, AV.str x.s), (16, AV.clo 49 [AV.ptr 4 0 [] 0, AV.ptr 3 0 [] 0, AV.ptr 5 0 [] 0])])), Obj.row
  31 x.toks, Obj.box 9 (AV.lit (Value.string { data := List.toArray (Lib.trimLeftS (bl x.t) (bl { data := #[OfNat.ofNat 32, OfNat.ofNat 9] })) })), Obj.box 3
  (AV.int (IntKind.wrap IntKind.i64 (x.ln + (1 : Int)))), Dn.Obj.loop (lpA Tryz.prog 10 10 LoopState.ready none (spR (junks 58) [(0, AV.str x.s), (2, AV.nil),
  (3, AV.int 0), (4, AV.int 0), (5, AV.ptr 0 0 [] 0), (6, AV.ptr 1 0 [] 0), (7, AV.ptr 2 0 [] 0), (8, AV.str x.l), (12, AV.str x.s), (13, AV.int
  (↑(ByteArray.size x.s) : Int)), (14, AV.bool false), (15, AV.str x.s), (16, AV.clo 49 [AV.ptr 4 0 [] 0, AV.ptr 3 0 [] 0, AV.ptr 5 0 [] 0]), (17, AV.str x.l),
  (18, AV.int x.ln), (19, AV.int (IntKind.wrap IntKind.i64 (x.ln + (1 : Int)))), (20, AV.str x.l), (21, AV.int (IntKind.wrap IntKind.i64 (x.ln + (1 : Int)))),
  (22, AV.clo 28 [AV.ptr 8 0 [] 0, AV.ptr 9 0 [] 0])])), Obj.box 31 (AV.agg [AV.int x.k, AV.str x.q, AV.int x.z])])) (brn (hasP
  { data := List.toArray (Lib.trimLeftS (bl x.t) (bl { data := #[OfNat.ofNat 32, OfNat.ofNat 9] })) } { data := #[OfNat.ofNat 47, OfNat.ofNat 47] }) (K
  (Exit.exit 0) (sp 45 [(0, AV.yld 10), (2, AV.ptr 9 0 [] 0), (4, AV.ptr 11 0 [] 0)] [Obj.box 24 (AV.slc 7 0 x.toks.length), Obj.box 35 (AV.lit Value.nilIface),
  Obj.box 3 (AV.int (IntKind.wrap IntKind.i64 (x.ln + (1 : Int)))), Obj.dead, Obj.dead, Obj.dead, Dn.Obj.loop (lpA Tryz.prog 10 7 LoopState.busy none (spR (junks
  58) [(0, AV.str x.s), (2, AV.nil), (3, AV.int 0), (4, AV.int 0), (5, AV.ptr 0 0 [] 0), (6, AV.ptr 1 0 [] 0), (7, AV.ptr 2 0 [] 0), (12, AV.str x.s), (13,
  AV.int (↑(ByteArray.size x.s) : Int)), (14, AV.bool false), (15, AV.str x.s), (16, AV.clo 49 [AV.ptr 4 0 [] 0, AV.ptr 3 0 [] 0, AV.ptr 5 0 [] 0])])), Obj.row
  31 x.toks, Obj.box 9 (AV.lit (Value.string { data := List.toArray (Lib.trimLeftS (bl x.t) (bl { data := #[OfNat.ofNat 32, OfNat.ofNat 9] })) })), Obj.box 3
  (AV.int (IntKind.wrap IntKind.i64 (x.ln + (1 : Int)))), Dn.Obj.loop (lpA Tryz.prog 10 10 LoopState.ready none (spR (junks 58) [(0, AV.str x.s), (2, AV.nil),
  (3, AV.int 0), (4, AV.int 0), (5, AV.ptr 0 0 [] 0), (6, AV.ptr 1 0 [] 0), (7, AV.ptr 2 0 [] 0), (8, AV.str x.l), (12, AV.str x.s), (13, AV.int
  (↑(ByteArray.size x.s) : Int)), (14, AV.bool false), (15, AV.str x.s), (16, AV.clo 49 [AV.ptr 4 0 [] 0, AV.ptr 3 0 [] 0, AV.ptr 5 0 [] 0]), (17, AV.str x.l),
  (18, AV.int x.ln), (19, AV.int (IntKind.wrap IntKind.i64 (x.ln + (1 : Int)))), (20, AV.str x.l), (21, AV.int (IntKind.wrap IntKind.i64 (x.ln + (1 : Int)))),
  (22, AV.clo 28 [AV.ptr 8 0 [] 0, AV.ptr 9 0 [] 0])])), Obj.box 31 (AV.agg [AV.int x.k, AV.str x.q, AV.int x.z])])) (∃ (a : ByteArray), ([AV.lit (Value.string
  { data := List.toArray (Lib.trimLeftS (bl x.t) (bl { data := #[OfNat.ofNat 32, OfNat.ofNat 9] })) })], []) = stTk a ∧ sideTk a ∧ brn (Prod.snd (Prod.snd (tk1
  a)) == (0 : Int)) (∃ (a : Int × Int), ([AV.lst 35 [AV.ifc 42 (AV.pim 44 (AV.agg [AV.int (IntKind.wrap IntKind.i64 (x.ln + (1 : Int))), AV.int 160]))]], nilO) =
  ([AV.lst 35 [AV.ifc 42 (AV.pim 44 (AV.agg [AV.int a.1, AV.int a.2]))]], nilO) ∧ True ∧ K Exit.ret (sp 45 [] [Obj.box 24 (AV.slc 7 0 x.toks.length), Obj.box 35
  (AV.ifc 60 (AV.ptr 11 0 [] 0)), Obj.box 3 (AV.int (IntKind.wrap IntKind.i64 (x.ln + (1 : Int)))), Obj.dead, Obj.dead, Obj.dead, Dn.Obj.loop (lpA Tryz.prog 10 7
  LoopState.busy none (spR (junks 58) [(0, AV.str x.s), (2, AV.nil), (3, AV.int 0), (4, AV.int 0), (5, AV.ptr 0 0 [] 0), (6, AV.ptr 1 0 [] 0), (7, AV.ptr 2 0 []
  0), (12, AV.str x.s), (13, AV.int (↑(ByteArray.size x.s) : Int)), (14, AV.bool false), (15, AV.str x.s), (16, AV.clo 49 [AV.ptr 4 0 [] 0, AV.ptr 3 0 [] 0,
  AV.ptr 5 0 [] 0])])), Obj.row 31 x.toks, Obj.box 9 (AV.lit (Value.string
  { data := List.toArray (Lib.trimLeftS (bl x.t) (bl { data := #[OfNat.ofNat 32, OfNat.ofNat 9] })) })), Obj.box 3 (AV.int (IntKind.wrap IntKind.i64 (x.ln + (1 :
  Int)))), Dn.Obj.loop (lpA Tryz.prog 10 10 LoopState.done (some (Code.exit 0)) (spR (junks 58) [(0, AV.str x.s), (2, AV.nil), (3, AV.int 0), (4, AV.int 0), (5,
  AV.ptr 0 0 [] 0), (6, AV.ptr 1 0 [] 0), (7, AV.ptr 2 0 [] 0), (8, AV.str x.l), (12, AV.str x.s), (13, AV.int (↑(ByteArray.size x.s) : Int)), (14, AV.bool
  false), (15, AV.str x.s), (16, AV.clo 49 [AV.ptr 4 0 [] 0, AV.ptr 3 0 [] 0, AV.ptr 5 0 [] 0]), (17, AV.str x.l), (18, AV.int x.ln), (19, AV.int (IntKind.wrap
  IntKind.i64 (x.ln + (1 : Int)))), (20, AV.str x.l), (21, AV.int (IntKind.wrap IntKind.i64 (x.ln + (1 : Int)))), (22, AV.clo 28 [AV.ptr 8 0 [] 0, AV.ptr 9 0 []
  0])])), Obj.box 62 (AV.agg [AV.slc 12 0 1]), Obj.row 35 [AV.ifc 42 (AV.pim 44 (AV.agg [AV.int a.1, AV.int a.2]))]])) (brn ((↑(x.toks.length) : Int) == (300000
  : Int)) (∃ (a : Int × Int), ([AV.lst 35 [AV.ifc 42 (AV.pim 44 (AV.agg [AV.int (IntKind.wrap IntKind.i64 (x.ln + (1 : Int))), AV.int 21]))]], nilO) = ([AV.lst
  35 [AV.ifc 42 (AV.pim 44 (AV.agg [AV.int a.1, AV.int a.2]))]], nilO) ∧ True ∧ K Exit.ret (sp 45 [] [Obj.box 24 (AV.slc 7 0 x.toks.length), Obj.box 35 (AV.ifc
  60 (AV.ptr 11 0 [] 0)), Obj.box 3 (AV.int (IntKind.wrap IntKind.i64 (x.ln + (1 : Int)))), Obj.dead, Obj.dead, Obj.dead, Dn.Obj.loop (lpA Tryz.prog 10 7
  LoopState.busy none (spR (junks 58) [(0, AV.str x.s), (2, AV.nil), (3, AV.int 0), (4, AV.int 0), (5, AV.ptr 0 0 [] 0), (6, AV.ptr 1 0 [] 0), (7, AV.ptr 2 0 []
  0), (12, AV.str x.s), (13, AV.int (↑(ByteArray.size x.s) : Int)), (14, AV.bool false), (15, AV.str x.s), (16, AV.clo 49 [AV.ptr 4 0 [] 0, AV.ptr 3 0 [] 0,
  AV.ptr 5 0 [] 0])])), Obj.row 31 x.toks, Obj.box 9 (AV.lit (Value.string
  { data := List.toArray (Lib.trimLeftS (bl x.t) (bl { data := #[OfNat.ofNat 32, OfNat.ofNat 9] })) })), Obj.box 3 (AV.int (IntKind.wrap IntKind.i64 (x.ln + (1 :
  Int)))), Dn.Obj.loop (lpA Tryz.prog 10 10 LoopState.done (some (Code.exit 0)) (spR (junks 58) [(0, AV.str x.s), (2, AV.nil), (3, AV.int 0), (4, AV.int 0), (5,
  AV.ptr 0 0 [] 0), (6, AV.ptr 1 0 [] 0), (7, AV.ptr 2 0 [] 0), (8, AV.str x.l), (12, AV.str x.s), (13, AV.int (↑(ByteArray.size x.s) : Int)), (14, AV.bool
  false), (15, AV.str x.s), (16, AV.clo 49 [AV.ptr 4 0 [] 0, AV.ptr 3 0 [] 0, AV.ptr 5 0 [] 0]), (17, AV.str x.l), (18, AV.int x.ln), (19, AV.int (IntKind.wrap
  IntKind.i64 (x.ln + (1 : Int)))), (20, AV.str x.l), (21, AV.int (IntKind.wrap IntKind.i64 (x.ln + (1 : Int)))), (22, AV.clo 28 [AV.ptr 8 0 [] 0, AV.ptr 9 0 []
  0])])), Obj.box 62 (AV.agg [AV.slc 12 0 1]), Obj.row 35 [AV.ifc 42 (AV.pim 44 (AV.agg [AV.int a.1, AV.int a.2]))]])) (cnd (decide ((x.toks.length + 1 + 1) * 33
  ≤ 70368744177664)) ((cnd (decide ((0 : Int) ≤ Prod.snd (Prod.snd (tk1 a))) && decide (Prod.snd (Prod.snd (tk1 a)) ≤ (↑(ByteArray.size
  { data := List.toArray (Lib.trimLeftS (bl x.t) (bl { data := #[OfNat.ofNat 32, OfNat.ofNat 9] })) }) : Int)) && decide ((↑(ByteArray.size
  { data := List.toArray (Lib.trimLeftS (bl x.t) (bl { data := #[OfNat.ofNat 32, OfNat.ofNat 9] })) }) : Int) ≤ (↑(ByteArray.size
  { data := List.toArray (Lib.trimLeftS (bl x.t) (bl { data := #[OfNat.ofNat 32, OfNat.ofNat 9] })) }) : Int))) (∃ (m : Nat), m < n ∧ I m (sp 45 [(0, AV.yld 10),
  (1, AV.ptr 8 0 [] 0), (2, AV.ptr 9 0 [] 0), (4, AV.ptr 12 0 [] 0)] [Obj.box 24 (AV.slc 11 0 (x.toks.length + 1)), Obj.box 35 (AV.lit Value.nilIface), Obj.box 3
  (AV.int (IntKind.wrap IntKind.i64 (x.ln + (1 : Int)))), Obj.dead, Obj.dead, Obj.dead, Dn.Obj.loop (lpA Tryz.prog 10 7 LoopState.busy none (spR (junks 58) [(0,
  AV.str x.s), (2, AV.nil), (3, AV.int 0), (4, AV.int 0), (5, AV.ptr 0 0 [] 0), (6, AV.ptr 1 0 [] 0), (7, AV.ptr 2 0 [] 0), (12, AV.str x.s), (13, AV.int
  (↑(ByteArray.size x.s) : Int)), (14, AV.bool false), (15, AV.str x.s), (16, AV.clo 49 [AV.ptr 4 0 [] 0, AV.ptr 3 0 [] 0, AV.ptr 5 0 [] 0])])), Obj.dead,
  Obj.box 9 (AV.lit (Value.string (ByteArray.extract { data := List.toArray (Lib.trimLeftS (bl x.t) (bl { data := #[OfNat.ofNat 32, OfNat.ofNat 9] })) }
  (Int.toNat (Prod.snd (Prod.snd (tk1 a)))) (Int.toNat (↑(ByteArray.size
  { data := List.toArray (Lib.trimLeftS (bl x.t) (bl { data := #[OfNat.ofNat 32, OfNat.ofNat 9] })) }) : Int))))), Obj.box 3 (AV.int (IntKind.wrap IntKind.i64
  (x.ln + (1 : Int)))), Dn.Obj.loop (lpA Tryz.prog 10 10 LoopState.ready none (spR (junks 58) [(0, AV.str x.s), (2, AV.nil), (3, AV.int 0), (4, AV.int 0), (5,
  AV.ptr 0 0 [] 0), (6, AV.ptr 1 0 [] 0), (7, AV.ptr 2 0 [] 0), (8, AV.str x.l), (12, AV.str x.s), (13, AV.int (↑(ByteArray.size x.s) : Int)), (14, AV.bool
  false), (15, AV.str x.s), (16, AV.clo 49 [AV.ptr 4 0 [] 0, AV.ptr 3 0 [] 0, AV.ptr 5 0 [] 0]), (17, AV.str x.l), (18, AV.int x.ln), (19, AV.lit (Value.int
  IntKind.i64 (IntKind.wrap IntKind.i64 (x.ln + (1 : Int))))), (20, AV.str x.l), (21, AV.lit (Value.int IntKind.i64 (IntKind.wrap IntKind.i64 (x.ln + (1 :
  Int))))), (22, AV.clo 28 [AV.ptr 8 0 [] 0, AV.ptr 9 0 [] 0])])), Obj.row 31 (List.take x.toks.length x.toks ++ [AV.agg [AV.int (Prod.fst (tk1 a)), AV.str
  (Prod.fst (Prod.snd (tk1 a))), AV.lit (Value.int IntKind.i64 (IntKind.wrap IntKind.i64 (x.ln + (1 : Int))))]]), Obj.box 31 (AV.agg [AV.int (Prod.fst (tk1 a)),
  AV.str (Prod.fst (Prod.snd (tk1 a))), AV.lit (Value.int IntKind.i64 (IntKind.wrap IntKind.i64 (x.ln + (1 : Int))))])])) ∧ cnd (decide ((0 : Int) ≤ Prod.snd
  (Prod.snd (tk1 a))) && decide (Prod.snd (Prod.snd (tk1 a)) ≤ (↑(ByteArray.size
  { data := List.toArray (Lib.trimLeftS (bl x.t) (bl { data := #[OfNat.ofNat 32, OfNat.ofNat 9] })) }) : Int)) && decide ((↑(ByteArray.size
  { data := List.toArray (Lib.trimLeftS (bl x.t) (bl { data := #[OfNat.ofNat 32, OfNat.ofNat 9] })) }) : Int) ≤ (↑(ByteArray.size
  { data := List.toArray (Lib.trimLeftS (bl x.t) (bl { data := #[OfNat.ofNat 32, OfNat.ofNat 9] })) }) : Int))) (∃ (m : Nat), m < n ∧ I m (sp 45 [(0, AV.yld 10),
  (1, AV.ptr 8 0 [] 0), (2, AV.ptr 9 0 [] 0), (4, AV.ptr 12 0 [] 0)] [Obj.box 24 (AV.slc 11 0 (x.toks.length + 1)), Obj.box 35 (AV.lit Value.nilIface), Obj.box 3
  (AV.int (IntKind.wrap IntKind.i64 (x.ln + (1 : Int)))), Obj.dead, Obj.dead, Obj.dead, Dn.Obj.loop (lpA Tryz.prog 10 7 LoopState.busy none (spR (junks 58) [(0,
  AV.str x.s), (2, AV.nil), (3, AV.int 0), (4, AV.int 0), (5, AV.ptr 0 0 [] 0), (6, AV.ptr 1 0 [] 0), (7, AV.ptr 2 0 [] 0), (12, AV.str x.s), (13, AV.int
  (↑(ByteArray.size x.s) : Int)), (14, AV.bool false), (15, AV.str x.s), (16, AV.clo 49 [AV.ptr 4 0 [] 0, AV.ptr 3 0 [] 0, AV.ptr 5 0 [] 0])])), Obj.dead,
  Obj.box 9 (AV.lit (Value.string (ByteArray.extract { data := List.toArray (Lib.trimLeftS (bl x.t) (bl { data := #[OfNat.ofNat 32, OfNat.ofNat 9] })) }
  (Int.toNat (Prod.snd (Prod.snd (tk1 a)))) (Int.toNat (↑(ByteArray.size
  { data := List.toArray (Lib.trimLeftS (bl x.t) (bl { data := #[OfNat.ofNat 32, OfNat.ofNat 9] })) }) : Int))))), Obj.box 3 (AV.int (IntKind.wrap IntKind.i64
  (x.ln + (1 : Int)))), Dn.Obj.loop (lpA Tryz.prog 10 10 LoopState.ready none (spR (junks 58) [(0, AV.str x.s), (2, AV.nil), (3, AV.int 0), (4, AV.int 0), (5,
  AV.ptr 0 0 [] 0), (6, AV.ptr 1 0 [] 0), (7, AV.ptr 2 0 [] 0), (8, AV.str x.l), (12, AV.str x.s), (13, AV.int (↑(ByteArray.size x.s) : Int)), (14, AV.bool
  false), (15, AV.str x.s), (16, AV.clo 49 [AV.ptr 4 0 [] 0, AV.ptr 3 0 [] 0, AV.ptr 5 0 [] 0]), (17, AV.str x.l), (18, AV.int x.ln), (19, AV.lit (Value.int
  IntKind.i64 (IntKind.wrap IntKind.i64 (x.ln + (1 : Int))))), (20, AV.str x.l), (21, AV.lit (Value.int IntKind.i64 (IntKind.wrap IntKind.i64 (x.ln + (1 :
  Int))))), (22, AV.clo 28 [AV.ptr 8 0 [] 0, AV.ptr 9 0 [] 0])])), Obj.row 31 (List.take x.toks.length x.toks ++ [AV.agg [AV.int (Prod.fst (tk1 a)), AV.str
  (Prod.fst (Prod.snd (tk1 a))), AV.lit (Value.int IntKind.i64 (IntKind.wrap IntKind.i64 (x.ln + (1 : Int))))]]), Obj.box 31 (AV.agg [AV.int (Prod.fst (tk1 a)),
  AV.str (Prod.fst (Prod.snd (tk1 a))), AV.lit (Value.int IntKind.i64 (IntKind.wrap IntKind.i64 (x.ln + (1 : Int))))])]))) ∧ cnd (decide ((0 : Int) ≤ Prod.snd
  (Prod.snd (tk1 a))) && decide (Prod.snd (Prod.snd (tk1 a)) ≤ (↑(ByteArray.size
  { data := List.toArray (Lib.trimLeftS (bl x.t) (bl { data := #[OfNat.ofNat 32, OfNat.ofNat 9] })) }) : Int)) && decide ((↑(ByteArray.size
  { data := List.toArray (Lib.trimLeftS (bl x.t) (bl { data := #[OfNat.ofNat 32, OfNat.ofNat 9] })) }) : Int) ≤ (↑(ByteArray.size
  { data := List.toArray (Lib.trimLeftS (bl x.t) (bl { data := #[OfNat.ofNat 32, OfNat.ofNat 9] })) }) : Int))) (∃ (m : Nat), m < n ∧ I m (sp 45 [(0, AV.yld 10),
  (1, AV.ptr 8 0 [] 0), (2, AV.ptr 9 0 [] 0), (4, AV.ptr 12 0 [] 0)] [Obj.box 24 (AV.slc 11 0 (x.toks.length + 1)), Obj.box 35 (AV.lit Value.nilIface), Obj.box 3
  (AV.int (IntKind.wrap IntKind.i64 (x.ln + (1 : Int)))), Obj.dead, Obj.dead, Obj.dead, Dn.Obj.loop (lpA Tryz.prog 10 7 LoopState.busy none (spR (junks 58) [(0,
  AV.str x.s), (2, AV.nil), (3, AV.int 0), (4, AV.int 0), (5, AV.ptr 0 0 [] 0), (6, AV.ptr 1 0 [] 0), (7, AV.ptr 2 0 [] 0), (12, AV.str x.s), (13, AV.int
  (↑(ByteArray.size x.s) : Int)), (14, AV.bool false), (15, AV.str x.s), (16, AV.clo 49 [AV.ptr 4 0 [] 0, AV.ptr 3 0 [] 0, AV.ptr 5 0 [] 0])])), Obj.dead,
  Obj.box 9 (AV.lit (Value.string (ByteArray.extract { data := List.toArray (Lib.trimLeftS (bl x.t) (bl { data := #[OfNat.ofNat 32, OfNat.ofNat 9] })) }
  (Int.toNat (Prod.snd (Prod.snd (tk1 a)))) (Int.toNat (↑(ByteArray.size
  { data := List.toArray (Lib.trimLeftS (bl x.t) (bl { data := #[OfNat.ofNat 32, OfNat.ofNat 9] })) }) : Int))))), Obj.box 3 (AV.int (IntKind.wrap IntKind.i64
  (x.ln + (1 : Int)))), Dn.Obj.loop (lpA Tryz.prog 10 10 LoopState.ready none (spR (junks 58) [(0, AV.str x.s), (2, AV.nil), (3, AV.int 0), (4, AV.int 0), (5,
  AV.ptr 0 0 [] 0), (6, AV.ptr 1 0 [] 0), (7, AV.ptr 2 0 [] 0), (8, AV.str x.l), (12, AV.str x.s), (13, AV.int (↑(ByteArray.size x.s) : Int)), (14, AV.bool
  false), (15, AV.str x.s), (16, AV.clo 49 [AV.ptr 4 0 [] 0, AV.ptr 3 0 [] 0, AV.ptr 5 0 [] 0]), (17, AV.str x.l), (18, AV.int x.ln), (19, AV.lit (Value.int
  IntKind.i64 (IntKind.wrap IntKind.i64 (x.ln + (1 : Int))))), (20, AV.str x.l), (21, AV.lit (Value.int IntKind.i64 (IntKind.wrap IntKind.i64 (x.ln + (1 :
  Int))))), (22, AV.clo 28 [AV.ptr 8 0 [] 0, AV.ptr 9 0 [] 0])])), Obj.row 31 (List.take x.toks.length x.toks ++ [AV.agg [AV.int (Prod.fst (tk1 a)), AV.str
  (Prod.fst (Prod.snd (tk1 a))), AV.lit (Value.int IntKind.i64 (IntKind.wrap IntKind.i64 (x.ln + (1 : Int))))]]), Obj.box 31 (AV.agg [AV.int (Prod.fst (tk1 a)),
  AV.str (Prod.fst (Prod.snd (tk1 a))), AV.lit (Value.int IntKind.i64 (IntKind.wrap IntKind.i64 (x.ln + (1 : Int))))])])))))))) := by kernel_rfl
theorem zI1 (κ : Kp) (x : AIn) (I : Nat → S → Prop) (n : Nat) (K : Exit → S → Prop) : (vc (BGe κ).E 12 28 none 11 (loopCode (Pr κ).toProgram 28 1) (stI1 κ x) (loopK (BGe κ).E 28 1 11 I n K)) = (
  brn (ByteArray.toList { data := List.toArray (Lib.trimLeftS (bl x.t) (bl { data := #[OfNat.ofNat 32, OfNat.ofNat 9] })) } == ByteArray.toList { data := #[] }) (K
  (Exit.exit 0) (sp 45 [(0, AV.yld 10), (2, AV.ptr 9 0 [] 0), (4, AV.ptr 12 0 [] 0)] [Obj.box 24 (AV.slc 11 0 x.toks.length), Obj.box 35 (AV.lit Value.nilIface),
  Obj.box 3 (AV.int (IntKind.wrap IntKind.i64 (x.ln + (1 : Int)))), Obj.dead, Obj.dead, Obj.dead, Dn.Obj.loop (lpA Tryz.prog 10 7 LoopState.busy none (spR (junks
  58) [(0, AV.str x.s), (2, AV.nil), (3, AV.int 0), (4, AV.int 0), (5, AV.ptr 0 0 [] 0), (6, AV.ptr 1 0 [] 0), (7, AV.ptr 2 0 [] 0), (12, AV.str x.s), (13,
  AV.int (↑(ByteArray.size x.s) : Int)), (14, AV.bool false), (15, AV.str x.s), (16, AV.clo 49 [AV.ptr 4 0 [] 0, AV.ptr 3 0 [] 0, AV.ptr 5 0 [] 0])])), Obj.dead,
  Obj.box 9 (AV.lit (Value.string { data := List.toArray (Lib.trimLeftS (bl x.t) (bl { data := #[OfNat.ofNat 32, OfNat.ofNat 9] })) })), Obj.box 3 (AV.int
  (IntKind.wrap IntKind.i64 (x.ln + (1 : Int)))), Dn.Obj.loop (lpA Tryz.prog 10 10 LoopState.ready none (spR (junks 58) [(0, AV.str x.s), (2, AV.nil), (3, AV.int
  0), (4, AV.int 0), (5, AV.ptr 0 0 [] 0), (6, AV.ptr 1 0 [] 0), (7, AV.ptr 2 0 [] 0), (8, AV.str x.l), (12, AV.str x.s), (13, AV.int (↑(ByteArray.size x.s) :
  Int)), (14, AV.bool false), (15, AV.str x.s), (16, AV.clo 49 [AV.ptr 4 0 [] 0, AV.ptr 3 0 [] 0, AV.ptr 5 0 [] 0]), (17, AV.str x.l), (18, AV.int x.ln), (19,
  AV.int (IntKind.wrap IntKind.i64 (x.ln + (1 : Int)))), (20, AV.str x.l), (21, AV.int (IntKind.wrap IntKind.i64 (x.ln + (1 : Int)))), (22, AV.clo 28 [AV.ptr 8 0
  [] 0, AV.ptr 9 0 [] 0])])), Obj.row 31 x.toks, Obj.box 31 (AV.agg [AV.int x.k, AV.str x.q, AV.int x.z])])) (brn (hasP
  { data := List.toArray (Lib.trimLeftS (bl x.t) (bl { data := #[OfNat.ofNat 32, OfNat.ofNat 9] })) } { data := #[OfNat.ofNat 47, OfNat.ofNat 47] }) (K
  (Exit.exit 0) (sp 45 [(0, AV.yld 10), (2, AV.ptr 9 0 [] 0), (4, AV.ptr 12 0 [] 0)] [Obj.box 24 (AV.slc 11 0 x.toks.length), Obj.box 35 (AV.lit Value.nilIface),
  Obj.box 3 (AV.int (IntKind.wrap IntKind.i64 (x.ln + (1 : Int)))), Obj.dead, Obj.dead, Obj.dead, Dn.Obj.loop (lpA Tryz.prog 10 7 LoopState.busy none (spR (junks
  58) [(0, AV.str x.s), (2, AV.nil), (3, AV.int 0), (4, AV.int 0), (5, AV.ptr 0 0 [] 0), (6, AV.ptr 1 0 [] 0), (7, AV.ptr 2 0 [] 0), (12, AV.str x.s), (13,
  AV.int (↑(ByteArray.size x.s) : Int)), (14, AV.bool false), (15, AV.str x.s), (16, AV.clo 49 [AV.ptr 4 0 [] 0, AV.ptr 3 0 [] 0, AV.ptr 5 0 [] 0])])), Obj.dead,
  Obj.box 9 (AV.lit (Value.string { data := List.toArray (Lib.trimLeftS (bl x.t) (bl { data := #[OfNat.ofNat 32, OfNat.ofNat 9] })) })), Obj.box 3 (AV.int
  (IntKind.wrap IntKind.i64 (x.ln + (1 : Int)))), Dn.Obj.loop (lpA Tryz.prog 10 10 LoopState.ready none (spR (junks 58) [(0, AV.str x.s), (2, AV.nil), (3, AV.int
  0), (4, AV.int 0), (5, AV.ptr 0 0 [] 0), (6, AV.ptr 1 0 [] 0), (7, AV.ptr 2 0 [] 0), (8, AV.str x.l), (12, AV.str x.s), (13, AV.int (↑(ByteArray.size x.s) :
  Int)), (14, AV.bool false), (15, AV.str x.s), (16, AV.clo 49 [AV.ptr 4 0 [] 0, AV.ptr 3 0 [] 0, AV.ptr 5 0 [] 0]), (17, AV.str x.l), (18, AV.int x.ln), (19,
  AV.int (IntKind.wrap IntKind.i64 (x.ln + (1 : Int)))), (20, AV.str x.l), (21, AV.int (IntKind.wrap IntKind.i64 (x.ln + (1 : Int)))), (22, AV.clo 28 [AV.ptr 8 0
  [] 0, AV.ptr 9 0 [] 0])])), Obj.row 31 x.toks, Obj.box 31 (AV.agg [AV.int x.k, AV.str x.q, AV.int x.z])])) (∃ (a : ByteArray), ([AV.lit (Value.string
  { data := List.toArray (Lib.trimLeftS (bl x.t) (bl { data := #[OfNat.ofNat 32, OfNat.ofNat 9] })) })], []) = stTk a ∧ sideTk a ∧ brn (Prod.snd (Prod.snd (tk1
  a)) == (0 : Int)) (∃ (a : Int × Int), ([AV.lst 35 [AV.ifc 42 (AV.pim 44 (AV.agg [AV.int (IntKind.wrap IntKind.i64 (x.ln + (1 : Int))), AV.int 160]))]], nilO) =
  ([AV.lst 35 [AV.ifc 42 (AV.pim 44 (AV.agg [AV.int a.1, AV.int a.2]))]], nilO) ∧ True ∧ K Exit.ret (sp 45 [] [Obj.box 24 (AV.slc 11 0 x.toks.length), Obj.box 35
  (AV.ifc 60 (AV.ptr 12 0 [] 0)), Obj.box 3 (AV.int (IntKind.wrap IntKind.i64 (x.ln + (1 : Int)))), Obj.dead, Obj.dead, Obj.dead, Dn.Obj.loop (lpA Tryz.prog 10 7
  LoopState.busy none (spR (junks 58) [(0, AV.str x.s), (2, AV.nil), (3, AV.int 0), (4, AV.int 0), (5, AV.ptr 0 0 [] 0), (6, AV.ptr 1 0 [] 0), (7, AV.ptr 2 0 []
  0), (12, AV.str x.s), (13, AV.int (↑(ByteArray.size x.s) : Int)), (14, AV.bool false), (15, AV.str x.s), (16, AV.clo 49 [AV.ptr 4 0 [] 0, AV.ptr 3 0 [] 0,
  AV.ptr 5 0 [] 0])])), Obj.dead, Obj.box 9 (AV.lit (Value.string
  { data := List.toArray (Lib.trimLeftS (bl x.t) (bl { data := #[OfNat.ofNat 32, OfNat.ofNat 9] })) })), Obj.box 3 (AV.int (IntKind.wrap IntKind.i64 (x.ln + (1 :
  Int)))), Dn.Obj.loop (lpA Tryz.prog 10 10 LoopState.done (some (Code.exit 0)) (spR (junks 58) [(0, AV.str x.s), (2, AV.nil), (3, AV.int 0), (4, AV.int 0), (5,
  AV.ptr 0 0 [] 0), (6, AV.ptr 1 0 [] 0), (7, AV.ptr 2 0 [] 0), (8, AV.str x.l), (12, AV.str x.s), (13, AV.int (↑(ByteArray.size x.s) : Int)), (14, AV.bool
  false), (15, AV.str x.s), (16, AV.clo 49 [AV.ptr 4 0 [] 0, AV.ptr 3 0 [] 0, AV.ptr 5 0 [] 0]), (17, AV.str x.l), (18, AV.int x.ln), (19, AV.int (IntKind.wrap
  IntKind.i64 (x.ln + (1 : Int)))), (20, AV.str x.l), (21, AV.int (IntKind.wrap IntKind.i64 (x.ln + (1 : Int)))), (22, AV.clo 28 [AV.ptr 8 0 [] 0, AV.ptr 9 0 []
  0])])), Obj.row 31 x.toks, Obj.box 62 (AV.agg [AV.slc 13 0 1]), Obj.row 35 [AV.ifc 42 (AV.pim 44 (AV.agg [AV.int a.1, AV.int a.2]))]])) (brn ((↑(x.toks.length)
  : Int) == (300000 : Int)) (∃ (a : Int × Int), ([AV.lst 35 [AV.ifc 42 (AV.pim 44 (AV.agg [AV.int (IntKind.wrap IntKind.i64 (x.ln + (1 : Int))), AV.int 21]))]],
  nilO) = ([AV.lst 35 [AV.ifc 42 (AV.pim 44 (AV.agg [AV.int a.1, AV.int a.2]))]], nilO) ∧ True ∧ K Exit.ret (sp 45 [] [Obj.box 24 (AV.slc 11 0 x.toks.length),
  Obj.box 35 (AV.ifc 60 (AV.ptr 12 0 [] 0)), Obj.box 3 (AV.int (IntKind.wrap IntKind.i64 (x.ln + (1 : Int)))), Obj.dead, Obj.dead, Obj.dead, Dn.Obj.loop (lpA
  Tryz.prog 10 7 LoopState.busy none (spR (junks 58) [(0, AV.str x.s), (2, AV.nil), (3, AV.int 0), (4, AV.int 0), (5, AV.ptr 0 0 [] 0), (6, AV.ptr 1 0 [] 0), (7,
  AV.ptr 2 0 [] 0), (12, AV.str x.s), (13, AV.int (↑(ByteArray.size x.s) : Int)), (14, AV.bool false), (15, AV.str x.s), (16, AV.clo 49 [AV.ptr 4 0 [] 0, AV.ptr
  3 0 [] 0, AV.ptr 5 0 [] 0])])), Obj.dead, Obj.box 9 (AV.lit (Value.string
  { data := List.toArray (Lib.trimLeftS (bl x.t) (bl { data := #[OfNat.ofNat 32, OfNat.ofNat 9] })) })), Obj.box 3 (AV.int (IntKind.wrap IntKind.i64 (x.ln + (1 :
  Int)))), Dn.Obj.loop (lpA Tryz.prog 10 10 LoopState.done (some (Code.exit 0)) (spR (junks 58) [(0, AV.str x.s), (2, AV.nil), (3, AV.int 0), (4, AV.int 0), (5,
  AV.ptr 0 0 [] 0), (6, AV.ptr 1 0 [] 0), (7, AV.ptr 2 0 [] 0), (8, AV.str x.l), (12, AV.str x.s), (13, AV.int (↑(ByteArray.size x.s) : Int)), (14, AV.bool
  false), (15, AV.str x.s), (16, AV.clo 49 [AV.ptr 4 0 [] 0, AV.ptr 3 0 [] 0, AV.ptr 5 0 [] 0]), (17, AV.str x.l), (18, AV.int x.ln), (19, AV.int (IntKind.wrap
  IntKind.i64 (x.ln + (1 : Int)))), (20, AV.str x.l), (21, AV.int (IntKind.wrap IntKind.i64 (x.ln + (1 : Int)))), (22, AV.clo 28 [AV.ptr 8 0 [] 0, AV.ptr 9 0 []
  0])])), Obj.row 31 x.toks, Obj.box 62 (AV.agg [AV.slc 13 0 1]), Obj.row 35 [AV.ifc 42 (AV.pim 44 (AV.agg [AV.int a.1, AV.int a.2]))]])) (cnd (decide
  ((x.toks.length + 1 + 1) * 33 ≤ 70368744177664)) ((cnd (decide ((0 : Int) ≤ Prod.snd (Prod.snd (tk1 a))) && decide (Prod.snd (Prod.snd (tk1 a)) ≤
  (↑(ByteArray.size { data := List.toArray (Lib.trimLeftS (bl x.t) (bl { data := #[OfNat.ofNat 32, OfNat.ofNat 9] })) }) : Int)) && decide ((↑(ByteArray.size
  { data := List.toArray (Lib.trimLeftS (bl x.t) (bl { data := #[OfNat.ofNat 32, OfNat.ofNat 9] })) }) : Int) ≤ (↑(ByteArray.size
  { data := List.toArray (Lib.trimLeftS (bl x.t) (bl { data := #[OfNat.ofNat 32, OfNat.ofNat 9] })) }) : Int))) (∃ (m : Nat), m < n ∧ I m (sp 45 [(0, AV.yld 10),
  (1, AV.ptr 8 0 [] 0), (2, AV.ptr 9 0 [] 0), (4, AV.ptr 12 0 [] 0)] [Obj.box 24 (AV.slc 11 0 (x.toks.length + 1)), Obj.box 35 (AV.lit Value.nilIface), Obj.box 3
  (AV.int (IntKind.wrap IntKind.i64 (x.ln + (1 : Int)))), Obj.dead, Obj.dead, Obj.dead, Dn.Obj.loop (lpA Tryz.prog 10 7 LoopState.busy none (spR (junks 58) [(0,
  AV.str x.s), (2, AV.nil), (3, AV.int 0), (4, AV.int 0), (5, AV.ptr 0 0 [] 0), (6, AV.ptr 1 0 [] 0), (7, AV.ptr 2 0 [] 0), (12, AV.str x.s), (13, AV.int
  (↑(ByteArray.size x.s) : Int)), (14, AV.bool false), (15, AV.str x.s), (16, AV.clo 49 [AV.ptr 4 0 [] 0, AV.ptr 3 0 [] 0, AV.ptr 5 0 [] 0])])), Obj.dead,
  Obj.box 9 (AV.lit (Value.string (ByteArray.extract { data := List.toArray (Lib.trimLeftS (bl x.t) (bl { data := #[OfNat.ofNat 32, OfNat.ofNat 9] })) }
  (Int.toNat (Prod.snd (Prod.snd (tk1 a)))) (Int.toNat (↑(ByteArray.size
  { data := List.toArray (Lib.trimLeftS (bl x.t) (bl { data := #[OfNat.ofNat 32, OfNat.ofNat 9] })) }) : Int))))), Obj.box 3 (AV.int (IntKind.wrap IntKind.i64
  (x.ln + (1 : Int)))), Dn.Obj.loop (lpA Tryz.prog 10 10 LoopState.ready none (spR (junks 58) [(0, AV.str x.s), (2, AV.nil), (3, AV.int 0), (4, AV.int 0), (5,
  AV.ptr 0 0 [] 0), (6, AV.ptr 1 0 [] 0), (7, AV.ptr 2 0 [] 0), (8, AV.str x.l), (12, AV.str x.s), (13, AV.int (↑(ByteArray.size x.s) : Int)), (14, AV.bool
  false), (15, AV.str x.s), (16, AV.clo 49 [AV.ptr 4 0 [] 0, AV.ptr 3 0 [] 0, AV.ptr 5 0 [] 0]), (17, AV.str x.l), (18, AV.int x.ln), (19, AV.lit (Value.int
  IntKind.i64 (IntKind.wrap IntKind.i64 (x.ln + (1 : Int))))), (20, AV.str x.l), (21, AV.lit (Value.int IntKind.i64 (IntKind.wrap IntKind.i64 (x.ln + (1 :
  Int))))), (22, AV.clo 28 [AV.ptr 8 0 [] 0, AV.ptr 9 0 [] 0])])), Obj.row 31 (List.take x.toks.length x.toks ++ [AV.agg [AV.int (Prod.fst (tk1 a)), AV.str
  (Prod.fst (Prod.snd (tk1 a))), AV.lit (Value.int IntKind.i64 (IntKind.wrap IntKind.i64 (x.ln + (1 : Int))))]]), Obj.box 31 (AV.agg [AV.int (Prod.fst (tk1 a)),
  AV.str (Prod.fst (Prod.snd (tk1 a))), AV.lit (Value.int IntKind.i64 (IntKind.wrap IntKind.i64 (x.ln + (1 : Int))))])])) ∧ cnd (decide ((0 : Int) ≤ Prod.snd
  (Prod.snd (tk1 a))) && decide (Prod.snd (Prod.snd (tk1 a)) ≤ (↑(ByteArray.size
  { data := List.toArray (Lib.trimLeftS (bl x.t) (bl { data := #[OfNat.ofNat 32, OfNat.ofNat 9] })) }) : Int)) && decide ((↑(ByteArray.size
  { data := List.toArray (Lib.trimLeftS (bl x.t) (bl { data := #[OfNat.ofNat 32, OfNat.ofNat 9] })) }) : Int) ≤ (↑(ByteArray.size
  { data := List.toArray (Lib.trimLeftS (bl x.t) (bl { data := #[OfNat.ofNat 32, OfNat.ofNat 9] })) }) : Int))) (∃ (m : Nat), m < n ∧ I m (sp 45 [(0, AV.yld 10),
  (1, AV.ptr 8 0 [] 0), (2, AV.ptr 9 0 [] 0), (4, AV.ptr 12 0 [] 0)] [Obj.box 24 (AV.slc 11 0 (x.toks.length + 1)), Obj.box 35 (AV.lit Value.nilIface), Obj.box 3
  (AV.int (IntKind.wrap IntKind.i64 (x.ln + (1 : Int)))), Obj.dead, Obj.dead, Obj.dead, Dn.Obj.loop (lpA Tryz.prog 10 7 LoopState.busy none (spR (junks 58) [(0,
  AV.str x.s), (2, AV.nil), (3, AV.int 0), (4, AV.int 0), (5, AV.ptr 0 0 [] 0), (6, AV.ptr 1 0 [] 0), (7, AV.ptr 2 0 [] 0), (12, AV.str x.s), (13, AV.int
  (↑(ByteArray.size x.s) : Int)), (14, AV.bool false), (15, AV.str x.s), (16, AV.clo 49 [AV.ptr 4 0 [] 0, AV.ptr 3 0 [] 0, AV.ptr 5 0 [] 0])])), Obj.dead,
  Obj.box 9 (AV.lit (Value.string (ByteArray.extract { data := List.toArray (Lib.trimLeftS (bl x.t) (bl { data := #[OfNat.ofNat 32, OfNat.ofNat 9] })) }
  (Int.toNat (Prod.snd (Prod.snd (tk1 a)))) (Int.toNat (↑(ByteArray.size
  { data := List.toArray (Lib.trimLeftS (bl x.t) (bl { data := #[OfNat.ofNat 32, OfNat.ofNat 9] })) }) : Int))))), Obj.box 3 (AV.int (IntKind.wrap IntKind.i64
  (x.ln + (1 : Int)))), Dn.Obj.loop (lpA Tryz.prog 10 10 LoopState.ready none (spR (junks 58) [(0, AV.str x.s), (2, AV.nil), (3, AV.int 0), (4, AV.int 0), (5,
  AV.ptr 0 0 [] 0), (6, AV.ptr 1 0 [] 0), (7, AV.ptr 2 0 [] 0), (8, AV.str x.l), (12, AV.str x.s), (13, AV.int (↑(ByteArray.size x.s) : Int)), (14, AV.bool
  false), (15, AV.str x.s), (16, AV.clo 49 [AV.ptr 4 0 [] 0, AV.ptr 3 0 [] 0, AV.ptr 5 0 [] 0]), (17, AV.str x.l), (18, AV.int x.ln), (19, AV.lit (Value.int
  IntKind.i64 (IntKind.wrap IntKind.i64 (x.ln + (1 : Int))))), (20, AV.str x.l), (21, AV.lit (Value.int IntKind.i64 (IntKind.wrap IntKind.i64 (x.ln + (1 :
  Int))))), (22, AV.clo 28 [AV.ptr 8 0 [] 0, AV.ptr 9 0 [] 0])])), Obj.row 31 (List.take x.toks.length x.toks ++ [AV.agg [AV.int (Prod.fst (tk1 a)), AV.str
  (Prod.fst (Prod.snd (tk1 a))), AV.lit (Value.int IntKind.i64 (IntKind.wrap IntKind.i64 (x.ln + (1 : Int))))]]), Obj.box 31 (AV.agg [AV.int (Prod.fst (tk1 a)),
  AV.str (Prod.fst (Prod.snd (tk1 a))), AV.lit (Value.int IntKind.i64 (IntKind.wrap IntKind.i64 (x.ln + (1 : Int))))])]))) ∧ cnd (decide ((0 : Int) ≤ Prod.snd
  (Prod.snd (tk1 a))) && decide (Prod.snd (Prod.snd (tk1 a)) ≤ (↑(ByteArray.size
  { data := List.toArray (Lib.trimLeftS (bl x.t) (bl { data := #[OfNat.ofNat 32, OfNat.ofNat 9] })) }) : Int)) && decide ((↑(ByteArray.size
  { data := List.toArray (Lib.trimLeftS (bl x.t) (bl { data := #[OfNat.ofNat 32, OfNat.ofNat 9] })) }) : Int) ≤ (↑(ByteArray.size
  { data := List.toArray (Lib.trimLeftS (bl x.t) (bl { data := #[OfNat.ofNat 32, OfNat.ofNat 9] })) }) : Int))) (∃ (m : Nat), m < n ∧ I m (sp 45 [(0, AV.yld 10),
  (1, AV.ptr 8 0 [] 0), (2, AV.ptr 9 0 [] 0), (4, AV.ptr 12 0 [] 0)] [Obj.box 24 (AV.slc 11 0 (x.toks.length + 1)), Obj.box 35 (AV.lit Value.nilIface), Obj.box 3
  (AV.int (IntKind.wrap IntKind.i64 (x.ln + (1 : Int)))), Obj.dead, Obj.dead, Obj.dead, Dn.Obj.loop (lpA Tryz.prog 10 7 LoopState.busy none (spR (junks 58) [(0,
  AV.str x.s), (2, AV.nil), (3, AV.int 0), (4, AV.int 0), (5, AV.ptr 0 0 [] 0), (6, AV.ptr 1 0 [] 0), (7, AV.ptr 2 0 [] 0), (12, AV.str x.s), (13, AV.int
  (↑(ByteArray.size x.s) : Int)), (14, AV.bool false), (15, AV.str x.s), (16, AV.clo 49 [AV.ptr 4 0 [] 0, AV.ptr 3 0 [] 0, AV.ptr 5 0 [] 0])])), Obj.dead,
  Obj.box 9 (AV.lit (Value.string (ByteArray.extract { data := List.toArray (Lib.trimLeftS (bl x.t) (bl { data := #[OfNat.ofNat 32, OfNat.ofNat 9] })) }
  (Int.toNat (Prod.snd (Prod.snd (tk1 a)))) (Int.toNat (↑(ByteArray.size
  { data := List.toArray (Lib.trimLeftS (bl x.t) (bl { data := #[OfNat.ofNat 32, OfNat.ofNat 9] })) }) : Int))))), Obj.box 3 (AV.int (IntKind.wrap IntKind.i64
  (x.ln + (1 : Int)))), Dn.Obj.loop (lpA Tryz.prog 10 10 LoopState.ready none (spR (junks 58) [(0, AV.str x.s), (2, AV.nil), (3, AV.int 0), (4, AV.int 0), (5,
  AV.ptr 0 0 [] 0), (6, AV.ptr 1 0 [] 0), (7, AV.ptr 2 0 [] 0), (8, AV.str x.l), (12, AV.str x.s), (13, AV.int (↑(ByteArray.size x.s) : Int)), (14, AV.bool
  false), (15, AV.str x.s), (16, AV.clo 49 [AV.ptr 4 0 [] 0, AV.ptr 3 0 [] 0, AV.ptr 5 0 [] 0]), (17, AV.str x.l), (18, AV.int x.ln), (19, AV.lit (Value.int
  IntKind.i64 (IntKind.wrap IntKind.i64 (x.ln + (1 : Int))))), (20, AV.str x.l), (21, AV.lit (Value.int IntKind.i64 (IntKind.wrap IntKind.i64 (x.ln + (1 :
  Int))))), (22, AV.clo 28 [AV.ptr 8 0 [] 0, AV.ptr 9 0 [] 0])])), Obj.row 31 (List.take x.toks.length x.toks ++ [AV.agg [AV.int (Prod.fst (tk1 a)), AV.str
  (Prod.fst (Prod.snd (tk1 a))), AV.lit (Value.int IntKind.i64 (IntKind.wrap IntKind.i64 (x.ln + (1 : Int))))]]), Obj.box 31 (AV.agg [AV.int (Prod.fst (tk1 a)),
  AV.str (Prod.fst (Prod.snd (tk1 a))), AV.lit (Value.int IntKind.i64 (IntKind.wrap IntKind.i64 (x.ln + (1 : Int))))])])))))))) := by kernel_rfl
def wsB : ByteArray := ⟨#[32, 9]⟩
def slB : ByteArray := ⟨#[47, 47]⟩
def trB (t : ByteArray) : ByteArray := ⟨(Lib.trimLeftS (bl t) (bl wsB)).toArray⟩
abbrev TK : Type := Int × ByteArray × Int
abbrev avT (x : TK) : AV := tkA x.1 x.2.1 x.2.2
def lnF (l1 : Int) : Nat → ByteArray → List TK → TK → List TK × TK × Option Int
  | 0, _, acc, last => (acc, last, none)
  | k + 1, t, acc, last =>
    bif (trB t).toList == (ByteArray.mk #[]).toList then (acc, last, none)
    else bif hasP (trB t) slB then (acc, last, none)
    else bif (tk1 (trB t)).2.2 == 0 then (acc, last, some 160)
    else bif ((acc.length : Nat) : Int) == 300000 then (acc, last, some 21)
    else lnF l1 k ((trB t).extract (tk1 (trB t)).2.2.toNat (trB t).size) (acc ++ [((tk1 (trB t)).1, (tk1 (trB t)).2.1, l1)]) ((tk1 (trB t)).1, (tk1 (trB t)).2.1, l1)
theorem trim_le (l : List UInt8) (c : List UInt8) : (Lib.trimLeftS l c).length ≤ l.length := by
  unfold Lib.trimLeftS
  induction l with
  | nil => exact Nat.le_refl _
  | cons b l ih =>
    rw [List.dropWhile_cons]
    split
    · exact Nat.le_succ_of_le ih
    · exact Nat.le_refl _
theorem trB_le (t : ByteArray) : (trB t).size ≤ t.size := by
  have := trim_le (bl t) (bl wsB)
  rw [bl_len] at this
  exact this
theorem tk1_rng {s : ByteArray} (h0 : 0 < s.size) : 0 ≤ (tk1 s).2.2 ∧ (tk1 s).2.2 ≤ s.size := by
  have hw : wdN s ≤ s.size := by rw [← bl_len]; exact wrdL_le _
  have hq : qtN s ≤ s.size := by
    have := quoL_le _ (List.drop 1 (bl s)) 1 (Nat.le_refl _)
    rw [List.length_drop, bl_len] at this
    unfold qtN
    omega
  have hg := sgn_rng h0
  unfold tk1
  generalize isLe (byteAt s 0 : Nat) = b1
  generalize isDi (byteAt s 0 : Nat) = b2
  generalize (((byteAt s 0 : Nat) : Int) == 34) = b3
  generalize decide ((wdN s : Int) > 40) = b4
  generalize numB (s.extract 0 (wdN s)) = b5
  generalize hasP (s.extract (wdN s) s.size) dotB = b6
  generalize (uqE (s.extract 0 (qtN s)) != 0) = b7
  cases b1 with
  | true => cases b4 <;> simp only [cond_true, cond_false] <;> omega
  | false =>
  cases b2 with
  | true => cases b5 <;> cases b6 <;> simp only [cond_true, cond_false] <;> omega
  | false =>
  cases b3 with
  | true => cases b7 <;> simp only [cond_true, cond_false] <;> omega
  | false => simp only [cond_false]; omega
end Go.Proofs.YtbppdpbagmbmpaaGreatDoor
namespace Go.Proofs.YtbppdpbagmbmpaaGreatDoor
open Go Go.Dn Go.Proofs
attribute [local irreducible] funA vc
set_option maxRecDepth 20000
structure ALn where
  s : ByteArray
  l : ByteArray
  ln : Int
  tk : List TK
  t : ByteArray
  la : TK
  k : Nat
  f : Bool
abbrev l1L (ln : Int) : Int := IntKind.wrap .i64 (ln + 1)
noncomputable def stLn (κ : Kp) (x : ALn) : S := match x.f with
  | false => stI0 κ ⟨x.s, x.l, x.ln, x.tk.map avT, x.t, x.la.1, x.la.2.1, x.la.2.2⟩
  | true => stI1 κ ⟨x.s, x.l, x.ln, x.tk.map avT, x.t, x.la.1, x.la.2.1, x.la.2.2⟩
def sideLn (x : ALn) : Prop := x.t.size < x.k ∧ x.t.size ≤ 1000000000 ∧ x.tk.length ≤ 300000
noncomputable abbrev errL0 (κ : Kp) (s l : ByteArray) (l0 l1 : Int) (toks : List AV) (t : ByteArray) (c : Int) : List Dn.Obj :=
  [.box 24 (.slc 7 0 toks.length), .box 35 (.ifc 60 (.ptr 11 0 [] 0)), .box 3 (.int l1), .dead, .dead, .dead, lpL κ s .busy none, .row 31 toks, .box 9 (.lit (.string t)), .box 3 (.int l1), lpI κ s l l0 l1 .done (some (.exit 0)), .box 62 (.agg [.slc 12 0 1]), .row 35 [wrA l1 c]]
noncomputable abbrev errL1 (κ : Kp) (s l : ByteArray) (l0 l1 : Int) (toks : List AV) (t : ByteArray) (c : Int) : List Dn.Obj :=
  [.box 24 (.slc 11 0 toks.length), .box 35 (.ifc 60 (.ptr 12 0 [] 0)), .box 3 (.int l1), .dead, .dead, .dead, lpL κ s .busy none, .dead, .box 9 (.lit (.string t)), .box 3 (.int l1), lpI κ s l l0 l1 .done (some (.exit 0)), .row 31 toks, .box 62 (.agg [.slc 13 0 1]), .row 35 [wrA l1 c]]
def ln1 (n : Nat) (t : ByteArray) : Bool :=
  bif (trB t).toList == (ByteArray.mk #[]).toList then false else bif hasP (trB t) slB then false else bif (tk1 (trB t)).2.2 == 0 then false else bif ((n : Nat) : Int) == 300000 then false else true
noncomputable def outLn (κ : Kp) (x : ALn) : Out (Exit × S) := .all (fun _ : ByteArray => True) fun t => .brn (x.f || ln1 x.tk.length x.t)
  (.brn (lnF (l1L x.ln) x.k x.t x.tk x.la).2.2.isNone
    (.one (.exit 0, sp 45 [(0, .yld 10), (2, .ptr 9 0 [] 0), (4, .ptr 12 0 [] 0)] (strI1 κ x.s x.l x.ln (l1L x.ln) ((lnF (l1L x.ln) x.k x.t x.tk x.la).1.map avT) t (lnF (l1L x.ln) x.k x.t x.tk x.la).2.1.1 (lnF (l1L x.ln) x.k x.t x.tk x.la).2.1.2.1 (lnF (l1L x.ln) x.k x.t x.tk x.la).2.1.2.2)))
    (.one (.ret, sp 45 [] (errL1 κ x.s x.l x.ln (l1L x.ln) ((lnF (l1L x.ln) x.k x.t x.tk x.la).1.map avT) t ((lnF (l1L x.ln) x.k x.t x.tk x.la).2.2.getD 0)))))
  (.brn (lnF (l1L x.ln) x.k x.t x.tk x.la).2.2.isNone
    (.one (.exit 0, sp 45 [(0, .yld 10), (2, .ptr 9 0 [] 0), (4, .ptr 11 0 [] 0)] (strI0 κ x.s x.l x.ln (l1L x.ln) (x.tk.map avT) t x.la.1 x.la.2.1 x.la.2.2)))
    (.one (.ret, sp 45 [] (errL0 κ x.s x.l x.ln (l1L x.ln) (x.tk.map avT) t ((lnF (l1L x.ln) x.k x.t x.tk x.la).2.2.getD 0)))))
theorem lLn (κ : Kp) : LoopOk (BGe κ).E 12 28 1 (loopE 11 (stLn κ) sideLn (outLn κ)) := by
  refine loopE_ok (fun x => x.k) ?_
  rintro ⟨s, l, ln, tk, t, la, k, f⟩ K ⟨h1, h2, h3⟩ ho
  simp only at h1 h2 h3
  obtain ⟨k', rfl⟩ : ∃ k', k = k' + 1 := ⟨k - 1, by omega⟩
  rw [show (BGe κ).E.P = Pr κ from rfl]
  have hoB : ∀ (R : List TK × TK × Option Int) (g : Bool), lnF (l1L ln) (k' + 1) t tk la = R → (f || ln1 tk.length t) = g → ∀ t', brn g (brn R.2.2.isNone (K (.exit 0) (sp 45 [(0, .yld 10), (2, .ptr 9 0 [] 0), (4, .ptr 12 0 [] 0)] (strI1 κ s l ln (l1L ln) (R.1.map avT) t' R.2.1.1 R.2.1.2.1 R.2.1.2.2)))
      (K .ret (sp 45 [] (errL1 κ s l ln (l1L ln) (R.1.map avT) t' (R.2.2.getD 0))))) (brn R.2.2.isNone (K (.exit 0) (sp 45 [(0, .yld 10), (2, .ptr 9 0 [] 0), (4, .ptr 11 0 [] 0)] (strI0 κ s l ln (l1L ln) (tk.map avT) t' la.1 la.2.1 la.2.2)))
      (K .ret (sp 45 [] (errL0 κ s l ln (l1L ln) (tk.map avT) t' (R.2.2.getD 0))))) := by
    rintro R g rfl rfl t'; exact ho t' trivial
  have hz := trB_le t
  have hst : stLn κ ⟨s, l, ln, tk ++ [((tk1 (trB t)).1, (tk1 (trB t)).2.1, l1L ln)], (trB t).extract (tk1 (trB t)).2.2.toNat (trB t).size, ((tk1 (trB t)).1, (tk1 (trB t)).2.1, l1L ln), k', true⟩ = sp 45 [(0, .yld 10), (1, .ptr 8 0 [] 0), (2, .ptr 9 0 [] 0), (4, .ptr 12 0 [] 0)]
      [.box 24 (.slc 11 0 ((tk.map avT).length + 1)), .box 35 (.lit .nilIface), .box 3 (.int (l1L ln)), .dead, .dead, .dead, lpL κ s .busy none, .dead, .box 9 (.lit (.string ((trB t).extract (tk1 (trB t)).2.2.toNat (trB t).size))), .box 3 (.int (l1L ln)), lpI κ s l ln (l1L ln) .ready none, .row 31 ((tk.map avT).take (tk.map avT).length ++ [tkA (tk1 (trB t)).1 (tk1 (trB t)).2.1 (l1L ln)]), .box 31 (tkA (tk1 (trB t)).1 (tk1 (trB t)).2.1 (l1L ln))] := by
    unfold stLn stI1
    simp only [strI1, List.map_append, List.map_cons, List.map_nil, List.length_append, List.length_singleton, List.take_length]
  have next : ∀ (e1 : ((trB t).toList == (ByteArray.mk #[]).toList) = false) (e2 : hasP (trB t) slB = false) (e3 : ((tk1 (trB t)).2.2 == 0) = false) (e4 : (((tk.length : Nat) : Int) == 300000) = false), (0 ≤ (tk1 (trB t)).2.2 ∧ (tk1 (trB t)).2.2 ≤ (trB t).size) →
      invOf (stLn κ) sideLn (outLn κ) (fun x => x.k) K k' (stLn κ ⟨s, l, ln, tk ++ [((tk1 (trB t)).1, (tk1 (trB t)).2.1, l1L ln)], (trB t).extract (tk1 (trB t)).2.2.toNat (trB t).size, ((tk1 (trB t)).1, (tk1 (trB t)).2.1, l1L ln), k', true⟩) := fun e1 e2 e3 e4 hr =>
    ⟨_, rfl, ⟨by
      have hn : (tk1 (trB t)).2.2 ≠ 0 := fun e => by rw [e] at e3; cases e3
      simp only [exs]; omega, by simp only [exs]; omega, by
      simp only [List.length_append, List.length_singleton]
      have : ((tk.length : Nat) : Int) ≠ 300000 := fun e => by rw [e] at e4; cases e4
      omega⟩, rfl, fun t' _ => by
        have h := hoB (lnF (l1L ln) k' ((trB t).extract (tk1 (trB t)).2.2.toNat (trB t).size) (tk ++ [((tk1 (trB t)).1, (tk1 (trB t)).2.1, l1L ln)]) ((tk1 (trB t)).1, (tk1 (trB t)).2.1, l1L ln)) true (by rw [lnF, e1, e2, e3, e4]; rfl) (by unfold ln1; rw [e1, e2, e3, e4]; cases f <;> rfl) t'
        exact brn_iff.2 ⟨fun _ => (brn_iff.1 h).1 rfl, fun e => absurd (show true = false from e) (by decide)⟩⟩
  rw [hst] at next
  cases f with
  | false =>
    refine Eq.mpr (zI0 κ ⟨s, l, ln, tk.map avT, t, la.1, la.2.1, la.2.2⟩ _ _ K) ?_
    show brn ((trB t).toList == (ByteArray.mk #[]).toList) _ _
    rw [brn_iff]
    refine ⟨fun e1 => (brn_iff.1 ((brn_iff.1 (hoB (tk, la, none) false (by rw [lnF, e1]; rfl) (by unfold ln1; rw [e1]; rfl) (trB t))).2 rfl)).1 rfl, fun e1 => ?_⟩
    have h0 : (trB t).size ≠ 0 := fun e => by
      have := empty_iff (trB t)
      rw [e1, decide_eq_true e] at this; cases this
    show brn (hasP (trB t) slB) _ _
    rw [brn_iff]
    refine ⟨fun e2 => (brn_iff.1 ((brn_iff.1 (hoB (tk, la, none) false (by rw [lnF, e1, e2]; rfl) (by unfold ln1; rw [e1, e2]; rfl) (trB t))).2 rfl)).1 rfl, fun e2 => ?_⟩
    refine ⟨trB t, rfl, ⟨by omega, by omega⟩, ?_⟩
    rw [brn_iff]
    refine ⟨fun e3 => ⟨(l1L ln, 160), rfl, trivial, (brn_iff.1 ((brn_iff.1 (hoB (tk, la, some 160) false (by rw [lnF, e1, e2, e3]; rfl) (by unfold ln1; rw [e1, e2, e3]; rfl) (trB t))).2 rfl)).2 rfl⟩, fun e3 => ?_⟩
    show brn ((((tk.map avT).length : Nat) : Int) == 300000) _ _
    rw [brn_iff]
    refine ⟨fun e4 => ⟨(l1L ln, 21), rfl, trivial, (brn_iff.1 ((brn_iff.1 (hoB (tk, la, some 21) false (by rw [List.length_map] at e4; rw [lnF, e1, e2, e3, e4]; rfl) (by rw [List.length_map] at e4; unfold ln1; rw [e1, e2, e3, e4]; rfl) (trB t))).2 rfl)).2 rfl⟩, fun e4 => ?_⟩
    rw [List.length_map] at e4
    have hr := tk1_rng (s := trB t) (by omega)
    have next := next e1 e2 e3 e4 hr
    have hb : (decide (0 ≤ (tk1 (trB t)).2.2) && decide ((tk1 (trB t)).2.2 ≤ ((trB t).size : Int)) && decide (((trB t).size : Int) ≤ ((trB t).size : Int))) = true := by simp; omega
    refine cnd_iff.2 ⟨by rw [decide_eq_true_eq]; simp only [List.length_map]; omega, ?_⟩
    clear hst hoB ho e1 e2 e3 e4
    repeat' first
      | exact cnd_iff.2 ⟨hb, k', Nat.lt_succ_self _, next⟩
      | refine And.intro ?_ ?_
  | true =>
    refine Eq.mpr (zI1 κ ⟨s, l, ln, tk.map avT, t, la.1, la.2.1, la.2.2⟩ _ _ K) ?_
    show brn ((trB t).toList == (ByteArray.mk #[]).toList) _ _
    rw [brn_iff]
    refine ⟨fun e1 => (brn_iff.1 ((brn_iff.1 (hoB (tk, la, none) true (by rw [lnF, e1]; rfl) (by unfold ln1; rw [e1]; rfl) (trB t))).1 rfl)).1 rfl, fun e1 => ?_⟩
    have h0 : (trB t).size ≠ 0 := fun e => by
      have := empty_iff (trB t)
      rw [e1, decide_eq_true e] at this; cases this
    show brn (hasP (trB t) slB) _ _
    rw [brn_iff]
    refine ⟨fun e2 => (brn_iff.1 ((brn_iff.1 (hoB (tk, la, none) true (by rw [lnF, e1, e2]; rfl) (by unfold ln1; rw [e1, e2]; rfl) (trB t))).1 rfl)).1 rfl, fun e2 => ?_⟩
    refine ⟨trB t, rfl, ⟨by omega, by omega⟩, ?_⟩
    rw [brn_iff]
    refine ⟨fun e3 => ⟨(l1L ln, 160), rfl, trivial, (brn_iff.1 ((brn_iff.1 (hoB (tk, la, some 160) true (by rw [lnF, e1, e2, e3]; rfl) (by unfold ln1; rw [e1, e2, e3]; rfl) (trB t))).1 rfl)).2 rfl⟩, fun e3 => ?_⟩
    show brn ((((tk.map avT).length : Nat) : Int) == 300000) _ _
    rw [brn_iff]
    refine ⟨fun e4 => ⟨(l1L ln, 21), rfl, trivial, (brn_iff.1 ((brn_iff.1 (hoB (tk, la, some 21) true (by rw [List.length_map] at e4; rw [lnF, e1, e2, e3, e4]; rfl) (by rw [List.length_map] at e4; unfold ln1; rw [e1, e2, e3, e4]; rfl) (trB t))).1 rfl)).2 rfl⟩, fun e4 => ?_⟩
    rw [List.length_map] at e4
    have hr := tk1_rng (s := trB t) (by omega)
    have next := next e1 e2 e3 e4 hr
    have hb : (decide (0 ≤ (tk1 (trB t)).2.2) && decide ((tk1 (trB t)).2.2 ≤ ((trB t).size : Int)) && decide (((trB t).size : Int) ≤ ((trB t).size : Int))) = true := by simp; omega
    refine cnd_iff.2 ⟨by rw [decide_eq_true_eq]; simp only [List.length_map]; omega, ?_⟩
    clear hst hoB ho e1 e2 e3 e4
    repeat' first
      | exact cnd_iff.2 ⟨hb, k', Nat.lt_succ_self _, next⟩
      | refine And.intro ?_ ?_
noncomputable def BLn (κ : Kp) : EB := (BGe κ).loop (lLn κ)
noncomputable abbrev strLr (κ : Kp) (s : ByteArray) (ln : Int) (toks : List AV) : List Dn.Obj := [.box 24 (.slc 7 0 toks.length), .box 35 (.lit .nilIface), .box 3 (.int ln), .dead, .dead, .dead, lpL κ s .ready none, .row 31 toks]
theorem sLx (κ : Kp) (s : ByteArray) (Q : List Dn.Obj → Prop) : (tidy (Pr κ).toProgram 7 (setDead (strL0 κ s) (capIds (strL0 κ s) [.ptr 4 0 [] 0, .ptr 3 0 [] 0, .ptr 5 0 [] 0])) Q) = (
  Q [Obj.box 24 (AV.slc 7 0 0), Obj.box 35 (AV.lit Value.nilIface), Obj.box 3 (AV.int 0), Obj.dead, Obj.dead, Obj.dead, Dn.Obj.loop (lpA Tryz.prog 10 7
  LoopState.ready none (spR (junks 58) [(0, AV.str s), (2, AV.nil), (3, AV.int 0), (4, AV.int 0), (5, AV.ptr 0 0 [] 0), (6, AV.ptr 1 0 [] 0), (7, AV.ptr 2 0 []
  0), (12, AV.str s), (13, AV.int (↑(ByteArray.size s) : Int)), (14, AV.bool false), (15, AV.str s), (16, AV.clo 49 [AV.ptr 4 0 [] 0, AV.ptr 3 0 [] 0, AV.ptr 5 0
  [] 0])])), Obj.row 31 []]) := by kernel_rfl
theorem rLx (κ : Kp) (s l : ByteArray) (ln : Int) (toks : List AV) (Q : List Dn.Obj → Prop) (K2 : List Dn.Obj → Prop) : (roundA (vc (BLn κ).E 12) 6 [.lit (.string l)] (strLr κ s ln toks) (fun r st'' => match r with | .lit (.bool true) => tidy (Pr κ).toProgram 7 st'' Q | .lit (.bool false) => K2 st'' | _ => False)) = (
  loopCode (Pg.toProgram (Env.P (EB.E (BGe κ)))) 28 1 = loopCode (Pg.toProgram (Env.P (EB.E (BGe κ)))) 28 1 ∧ ∃ (a : ALn), sp 45 [(0, AV.yld 10), (1, AV.ptr 8 0 []
  0), (2, AV.ptr 9 0 [] 0), (4, AV.ptr 11 0 [] 0)] [Obj.box 24 (AV.slc 7 0 toks.length), Obj.box 35 (AV.lit Value.nilIface), Obj.box 3 (AV.int (IntKind.wrap
  IntKind.i64 (ln + (1 : Int)))), Obj.dead, Obj.dead, Obj.dead, Dn.Obj.loop (lpA Tryz.prog 10 7 LoopState.busy none (spR (junks 58) [(0, AV.str s), (2, AV.nil),
  (3, AV.int 0), (4, AV.int 0), (5, AV.ptr 0 0 [] 0), (6, AV.ptr 1 0 [] 0), (7, AV.ptr 2 0 [] 0), (12, AV.str s), (13, AV.int (↑(ByteArray.size s) : Int)), (14,
  AV.bool false), (15, AV.str s), (16, AV.clo 49 [AV.ptr 4 0 [] 0, AV.ptr 3 0 [] 0, AV.ptr 5 0 [] 0])])), Obj.row 31 toks, Obj.box 9 (AV.str l), Obj.box 3
  (AV.int (IntKind.wrap IntKind.i64 (ln + (1 : Int)))), Dn.Obj.loop (lpA Tryz.prog 10 10 LoopState.ready none (spR (junks 58) [(0, AV.str s), (2, AV.nil), (3,
  AV.int 0), (4, AV.int 0), (5, AV.ptr 0 0 [] 0), (6, AV.ptr 1 0 [] 0), (7, AV.ptr 2 0 [] 0), (8, AV.str l), (12, AV.str s), (13, AV.int (↑(ByteArray.size s) :
  Int)), (14, AV.bool false), (15, AV.str s), (16, AV.clo 49 [AV.ptr 4 0 [] 0, AV.ptr 3 0 [] 0, AV.ptr 5 0 [] 0]), (17, AV.str l), (18, AV.int ln), (19, AV.int
  (IntKind.wrap IntKind.i64 (ln + (1 : Int)))), (20, AV.str l), (21, AV.int (IntKind.wrap IntKind.i64 (ln + (1 : Int)))), (22, AV.clo 28 [AV.ptr 8 0 [] 0, AV.ptr
  9 0 [] 0])])), Obj.box 31 (AV.agg [AV.int 0, AV.str { data := #[] }, AV.int 0])] = stLn κ a ∧ sideLn a ∧ ∀ (y : ByteArray), True → brn (a.f || ln1 a.tk.length
  a.t) (brn (Option.isNone (Prod.snd (Prod.snd (lnF (l1L a.ln) a.k a.t a.tk a.la)))) (brn (endT (Prod.fst (Prod.fst (Prod.snd (lnF (l1L a.ln) a.k a.t a.tk
  a.la)))) (Prod.fst (Prod.snd (Prod.fst (Prod.snd (lnF (l1L a.ln) a.k a.t a.tk a.la)))))) (brn ((↑(List.length (List.map avT (Prod.fst (lnF (l1L a.ln) a.k a.t
  a.tk a.la)))) : Int) == (300000 : Int)) (∃ (a_2 : Int × Int), ([AV.lst 35 [AV.ifc 42 (AV.pim 44 (AV.agg [AV.int (l1L a.ln), AV.int 21]))]], nilO) = ([AV.lst 35
  [AV.ifc 42 (AV.pim 44 (AV.agg [AV.int a_2.1, AV.int a_2.2]))]], nilO) ∧ True ∧ K2 [Obj.box 24 (AV.slc 11 0 (List.length (List.map avT (Prod.fst (lnF (l1L a.ln)
  a.k a.t a.tk a.la))))), Obj.box 35 (AV.ifc 60 (AV.ptr 16 0 [] 0)), Obj.box 3 (AV.int (l1L a.ln)), Obj.dead, Obj.dead, Obj.dead, Dn.Obj.loop (lpA Tryz.prog 10 7
  LoopState.done (some (Code.exit 0)) (spR (junks 58) [(0, AV.str a.s), (2, AV.nil), (3, AV.int 0), (4, AV.int 0), (5, AV.ptr 0 0 [] 0), (6, AV.ptr 1 0 [] 0),
  (7, AV.ptr 2 0 [] 0), (12, AV.str a.s), (13, AV.int (↑(ByteArray.size a.s) : Int)), (14, AV.bool false), (15, AV.str a.s), (16, AV.clo 49 [AV.ptr 4 0 [] 0,
  AV.ptr 3 0 [] 0, AV.ptr 5 0 [] 0])])), Obj.dead, Obj.box 9 (AV.str y), Obj.box 3 (AV.int (l1L a.ln)), Obj.dead, Obj.row 31 (List.map avT (Prod.fst (lnF (l1L
  a.ln) a.k a.t a.tk a.la))), Obj.box 31 (AV.agg [AV.lit (Value.int IntKind.i64 (Prod.fst (Prod.fst (Prod.snd (lnF (l1L a.ln) a.k a.t a.tk a.la))))), AV.lit
  (Value.string (Prod.fst (Prod.snd (Prod.fst (Prod.snd (lnF (l1L a.ln) a.k a.t a.tk a.la)))))), AV.lit (Value.int IntKind.i64 (Prod.snd (Prod.snd (Prod.fst
  (Prod.snd (lnF (l1L a.ln) a.k a.t a.tk a.la))))))]), Obj.box 31 (AV.agg [AV.int 4, AV.str { data := #[OfNat.ofNat 59] }, AV.int (l1L a.ln)]), Obj.dead, Obj.frz
  35 [AV.ifc 42 (AV.pim 44 (AV.agg [AV.int (l1L a.ln), AV.int 21]))], Obj.box 62 (AV.agg [AV.slc 17 0 1]), Obj.row 35 [AV.ifc 42 (AV.pim 44 (AV.agg [AV.int
  a_2.1, AV.int a_2.2]))]]) (cnd (decide ((List.length (List.map avT (Prod.fst (lnF (l1L a.ln) a.k a.t a.tk a.la))) + 1 + 1) * 33 ≤ 70368744177664)) (Q [Obj.box
  24 (AV.slc 7 0 (List.length (List.map avT (Prod.fst (lnF (l1L a.ln) a.k a.t a.tk a.la))) + 1)), Obj.box 35 (AV.lit Value.nilIface), Obj.box 3 (AV.int (l1L
  a.ln)), Obj.dead, Obj.dead, Obj.dead, Dn.Obj.loop (lpA Tryz.prog 10 7 LoopState.ready none (spR (junks 58) [(0, AV.str a.s), (2, AV.nil), (3, AV.int 0), (4,
  AV.int 0), (5, AV.ptr 0 0 [] 0), (6, AV.ptr 1 0 [] 0), (7, AV.ptr 2 0 [] 0), (12, AV.str a.s), (13, AV.int (↑(ByteArray.size a.s) : Int)), (14, AV.bool false),
  (15, AV.str a.s), (16, AV.clo 49 [AV.ptr 4 0 [] 0, AV.ptr 3 0 [] 0, AV.ptr 5 0 [] 0])])), Obj.row 31 (List.take (List.length (List.map avT (Prod.fst (lnF (l1L
  a.ln) a.k a.t a.tk a.la)))) (List.map avT (Prod.fst (lnF (l1L a.ln) a.k a.t a.tk a.la))) ++ [AV.agg [AV.int 4, AV.str { data := #[OfNat.ofNat 59] }, AV.int
  (l1L a.ln)]])]))) (Q [Obj.box 24 (AV.slc 7 0 (List.length (List.map avT (Prod.fst (lnF (l1L a.ln) a.k a.t a.tk a.la))))), Obj.box 35 (AV.lit Value.nilIface),
  Obj.box 3 (AV.int (l1L a.ln)), Obj.dead, Obj.dead, Obj.dead, Dn.Obj.loop (lpA Tryz.prog 10 7 LoopState.ready none (spR (junks 58) [(0, AV.str a.s), (2,
  AV.nil), (3, AV.int 0), (4, AV.int 0), (5, AV.ptr 0 0 [] 0), (6, AV.ptr 1 0 [] 0), (7, AV.ptr 2 0 [] 0), (12, AV.str a.s), (13, AV.int (↑(ByteArray.size a.s) :
  Int)), (14, AV.bool false), (15, AV.str a.s), (16, AV.clo 49 [AV.ptr 4 0 [] 0, AV.ptr 3 0 [] 0, AV.ptr 5 0 [] 0])])), Obj.row 31 (List.map avT (Prod.fst (lnF
  (l1L a.ln) a.k a.t a.tk a.la)))])) (K2 [Obj.box 24 (AV.slc 11 0 (List.length (List.map avT (Prod.fst (lnF (l1L a.ln) a.k a.t a.tk a.la))))), Obj.box 35 (AV.ifc
  60 (AV.ptr 12 0 [] 0)), Obj.box 3 (AV.int (l1L a.ln)), Obj.dead, Obj.dead, Obj.dead, Dn.Obj.loop (lpA Tryz.prog 10 7 LoopState.done (some (Code.exit 0)) (spR
  (junks 58) [(0, AV.str a.s), (2, AV.nil), (3, AV.int 0), (4, AV.int 0), (5, AV.ptr 0 0 [] 0), (6, AV.ptr 1 0 [] 0), (7, AV.ptr 2 0 [] 0), (12, AV.str a.s),
  (13, AV.int (↑(ByteArray.size a.s) : Int)), (14, AV.bool false), (15, AV.str a.s), (16, AV.clo 49 [AV.ptr 4 0 [] 0, AV.ptr 3 0 [] 0, AV.ptr 5 0 [] 0])])),
  Obj.dead, Obj.box 9 (AV.str y), Obj.box 3 (AV.int (l1L a.ln)), Obj.dead, Obj.row 31 (List.map avT (Prod.fst (lnF (l1L a.ln) a.k a.t a.tk a.la))), Obj.box 62
  (AV.agg [AV.slc 13 0 1]), Obj.row 35 [AV.ifc 42 (AV.pim 44 (AV.agg [AV.int (l1L a.ln), AV.lit (Value.int IntKind.i64 (Option.getD (Prod.snd (Prod.snd (lnF (l1L
  a.ln) a.k a.t a.tk a.la))) (0 : Int)))]))]])) (brn (Option.isNone (Prod.snd (Prod.snd (lnF (l1L a.ln) a.k a.t a.tk a.la)))) (brn (endT a.la.1 a.la.2.1) (brn
  ((↑(List.length (List.map avT a.tk)) : Int) == (300000 : Int)) (∃ (a_2 : Int × Int), ([AV.lst 35 [AV.ifc 42 (AV.pim 44 (AV.agg [AV.int (l1L a.ln), AV.int
  21]))]], nilO) = ([AV.lst 35 [AV.ifc 42 (AV.pim 44 (AV.agg [AV.int a_2.1, AV.int a_2.2]))]], nilO) ∧ True ∧ K2 [Obj.box 24 (AV.slc 7 0 (List.length (List.map
  avT a.tk))), Obj.box 35 (AV.ifc 60 (AV.ptr 15 0 [] 0)), Obj.box 3 (AV.int (l1L a.ln)), Obj.dead, Obj.dead, Obj.dead, Dn.Obj.loop (lpA Tryz.prog 10 7
  LoopState.done (some (Code.exit 0)) (spR (junks 58) [(0, AV.str a.s), (2, AV.nil), (3, AV.int 0), (4, AV.int 0), (5, AV.ptr 0 0 [] 0), (6, AV.ptr 1 0 [] 0),
  (7, AV.ptr 2 0 [] 0), (12, AV.str a.s), (13, AV.int (↑(ByteArray.size a.s) : Int)), (14, AV.bool false), (15, AV.str a.s), (16, AV.clo 49 [AV.ptr 4 0 [] 0,
  AV.ptr 3 0 [] 0, AV.ptr 5 0 [] 0])])), Obj.row 31 (List.map avT a.tk), Obj.box 9 (AV.str y), Obj.box 3 (AV.int (l1L a.ln)), Obj.dead, Obj.box 31 (AV.agg
  [AV.int a.la.1, AV.str a.la.2.1, AV.int a.la.2.2]), Obj.box 31 (AV.agg [AV.int 4, AV.str { data := #[OfNat.ofNat 59] }, AV.int (l1L a.ln)]), Obj.dead, Obj.frz
  35 [AV.ifc 42 (AV.pim 44 (AV.agg [AV.int (l1L a.ln), AV.int 21]))], Obj.box 62 (AV.agg [AV.slc 16 0 1]), Obj.row 35 [AV.ifc 42 (AV.pim 44 (AV.agg [AV.int
  a_2.1, AV.int a_2.2]))]]) (cnd (decide ((List.length (List.map avT a.tk) + 1 + 1) * 33 ≤ 70368744177664)) (Q [Obj.box 24 (AV.slc 7 0 (List.length (List.map avT
  a.tk) + 1)), Obj.box 35 (AV.lit Value.nilIface), Obj.box 3 (AV.int (l1L a.ln)), Obj.dead, Obj.dead, Obj.dead, Dn.Obj.loop (lpA Tryz.prog 10 7 LoopState.ready
  none (spR (junks 58) [(0, AV.str a.s), (2, AV.nil), (3, AV.int 0), (4, AV.int 0), (5, AV.ptr 0 0 [] 0), (6, AV.ptr 1 0 [] 0), (7, AV.ptr 2 0 [] 0), (12, AV.str
  a.s), (13, AV.int (↑(ByteArray.size a.s) : Int)), (14, AV.bool false), (15, AV.str a.s), (16, AV.clo 49 [AV.ptr 4 0 [] 0, AV.ptr 3 0 [] 0, AV.ptr 5 0 []
  0])])), Obj.row 31 (List.take (List.length (List.map avT a.tk)) (List.map avT a.tk) ++ [AV.agg [AV.int 4, AV.str { data := #[OfNat.ofNat 59] }, AV.int (l1L
  a.ln)]])]))) (Q [Obj.box 24 (AV.slc 7 0 (List.length (List.map avT a.tk))), Obj.box 35 (AV.lit Value.nilIface), Obj.box 3 (AV.int (l1L a.ln)), Obj.dead,
  Obj.dead, Obj.dead, Dn.Obj.loop (lpA Tryz.prog 10 7 LoopState.ready none (spR (junks 58) [(0, AV.str a.s), (2, AV.nil), (3, AV.int 0), (4, AV.int 0), (5,
  AV.ptr 0 0 [] 0), (6, AV.ptr 1 0 [] 0), (7, AV.ptr 2 0 [] 0), (12, AV.str a.s), (13, AV.int (↑(ByteArray.size a.s) : Int)), (14, AV.bool false), (15, AV.str
  a.s), (16, AV.clo 49 [AV.ptr 4 0 [] 0, AV.ptr 3 0 [] 0, AV.ptr 5 0 [] 0])])), Obj.row 31 (List.map avT a.tk)])) (K2 [Obj.box 24 (AV.slc 7 0 (List.length
  (List.map avT a.tk))), Obj.box 35 (AV.ifc 60 (AV.ptr 11 0 [] 0)), Obj.box 3 (AV.int (l1L a.ln)), Obj.dead, Obj.dead, Obj.dead, Dn.Obj.loop (lpA Tryz.prog 10 7
  LoopState.done (some (Code.exit 0)) (spR (junks 58) [(0, AV.str a.s), (2, AV.nil), (3, AV.int 0), (4, AV.int 0), (5, AV.ptr 0 0 [] 0), (6, AV.ptr 1 0 [] 0),
  (7, AV.ptr 2 0 [] 0), (12, AV.str a.s), (13, AV.int (↑(ByteArray.size a.s) : Int)), (14, AV.bool false), (15, AV.str a.s), (16, AV.clo 49 [AV.ptr 4 0 [] 0,
  AV.ptr 3 0 [] 0, AV.ptr 5 0 [] 0])])), Obj.row 31 (List.map avT a.tk), Obj.box 9 (AV.str y), Obj.box 3 (AV.int (l1L a.ln)), Obj.dead, Obj.box 62 (AV.agg
  [AV.slc 12 0 1]), Obj.row 35 [AV.ifc 42 (AV.pim 44 (AV.agg [AV.int (l1L a.ln), AV.lit (Value.int IntKind.i64 (Option.getD (Prod.snd (Prod.snd (lnF (l1L a.ln)
  a.k a.t a.tk a.la))) (0 : Int)))]))]]))) := by kernel_rfl
end Go.Proofs.YtbppdpbagmbmpaaGreatDoor
