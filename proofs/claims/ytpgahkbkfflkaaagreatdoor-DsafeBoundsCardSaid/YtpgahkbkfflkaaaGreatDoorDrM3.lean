import Derived.Test.YtpgahkbkfflkaaaGreatDoorDrM2
import Derived.Test.YtpgahkbkfflkaaaGreatDoorDrM1
namespace Go.Proofs.YtpgahkbkfflkaaaGreatDoor
open Go Go.Dn Go.Rl Go.Proofs
attribute [local irreducible] funA vc
set_option maxRecDepth 20000
structure A56 where
  xs : List AV
  more : List AV
  t : AV
  m : List AV
  i : Int
abbrev el56 (a : A56) : AV := exT 43 (nth a.m a.i.toNat)
def genU : List Nat := [67, 94, 80]
def st56 (a : AV) : List AV × List Dn.Obj := ([.yld 0, .ptr 1 0 [] 0], [.ext (some (subs 43 a)), .box 43 (exT 43 a)])
def side56 (n : Nat) (a : AV) : Prop := (tmOf a).cnt = n ∧ n ≤ 100000
def out56 (_ : AV) : Out (AV × List Dn.Obj) := .all (fun st' => tdone st') fun st' => .one (.tup [], st')
def sp56 (n : Nat) : CallSpec := callE st56 (side56 n) out56
noncomputable def E56p (κ : Kp) (r : Nat) : Env := (E20 κ).addCall 94 fun args st K => ∃ m, m < r ∧ sp56 m args st K
noncomputable abbrev lp56 (a : A56) (κ : Kp) (st : LoopState) (p : Option Code) : Dn.Obj :=
  .loop (lpA (Pr κ).toProgram 94 6 st p (spR (junks 25) [(2, .ptr 2 0 [] 0), (4, .ptr 3 0 [] 0), (11, .lst 43 a.m), (12, .int a.m.length), (13, .int a.i), (14, .bool true),
    (15, .pim 43 (nth a.m a.i.toNat)), (16, el56 a), (17, el56 a), (18, .clo 94 [.ptr 4 0 [] 0])]))
noncomputable abbrev str56 (κ : Kp) (a : A56) : List Dn.Obj := [.ext (some a.xs), .box 43 (exT 43 a.t), .box 122 (.yld 0), .box 43 (el56 a), .box 43 (el56 a), lp56 a κ .ready none]
noncomputable abbrev str56d (κ : Kp) (a : A56) (o : Option (List AV)) (st : LoopState) (p : Option Code) : List Dn.Obj := [.ext o, .box 43 (exT 43 a.t), .box 122 (.yld 0), .box 43 (el56 a), .dead, lp56 a κ st p]
theorem s56 (κ : Kp) (a : A56) (Q : List Dn.Obj → Prop) : (tidy (Pr κ).toProgram 6 (setDead (str56 κ a) (capIds (str56 κ a) [.ptr 4 0 [] 0])) Q) = (
  Q [Obj.ext (some (A56.xs a)), Obj.box 43 (AV.agg [AV.int (toInt (fld (A56.t a) 0)), AV.str (toStr (fld (A56.t a) 1)), AV.int (toInt (fld (A56.t a) 2)), AV.lst 43
  (toLst (fld (A56.t a) 3))]), Obj.box 122 (AV.yld 0), Obj.box 43 (AV.agg [AV.int (toInt (fld (nth (A56.m a) (Int.toNat (A56.i a))) 0)), AV.str (toStr (fld (nth
  (A56.m a) (Int.toNat (A56.i a))) 1)), AV.int (toInt (fld (nth (A56.m a) (Int.toNat (A56.i a))) 2)), AV.lst 43 (toLst (fld (nth (A56.m a) (Int.toNat (A56.i a)))
  3))]), Obj.dead, Dn.Obj.loop (lpA Tryz.prog 94 6 LoopState.ready none (spR (junks 25) [(2, AV.ptr 2 0 [] 0), (4, AV.ptr 3 0 [] 0), (11, AV.lst 43 (A56.m a)),
  (12, AV.int (↑(List.length (A56.m a)) : Int)), (13, AV.int (A56.i a)), (14, AV.bool true), (15, AV.pim 43 (nth (A56.m a) (Int.toNat (A56.i a)))), (16, AV.agg
  [AV.int (toInt (fld (nth (A56.m a) (Int.toNat (A56.i a))) 0)), AV.str (toStr (fld (nth (A56.m a) (Int.toNat (A56.i a))) 1)), AV.int (toInt (fld (nth (A56.m a)
  (Int.toNat (A56.i a))) 2)), AV.lst 43 (toLst (fld (nth (A56.m a) (Int.toNat (A56.i a))) 3))]), (17, AV.agg [AV.int (toInt (fld (nth (A56.m a) (Int.toNat (A56.i
  a))) 0)), AV.str (toStr (fld (nth (A56.m a) (Int.toNat (A56.i a))) 1)), AV.int (toInt (fld (nth (A56.m a) (Int.toNat (A56.i a))) 2)), AV.lst 43 (toLst (fld
  (nth (A56.m a) (Int.toNat (A56.i a))) 3))]), (18, AV.clo 94 [AV.ptr 4 0 [] 0])]))]) := by kernel_rfl
theorem r56 (κ : Kp) (r : Nat) (a : A56) (o : List AV) (u : AV) (Q : List Dn.Obj → Prop) (K2 : List Dn.Obj → Prop) : (roundA (vc (E56p κ r) 12) 5 [exT 43 u] (str56d κ a (some o) .ready none) (fun r st'' => match r with | .lit (.bool true) => tidy (Pr κ).toProgram 6 st'' Q | .lit (.bool false) => K2 st'' | _ => False)) = (
  ∃ (rest : List AV), o = AV.tup [AV.agg [AV.int (toInt (fld u 0)), AV.str (toStr (fld u 1)), AV.int (toInt (fld u 2)), AV.lst 43 (toLst (fld u 3))]] :: rest ∧ Q
  [Obj.ext (some rest), Obj.box 43 (AV.agg [AV.int (toInt (fld (A56.t a) 0)), AV.str (toStr (fld (A56.t a) 1)), AV.int (toInt (fld (A56.t a) 2)), AV.lst 43
  (toLst (fld (A56.t a) 3))]), Obj.box 122 (AV.yld 0), Obj.box 43 (AV.agg [AV.int (toInt (fld (nth (A56.m a) (Int.toNat (A56.i a))) 0)), AV.str (toStr (fld (nth
  (A56.m a) (Int.toNat (A56.i a))) 1)), AV.int (toInt (fld (nth (A56.m a) (Int.toNat (A56.i a))) 2)), AV.lst 43 (toLst (fld (nth (A56.m a) (Int.toNat (A56.i a)))
  3))]), Obj.dead, Dn.Obj.loop (lpA Tryz.prog 94 6 LoopState.ready none (spR (junks 25) [(2, AV.ptr 2 0 [] 0), (4, AV.ptr 3 0 [] 0), (11, AV.lst 43 (A56.m a)),
  (12, AV.int (↑(List.length (A56.m a)) : Int)), (13, AV.int (A56.i a)), (14, AV.bool true), (15, AV.pim 43 (nth (A56.m a) (Int.toNat (A56.i a)))), (16, AV.agg
  [AV.int (toInt (fld (nth (A56.m a) (Int.toNat (A56.i a))) 0)), AV.str (toStr (fld (nth (A56.m a) (Int.toNat (A56.i a))) 1)), AV.int (toInt (fld (nth (A56.m a)
  (Int.toNat (A56.i a))) 2)), AV.lst 43 (toLst (fld (nth (A56.m a) (Int.toNat (A56.i a))) 3))]), (17, AV.agg [AV.int (toInt (fld (nth (A56.m a) (Int.toNat (A56.i
  a))) 0)), AV.str (toStr (fld (nth (A56.m a) (Int.toNat (A56.i a))) 1)), AV.int (toInt (fld (nth (A56.m a) (Int.toNat (A56.i a))) 2)), AV.lst 43 (toLst (fld
  (nth (A56.m a) (Int.toNat (A56.i a))) 3))]), (18, AV.clo 94 [AV.ptr 4 0 [] 0])]))] ∧ K2 [Obj.ext none, Obj.box 43 (AV.agg [AV.int (toInt (fld (A56.t a) 0)),
  AV.str (toStr (fld (A56.t a) 1)), AV.int (toInt (fld (A56.t a) 2)), AV.lst 43 (toLst (fld (A56.t a) 3))]), Obj.box 122 (AV.yld 0), Obj.box 43 (AV.agg [AV.int
  (toInt (fld (nth (A56.m a) (Int.toNat (A56.i a))) 0)), AV.str (toStr (fld (nth (A56.m a) (Int.toNat (A56.i a))) 1)), AV.int (toInt (fld (nth (A56.m a)
  (Int.toNat (A56.i a))) 2)), AV.lst 43 (toLst (fld (nth (A56.m a) (Int.toNat (A56.i a))) 3))]), Obj.dead, Dn.Obj.loop (lpA Tryz.prog 94 6 LoopState.done (some
  Code.ret) (spR (junks 25) [(2, AV.ptr 2 0 [] 0), (4, AV.ptr 3 0 [] 0), (11, AV.lst 43 (A56.m a)), (12, AV.int (↑(List.length (A56.m a)) : Int)), (13, AV.int
  (A56.i a)), (14, AV.bool true), (15, AV.pim 43 (nth (A56.m a) (Int.toNat (A56.i a)))), (16, AV.agg [AV.int (toInt (fld (nth (A56.m a) (Int.toNat (A56.i a)))
  0)), AV.str (toStr (fld (nth (A56.m a) (Int.toNat (A56.i a))) 1)), AV.int (toInt (fld (nth (A56.m a) (Int.toNat (A56.i a))) 2)), AV.lst 43 (toLst (fld (nth
  (A56.m a) (Int.toNat (A56.i a))) 3))]), (17, AV.agg [AV.int (toInt (fld (nth (A56.m a) (Int.toNat (A56.i a))) 0)), AV.str (toStr (fld (nth (A56.m a) (Int.toNat
  (A56.i a))) 1)), AV.int (toInt (fld (nth (A56.m a) (Int.toNat (A56.i a))) 2)), AV.lst 43 (toLst (fld (nth (A56.m a) (Int.toNat (A56.i a))) 3))]), (18, AV.clo
  94 [AV.ptr 4 0 [] 0])])), Obj.box 43 (AV.agg [AV.int (toInt (fld u 0)), AV.str (toStr (fld u 1)), AV.int (toInt (fld u 2)), AV.lst 43 (toLst (fld u 3))])]) := by kernel_rfl
theorem k56 (κ : Kp) (a : A56) (xs : List AV) : (AV.yld 0 :: renL (idxS (capIds (str56 κ a) [.ptr 4 0 [] 0])) [.ptr 4 0 [] 0], Obj.ext (some xs) :: renSt (idxS (capIds (str56 κ a) [.ptr 4 0 [] 0])) (getSt (str56 κ a) (capIds (str56 κ a) [.ptr 4 0 [] 0]))) = ([.yld 0, .ptr 1 0 [] 0], [.ext (some xs), .box 43 (el56 a)]) := by kernel_rfl
theorem o56 (κ : Kp) (a : A56) : genOk (str56 κ a) [.ptr 4 0 [] 0] = true := by kernel_rfl
noncomputable def spR56 (κ : Kp) (r : Nat) : RangeSpec := fun caps st K => ∃ a : A56, (caps, st) = ([AV.ptr 4 0 [] 0], str56 κ a) ∧ ((tmOf (nth a.m a.i.toNat)).cnt < r ∧ (tmOf (nth a.m a.i.toNat)).cnt ≤ 100000 ∧ a.xs = subs 43 (nth a.m a.i.toNat) ++ a.more) ∧
  (K (str56d κ a (some a.more) .ready none) ∧ ∀ u : AV, K (str56d κ a none .done (some .ret) ++ [.box 43 (exT 43 u)]))
theorem spR56_mono (κ : Kp) (r : Nat) : (spR56 κ r).Mono := by
  rintro caps st K K' hK ⟨a, h1, h2, h3, h4⟩
  exact ⟨a, h1, h2, hK _ h3, fun u => hK _ (h4 u)⟩
theorem call56p (κ : Kp) (r : Nat) (args : List AV) (st : List Dn.Obj) (K : AV → List Dn.Obj → Prop) (h : ∃ m, m < r ∧ sp56 m args st K) : (E56p κ r).call 94 args st K := h
theorem g56r (κ : Kp) (r : Nat) : RangeOk (E56p κ r) 12 94 (spR56 κ r) := by
  rintro caps st K ⟨a, h1, ⟨h2, h3, h4⟩, h5, h6⟩
  obtain ⟨rfl, rfl⟩ := Prod.mk.inj h1
  refine ⟨subs 43 (nth a.m a.i.toNat), fun items st' => (∀ x, x ∈ items → IsItem 43 x) ∧ st' = str56d κ a (some (items ++ a.more)) .ready none, ⟨o56 κ a, ?_, ?_, ?_, ?_⟩⟩
  · refine call56p κ r _ _ _ ⟨_, h2, nth a.m a.i.toNat, ?_, ⟨rfl, h3⟩, fun st' h => h⟩
    rw [k56]; rfl
  · rw [show (E56p κ r).P = Pr κ from rfl, show (str56 κ a).length = 6 from rfl, s56]
    exact ⟨items_subs _ _ _ (Nat.lt_succ_self _), by rw [h4]; rfl⟩
  · rintro us rest st' ⟨e1, rfl⟩
    obtain ⟨u, hu⟩ := e1 (.tup us) (by simp)
    obtain rfl := AV.tup.inj hu
    rw [show (E56p κ r).P = Pr κ from rfl, show (str56 κ a).length = 6 from rfl]
    refine Eq.mpr (r56 κ r a _ u _ _) ?_
    exact ⟨_, rfl, ⟨fun x hx => e1 x (by simp [hx]), rfl⟩, h6 u⟩
  · rintro st' ⟨_, rfl⟩
    exact h5
noncomputable def E56r (κ : Kp) (r : Nat) : Env := ((E56p κ r).addRange 94 6 94 (spR56 κ r)).withGen (fun f => memN f genU)
theorem m56p (κ : Kp) (r : Nat) : EnvMono (E56p κ r) := (m20 κ).addCall (fun _ _ _ _ hK ⟨m, h1, h2⟩ => ⟨m, h1, callE_mono _ _ _ _ hK h2⟩)
theorem x56 (κ : Kp) (r : Nat) (a : A56) (I : Nat → S → Prop) (n : Nat) (K : Exit → S → Prop) : (vc (E56r κ r) 12 94 none 2 (loopCode (Pr κ).toProgram 94 3) (sp 25 [(2, .ptr 2 0 [] 0), (11, .lst 43 a.m), (12, .int a.m.length), (13, .int a.i)] [.ext (some a.xs), .box 43 (exT 43 a.t), .box 122 (.yld 0)]) (loopK (E56r κ r) 94 3 2 I n K)) = (
  brn (decide (A56.i a < (↑(List.length (A56.m a)) : Int))) (cnd (decide ((0 : Int) ≤ A56.i a) && decide (A56.i a < (↑(List.length (A56.m a)) : Int))) (∃ (a_1 :
  A56), ([AV.ptr 4 0 [] 0], [Obj.ext (some (A56.xs a)), Obj.box 43 (AV.agg [AV.int (toInt (fld (A56.t a) 0)), AV.str (toStr (fld (A56.t a) 1)), AV.int (toInt
  (fld (A56.t a) 2)), AV.lst 43 (toLst (fld (A56.t a) 3))]), Obj.box 122 (AV.yld 0), Obj.box 43 (AV.agg [AV.int (toInt (fld (nth (A56.m a) (Int.toNat (A56.i a)))
  0)), AV.str (toStr (fld (nth (A56.m a) (Int.toNat (A56.i a))) 1)), AV.int (toInt (fld (nth (A56.m a) (Int.toNat (A56.i a))) 2)), AV.lst 43 (toLst (fld (nth
  (A56.m a) (Int.toNat (A56.i a))) 3))]), Obj.box 43 (AV.agg [AV.int (toInt (fld (nth (A56.m a) (Int.toNat (A56.i a))) 0)), AV.str (toStr (fld (nth (A56.m a)
  (Int.toNat (A56.i a))) 1)), AV.int (toInt (fld (nth (A56.m a) (Int.toNat (A56.i a))) 2)), AV.lst 43 (toLst (fld (nth (A56.m a) (Int.toNat (A56.i a))) 3))]),
  Dn.Obj.loop (lpA Tryz.prog 94 6 LoopState.ready none (spR (junks 25) [(2, AV.ptr 2 0 [] 0), (4, AV.ptr 3 0 [] 0), (11, AV.lst 43 (A56.m a)), (12, AV.int
  (↑(List.length (A56.m a)) : Int)), (13, AV.int (A56.i a)), (14, AV.bool true), (15, AV.pim 43 (nth (A56.m a) (Int.toNat (A56.i a)))), (16, AV.agg [AV.int
  (toInt (fld (nth (A56.m a) (Int.toNat (A56.i a))) 0)), AV.str (toStr (fld (nth (A56.m a) (Int.toNat (A56.i a))) 1)), AV.int (toInt (fld (nth (A56.m a)
  (Int.toNat (A56.i a))) 2)), AV.lst 43 (toLst (fld (nth (A56.m a) (Int.toNat (A56.i a))) 3))]), (17, AV.agg [AV.int (toInt (fld (nth (A56.m a) (Int.toNat (A56.i
  a))) 0)), AV.str (toStr (fld (nth (A56.m a) (Int.toNat (A56.i a))) 1)), AV.int (toInt (fld (nth (A56.m a) (Int.toNat (A56.i a))) 2)), AV.lst 43 (toLst (fld
  (nth (A56.m a) (Int.toNat (A56.i a))) 3))]), (18, AV.clo 94 [AV.ptr 4 0 [] 0])]))]) = ([AV.ptr 4 0 [] 0], [Obj.ext (some (A56.xs a_1)), Obj.box 43 (AV.agg
  [AV.int (toInt (fld (A56.t a_1) 0)), AV.str (toStr (fld (A56.t a_1) 1)), AV.int (toInt (fld (A56.t a_1) 2)), AV.lst 43 (toLst (fld (A56.t a_1) 3))]), Obj.box
  122 (AV.yld 0), Obj.box 43 (AV.agg [AV.int (toInt (fld (nth (A56.m a_1) (Int.toNat (A56.i a_1))) 0)), AV.str (toStr (fld (nth (A56.m a_1) (Int.toNat (A56.i
  a_1))) 1)), AV.int (toInt (fld (nth (A56.m a_1) (Int.toNat (A56.i a_1))) 2)), AV.lst 43 (toLst (fld (nth (A56.m a_1) (Int.toNat (A56.i a_1))) 3))]), Obj.box 43
  (AV.agg [AV.int (toInt (fld (nth (A56.m a_1) (Int.toNat (A56.i a_1))) 0)), AV.str (toStr (fld (nth (A56.m a_1) (Int.toNat (A56.i a_1))) 1)), AV.int (toInt (fld
  (nth (A56.m a_1) (Int.toNat (A56.i a_1))) 2)), AV.lst 43 (toLst (fld (nth (A56.m a_1) (Int.toNat (A56.i a_1))) 3))]), Dn.Obj.loop (lpA Tryz.prog 94 6
  LoopState.ready none (spR (junks 25) [(2, AV.ptr 2 0 [] 0), (4, AV.ptr 3 0 [] 0), (11, AV.lst 43 (A56.m a_1)), (12, AV.int (↑(List.length (A56.m a_1)) : Int)),
  (13, AV.int (A56.i a_1)), (14, AV.bool true), (15, AV.pim 43 (nth (A56.m a_1) (Int.toNat (A56.i a_1)))), (16, AV.agg [AV.int (toInt (fld (nth (A56.m a_1)
  (Int.toNat (A56.i a_1))) 0)), AV.str (toStr (fld (nth (A56.m a_1) (Int.toNat (A56.i a_1))) 1)), AV.int (toInt (fld (nth (A56.m a_1) (Int.toNat (A56.i a_1)))
  2)), AV.lst 43 (toLst (fld (nth (A56.m a_1) (Int.toNat (A56.i a_1))) 3))]), (17, AV.agg [AV.int (toInt (fld (nth (A56.m a_1) (Int.toNat (A56.i a_1))) 0)),
  AV.str (toStr (fld (nth (A56.m a_1) (Int.toNat (A56.i a_1))) 1)), AV.int (toInt (fld (nth (A56.m a_1) (Int.toNat (A56.i a_1))) 2)), AV.lst 43 (toLst (fld (nth
  (A56.m a_1) (Int.toNat (A56.i a_1))) 3))]), (18, AV.clo 94 [AV.ptr 4 0 [] 0])]))]) ∧ (Tm.cnt (tmOf (nth (A56.m a_1) (Int.toNat (A56.i a_1)))) < r ∧ Tm.cnt
  (tmOf (nth (A56.m a_1) (Int.toNat (A56.i a_1)))) ≤ 100000 ∧ A56.xs a_1 = subs 43 (nth (A56.m a_1) (Int.toNat (A56.i a_1))) ++ A56.more a_1) ∧ (∃ (m : Nat), m <
  n ∧ I m (sp 25 [(2, AV.ptr 2 0 [] 0), (11, AV.lst 43 (A56.m a)), (12, AV.int (↑(List.length (A56.m a)) : Int)), (13, AV.int (IntKind.wrap IntKind.i64 (A56.i a
  + (1 : Int))))] [Obj.ext (some (A56.more a_1)), Obj.box 43 (AV.agg [AV.int (toInt (fld (A56.t a_1) 0)), AV.str (toStr (fld (A56.t a_1) 1)), AV.int (toInt (fld
  (A56.t a_1) 2)), AV.lst 43 (toLst (fld (A56.t a_1) 3))]), Obj.box 122 (AV.yld 0)])) ∧ ∀ (u : AV), K Exit.ret (sp 25 [] [Obj.ext none, Obj.box 43 (AV.agg
  [AV.int (toInt (fld (A56.t a_1) 0)), AV.str (toStr (fld (A56.t a_1) 1)), AV.int (toInt (fld (A56.t a_1) 2)), AV.lst 43 (toLst (fld (A56.t a_1) 3))])]))) (K
  (Exit.exit 0) (sp 25 [] [Obj.ext (some (A56.xs a)), Obj.box 43 (AV.agg [AV.int (toInt (fld (A56.t a) 0)), AV.str (toStr (fld (A56.t a) 1)), AV.int (toInt (fld
  (A56.t a) 2)), AV.lst 43 (toLst (fld (A56.t a) 3))])]))) := by kernel_rfl
abbrev st56l (a : A56) : S := sp 25 [(2, .ptr 2 0 [] 0), (11, .lst 43 a.m), (12, .int a.m.length), (13, .int a.i)] [.ext (some a.xs), .box 43 (exT 43 a.t), .box 122 (.yld 0)]
def side56l (r : Nat) (a : A56) : Prop := a.m.length ≤ maxI ∧ 0 ≤ a.i ∧ a.i ≤ a.m.length ∧ cntL (tmsOf (a.m.drop a.i.toNat)) < r ∧ cntL (tmsOf (a.m.drop a.i.toNat)) ≤ 100000 ∧ a.xs = subsL 43 (a.m.drop a.i.toNat)
def out56l (a : A56) : Out (Exit × S) := .all (fun _ : Bool => True) fun b => .brn b (.one (.exit 0, sp 25 [] [.ext (some []), .box 43 (exT 43 a.t)])) (.one (.ret, sp 25 [] [.ext none, .box 43 (exT 43 a.t)]))
theorem cnt_drop (l : List AV) (i : Nat) (h : i < l.length) : cntL (tmsOf (l.drop i)) = (tmOf (nth l i)).cnt + cntL (tmsOf (l.drop (i + 1))) := by
  rw [tms_drop l i h, cntL]
theorem l56 (κ : Kp) (r : Nat) : LoopOk (E56r κ r) 12 94 3 (loopE 2 st56l (side56l r) out56l) := by
  refine loopE_ok (fun a => a.m.length - a.i.toNat) ?_
  rintro ⟨xs, more, t, m, i⟩ K ⟨h1, h2, h3, h4, h5, h6⟩ ho
  simp only at h1 h2 h3 h4 h5 h6
  rw [show (E56r κ r).P = Pr κ from rfl]
  refine Eq.mpr (x56 κ r ⟨xs, more, t, m, i⟩ _ _ K) ?_
  have ho1 := ho true trivial
  have ho2 := ho false trivial
  simp only [Out.run, brn] at ho1 ho2
  simp only [maxI] at h1
  simp only [brn_iff, cnd_iff, decide_eq_true_eq, decide_eq_false_iff_not, Bool.and_eq_true]
  refine ⟨fun hi => ⟨⟨h2, hi⟩, ?_⟩, fun hi => ?_⟩
  · have hc := cnt_drop m i.toNat (by omega)
    rw [subsL_drop _ m i.toNat (by omega)] at h6
    rw [wrap_ok (n := i + 1) (by omega) (by omega)]
    refine ⟨⟨xs, subsL 43 (m.drop (i.toNat + 1)), t, m, i⟩, rfl, ⟨by simp only; omega, by simp only; omega, h6⟩, ⟨_, ?_, ⟨_, more, t, m, i + 1⟩, rfl, ⟨by simpa [maxI] using h1, by simp only; omega, by simp only; omega, ?_, ?_, ?_⟩, rfl, ho⟩, fun _ => ho2⟩
    · simp only; omega
    · simp only [show (i + 1).toNat = i.toNat + 1 by omega]; omega
    · simp only [show (i + 1).toNat = i.toNat + 1 by omega]; omega
    · simp only [show (i + 1).toNat = i.toNat + 1 by omega]
  · rw [List.drop_eq_nil_of_le (by omega)] at h6
    subst h6
    exact ho1
noncomputable def E56l (κ : Kp) (r : Nat) : Env := (E56r κ r).addLoop 94 3 (loopE 2 st56l (side56l r) out56l)
theorem y56 (κ : Kp) (r : Nat) (t : AV) (xs : List AV) (K : AV → List Dn.Obj → Prop) : (funA (E56l κ r) 12 94 [.yld 0, .ptr 1 0 [] 0] [.ext (some xs), .box 43 (exT 43 t)] K) = (
  ∃ (rest : List AV), xs = AV.tup [AV.agg [AV.int (toInt (fld t 0)), AV.str (toStr (fld t 1)), AV.int (toInt (fld t 2)), AV.lst 43 (toLst (fld t 3))]] :: rest ∧
  (loopCode (Pg.toProgram (Env.P (E56r κ r))) 94 3 = loopCode (Pg.toProgram (Env.P (E56r κ r))) 94 3 ∧ ∃ (a : A56), sp 25 [(2, AV.ptr 2 0 [] 0), (11, AV.lst 43
  (toLst (fld t 3))), (12, AV.int (↑(List.length (toLst (fld t 3))) : Int)), (13, AV.int 0)] [Obj.ext (some rest), Obj.box 43 (AV.agg [AV.int (toInt (fld t 0)),
  AV.str (toStr (fld t 1)), AV.int (toInt (fld t 2)), AV.lst 43 (toLst (fld t 3))]), Obj.box 122 (AV.yld 0)] = sp 25 [(2, AV.ptr 2 0 [] 0), (11, AV.lst 43 (A56.m
  a)), (12, AV.int (↑(List.length (A56.m a)) : Int)), (13, AV.int (A56.i a))] [Obj.ext (some (A56.xs a)), Obj.box 43 (AV.agg [AV.int (toInt (fld (A56.t a) 0)),
  AV.str (toStr (fld (A56.t a) 1)), AV.int (toInt (fld (A56.t a) 2)), AV.lst 43 (toLst (fld (A56.t a) 3))]), Obj.box 122 (AV.yld 0)] ∧ (List.length (A56.m a) ≤
  9223372036854775807 ∧ (0 : Int) ≤ A56.i a ∧ A56.i a ≤ (↑(List.length (A56.m a)) : Int) ∧ cntL (tmsOf (List.drop (Int.toNat (A56.i a)) (A56.m a))) < r ∧ cntL
  (tmsOf (List.drop (Int.toNat (A56.i a)) (A56.m a))) ≤ 100000 ∧ A56.xs a = subsL 43 (List.drop (Int.toNat (A56.i a)) (A56.m a))) ∧ ∀ (y : Bool), True → brn y (K
  (AV.tup []) [Obj.ext (some []), Obj.box 43 (AV.agg [AV.int (toInt (fld (A56.t a) 0)), AV.str (toStr (fld (A56.t a) 1)), AV.int (toInt (fld (A56.t a) 2)),
  AV.lst 43 (toLst (fld (A56.t a) 3))])]) (K (AV.tup []) [Obj.ext none, Obj.box 43 (AV.agg [AV.int (toInt (fld (A56.t a) 0)), AV.str (toStr (fld (A56.t a) 1)),
  AV.int (toInt (fld (A56.t a) 2)), AV.lst 43 (toLst (fld (A56.t a) 3))])])) ∧ K (AV.tup []) [Obj.ext none, Obj.box 43 (AV.agg [AV.int (toInt (fld t 0)), AV.str
  (toStr (fld t 1)), AV.int (toInt (fld t 2)), AV.lst 43 (toLst (fld t 3))])]) := by kernel_rfl
theorem e56l (κ : Kp) (r : Nat) (hp : ∀ args st K, (∃ m, m < r ∧ sp56 m args st K) → SimCall (Pr κ) 94 args st K) : EnvOK (E56l κ r) ∧ EnvMono (E56l κ r) ∧ (E56l κ r).P = Pr κ :=
  have h : EnvOK (E56p κ r) := (e20 κ).addSim hp
  have h2 : EnvOK (E56r κ r) := (h.addRange (m56p κ r) (g56r κ r)).withGen _
  have hm : EnvMono (E56r κ r) := ((m56p κ r).addRange (spR56_mono κ r)).withGen _
  ⟨h2.addLoop hm (l56 κ r), hm.addLoop loopE_mono, rfl⟩
theorem c56 (κ : Kp) (r : Nat) : CallOk (E56l κ r) 12 94 (sp56 r) := by
  refine callE_ok ?_
  rintro t K ⟨h1, h2⟩ ho
  have hn : ∀ b, K (.tup []) [.ext none, b] := fun b => ho _ trivial
  have h0 : ∀ b, K (.tup []) [.ext (some []), b] := fun b => ho _ trivial
  refine Eq.mpr (y56 κ r t _ K) ?_
  rw [tmOf_eq, Tm.cnt] at h1
  have hl := len_cntL (tmsOf (toLst (fld t 3)))
  rw [tms_len] at hl
  rw [subs_eq]
  refine ⟨_, rfl, ⟨rfl, ⟨_, [], t, toLst (fld t 3), 0⟩, rfl, ⟨by simp only; omega, by simp only; omega, by simp only; omega, ?_, ?_, rfl⟩, ?_⟩, hn _⟩
  · simp only [Int.toNat_zero, List.drop_zero]; omega
  · simp only [Int.toNat_zero, List.drop_zero]; omega
  · intro y _
    cases y
    · exact hn _
    · exact h0 _
def side56a (a : AV) : Prop := (tmOf a).cnt ≤ 100000
theorem q56 (κ : Kp) : ∀ args st K, callE st56 side56a out56 args st K → SimCall (Pr κ) 94 args st K := by
  rintro args st K ⟨l, h1, h2, h3⟩
  exact EnvOK.addRecL sp56 (E56l κ) (e56l κ) (c56 κ) (tmOf l).cnt args st K ⟨l, h1, ⟨rfl, h2⟩, h3⟩
noncomputable def E56 (κ : Kp) : Env := (E20 κ).addCall 94 (callE st56 side56a out56)
theorem e56 (κ : Kp) : EnvOK (E56 κ) := (e20 κ).addSim (q56 κ)
theorem m56 (κ : Kp) : EnvMono (E56 κ) := (m20 κ).addCall callE_mono
end Go.Proofs.YtpgahkbkfflkaaaGreatDoor
namespace Go.Proofs.YtpgahkbkfflkaaaGreatDoor
open Go Go.Dn Go.Rl Go.Proofs
attribute [local irreducible] funA vc
set_option maxRecDepth 20000
structure A42 where
  xs : List AV
  more : List AV
  r : A45
  bl : List AV
  ts : List AV
  i : Int
abbrev el42 (a : A42) : AV := exT 43 (nth a.ts (0 + a.i.toNat))
abbrev st42k (a : A42) : S := sp 46 [(2, .ptr 2 0 [] 0), (3, .slc 3 0 a.ts.length), (14, .lst 46 a.bl), (15, .int a.bl.length), (16, .int a.i)] [.ext (some a.xs), .box 27 (rl45 a.r), .box 122 (.yld 0), .row 43 a.ts]
theorem x42k (κ : Kp) (a : A42) (I : Nat → S → Prop) (n : Nat) (K : Exit → S → Prop) : (vc (E56 κ) 12 80 none 2 (loopCode (Pr κ).toProgram 80 3) (st42k a) (loopK (E56 κ) 80 3 2 I n K)) = (
  brn (decide (A42.i a < (↑(List.length (A42.bl a)) : Int))) (cnd (decide ((0 : Int) ≤ A42.i a) && decide (A42.i a < (↑(List.length (A42.bl a)) : Int))) ((cnd
  (decide ((List.length (A42.ts a) + 2 + 1) * 57 ≤ 70368744177664)) (cnd (decide ((List.length (A42.ts a) + 2 + List.length (toLst (fld (fld (nth (A42.bl a)
  (Int.toNat (A42.i a))) 1) 1)) + 1) * 57 ≤ 70368744177664)) (∃ (m : Nat), m < n ∧ I m (sp 46 [(2, AV.ptr 2 0 [] 0), (3, AV.slc 3 0 (List.length (A42.ts a) + 2 +
  List.length (toLst (fld (fld (nth (A42.bl a) (Int.toNat (A42.i a))) 1) 1)))), (14, AV.lst 46 (A42.bl a)), (15, AV.int (↑(List.length (A42.bl a)) : Int)), (16,
  AV.int (IntKind.wrap IntKind.i64 (A42.i a + (1 : Int))))] [Obj.ext (some (A42.xs a)), Obj.box 27 (AV.agg [AV.agg [AV.str (A45.rel (A42.r a)), AV.lst 43 (A45.hl
  (A42.r a))], AV.lst 46 (A45.bl (A42.r a)), AV.int (A45.line (A42.r a))]), Obj.box 122 (AV.yld 0), Obj.row 43 (List.take (List.length (A42.ts a) + 2) (List.take
  (List.length (A42.ts a)) (A42.ts a) ++ [AV.agg [AV.int (toInt (fld (fld (nth (A42.bl a) (Int.toNat (A42.i a))) 2) 0)), AV.str (toStr (fld (fld (nth (A42.bl a)
  (Int.toNat (A42.i a))) 2) 1)), AV.int (toInt (fld (fld (nth (A42.bl a) (Int.toNat (A42.i a))) 2) 2)), AV.lst 43 (toLst (fld (fld (nth (A42.bl a) (Int.toNat
  (A42.i a))) 2) 3))], AV.agg [AV.int (toInt (fld (fld (nth (A42.bl a) (Int.toNat (A42.i a))) 3) 0)), AV.str (toStr (fld (fld (nth (A42.bl a) (Int.toNat (A42.i
  a))) 3) 1)), AV.int (toInt (fld (fld (nth (A42.bl a) (Int.toNat (A42.i a))) 3) 2)), AV.lst 43 (toLst (fld (fld (nth (A42.bl a) (Int.toNat (A42.i a))) 3) 3))]])
  ++ toLst (fld (fld (nth (A42.bl a) (Int.toNat (A42.i a))) 1) 1))]))) ∧ cnd (decide ((List.length (A42.ts a) + 2 + 1) * 57 ≤ 70368744177664)) (cnd (decide
  ((List.length (A42.ts a) + 2 + List.length (toLst (fld (fld (nth (A42.bl a) (Int.toNat (A42.i a))) 1) 1)) + 1) * 57 ≤ 70368744177664)) (∃ (m : Nat), m < n ∧ I
  m (sp 46 [(2, AV.ptr 2 0 [] 0), (3, AV.slc 3 0 (List.length (A42.ts a) + 2 + List.length (toLst (fld (fld (nth (A42.bl a) (Int.toNat (A42.i a))) 1) 1)))), (14,
  AV.lst 46 (A42.bl a)), (15, AV.int (↑(List.length (A42.bl a)) : Int)), (16, AV.int (IntKind.wrap IntKind.i64 (A42.i a + (1 : Int))))] [Obj.ext (some (A42.xs
  a)), Obj.box 27 (AV.agg [AV.agg [AV.str (A45.rel (A42.r a)), AV.lst 43 (A45.hl (A42.r a))], AV.lst 46 (A45.bl (A42.r a)), AV.int (A45.line (A42.r a))]),
  Obj.box 122 (AV.yld 0), Obj.row 43 (List.take (List.length (A42.ts a) + 2) (List.take (List.length (A42.ts a)) (A42.ts a) ++ [AV.agg [AV.int (toInt (fld (fld
  (nth (A42.bl a) (Int.toNat (A42.i a))) 2) 0)), AV.str (toStr (fld (fld (nth (A42.bl a) (Int.toNat (A42.i a))) 2) 1)), AV.int (toInt (fld (fld (nth (A42.bl a)
  (Int.toNat (A42.i a))) 2) 2)), AV.lst 43 (toLst (fld (fld (nth (A42.bl a) (Int.toNat (A42.i a))) 2) 3))], AV.agg [AV.int (toInt (fld (fld (nth (A42.bl a)
  (Int.toNat (A42.i a))) 3) 0)), AV.str (toStr (fld (fld (nth (A42.bl a) (Int.toNat (A42.i a))) 3) 1)), AV.int (toInt (fld (fld (nth (A42.bl a) (Int.toNat (A42.i
  a))) 3) 2)), AV.lst 43 (toLst (fld (fld (nth (A42.bl a) (Int.toNat (A42.i a))) 3) 3))]]) ++ toLst (fld (fld (nth (A42.bl a) (Int.toNat (A42.i a))) 1) 1))]))) ∧
  cnd (decide ((List.length (A42.ts a) + 2 + 1) * 57 ≤ 70368744177664)) (cnd (decide ((List.length (A42.ts a) + 2 + List.length (toLst (fld (fld (nth (A42.bl a)
  (Int.toNat (A42.i a))) 1) 1)) + 1) * 57 ≤ 70368744177664)) (∃ (m : Nat), m < n ∧ I m (sp 46 [(2, AV.ptr 2 0 [] 0), (3, AV.slc 3 0 (List.length (A42.ts a) + 2 +
  List.length (toLst (fld (fld (nth (A42.bl a) (Int.toNat (A42.i a))) 1) 1)))), (14, AV.lst 46 (A42.bl a)), (15, AV.int (↑(List.length (A42.bl a)) : Int)), (16,
  AV.int (IntKind.wrap IntKind.i64 (A42.i a + (1 : Int))))] [Obj.ext (some (A42.xs a)), Obj.box 27 (AV.agg [AV.agg [AV.str (A45.rel (A42.r a)), AV.lst 43 (A45.hl
  (A42.r a))], AV.lst 46 (A45.bl (A42.r a)), AV.int (A45.line (A42.r a))]), Obj.box 122 (AV.yld 0), Obj.row 43 (List.take (List.length (A42.ts a) + 2) (List.take
  (List.length (A42.ts a)) (A42.ts a) ++ [AV.agg [AV.int (toInt (fld (fld (nth (A42.bl a) (Int.toNat (A42.i a))) 2) 0)), AV.str (toStr (fld (fld (nth (A42.bl a)
  (Int.toNat (A42.i a))) 2) 1)), AV.int (toInt (fld (fld (nth (A42.bl a) (Int.toNat (A42.i a))) 2) 2)), AV.lst 43 (toLst (fld (fld (nth (A42.bl a) (Int.toNat
  (A42.i a))) 2) 3))], AV.agg [AV.int (toInt (fld (fld (nth (A42.bl a) (Int.toNat (A42.i a))) 3) 0)), AV.str (toStr (fld (fld (nth (A42.bl a) (Int.toNat (A42.i
  a))) 3) 1)), AV.int (toInt (fld (fld (nth (A42.bl a) (Int.toNat (A42.i a))) 3) 2)), AV.lst 43 (toLst (fld (fld (nth (A42.bl a) (Int.toNat (A42.i a))) 3) 3))]])
  ++ toLst (fld (fld (nth (A42.bl a) (Int.toNat (A42.i a))) 1) 1))])))) ∧ (cnd (decide ((List.length (A42.ts a) + 2 + 1) * 57 ≤ 70368744177664)) (cnd (decide
  ((List.length (A42.ts a) + 2 + List.length (toLst (fld (fld (nth (A42.bl a) (Int.toNat (A42.i a))) 1) 1)) + 1) * 57 ≤ 70368744177664)) (∃ (m : Nat), m < n ∧ I
  m (sp 46 [(2, AV.ptr 2 0 [] 0), (3, AV.slc 3 0 (List.length (A42.ts a) + 2 + List.length (toLst (fld (fld (nth (A42.bl a) (Int.toNat (A42.i a))) 1) 1)))), (14,
  AV.lst 46 (A42.bl a)), (15, AV.int (↑(List.length (A42.bl a)) : Int)), (16, AV.int (IntKind.wrap IntKind.i64 (A42.i a + (1 : Int))))] [Obj.ext (some (A42.xs
  a)), Obj.box 27 (AV.agg [AV.agg [AV.str (A45.rel (A42.r a)), AV.lst 43 (A45.hl (A42.r a))], AV.lst 46 (A45.bl (A42.r a)), AV.int (A45.line (A42.r a))]),
  Obj.box 122 (AV.yld 0), Obj.row 43 (List.take (List.length (A42.ts a) + 2) (List.take (List.length (A42.ts a)) (A42.ts a) ++ [AV.agg [AV.int (toInt (fld (fld
  (nth (A42.bl a) (Int.toNat (A42.i a))) 2) 0)), AV.str (toStr (fld (fld (nth (A42.bl a) (Int.toNat (A42.i a))) 2) 1)), AV.int (toInt (fld (fld (nth (A42.bl a)
  (Int.toNat (A42.i a))) 2) 2)), AV.lst 43 (toLst (fld (fld (nth (A42.bl a) (Int.toNat (A42.i a))) 2) 3))], AV.agg [AV.int (toInt (fld (fld (nth (A42.bl a)
  (Int.toNat (A42.i a))) 3) 0)), AV.str (toStr (fld (fld (nth (A42.bl a) (Int.toNat (A42.i a))) 3) 1)), AV.int (toInt (fld (fld (nth (A42.bl a) (Int.toNat (A42.i
  a))) 3) 2)), AV.lst 43 (toLst (fld (fld (nth (A42.bl a) (Int.toNat (A42.i a))) 3) 3))]]) ++ toLst (fld (fld (nth (A42.bl a) (Int.toNat (A42.i a))) 1) 1))]))) ∧
  cnd (decide ((List.length (A42.ts a) + 2 + 1) * 57 ≤ 70368744177664)) (cnd (decide ((List.length (A42.ts a) + 2 + List.length (toLst (fld (fld (nth (A42.bl a)
  (Int.toNat (A42.i a))) 1) 1)) + 1) * 57 ≤ 70368744177664)) (∃ (m : Nat), m < n ∧ I m (sp 46 [(2, AV.ptr 2 0 [] 0), (3, AV.slc 3 0 (List.length (A42.ts a) + 2 +
  List.length (toLst (fld (fld (nth (A42.bl a) (Int.toNat (A42.i a))) 1) 1)))), (14, AV.lst 46 (A42.bl a)), (15, AV.int (↑(List.length (A42.bl a)) : Int)), (16,
  AV.int (IntKind.wrap IntKind.i64 (A42.i a + (1 : Int))))] [Obj.ext (some (A42.xs a)), Obj.box 27 (AV.agg [AV.agg [AV.str (A45.rel (A42.r a)), AV.lst 43 (A45.hl
  (A42.r a))], AV.lst 46 (A45.bl (A42.r a)), AV.int (A45.line (A42.r a))]), Obj.box 122 (AV.yld 0), Obj.row 43 (List.take (List.length (A42.ts a) + 2) (List.take
  (List.length (A42.ts a)) (A42.ts a) ++ [AV.agg [AV.int (toInt (fld (fld (nth (A42.bl a) (Int.toNat (A42.i a))) 2) 0)), AV.str (toStr (fld (fld (nth (A42.bl a)
  (Int.toNat (A42.i a))) 2) 1)), AV.int (toInt (fld (fld (nth (A42.bl a) (Int.toNat (A42.i a))) 2) 2)), AV.lst 43 (toLst (fld (fld (nth (A42.bl a) (Int.toNat
  (A42.i a))) 2) 3))], AV.agg [AV.int (toInt (fld (fld (nth (A42.bl a) (Int.toNat (A42.i a))) 3) 0)), AV.str (toStr (fld (fld (nth (A42.bl a) (Int.toNat (A42.i
  a))) 3) 1)), AV.int (toInt (fld (fld (nth (A42.bl a) (Int.toNat (A42.i a))) 3) 2)), AV.lst 43 (toLst (fld (fld (nth (A42.bl a) (Int.toNat (A42.i a))) 3) 3))]])
  ++ toLst (fld (fld (nth (A42.bl a) (Int.toNat (A42.i a))) 1) 1))])))) ∧ cnd (decide ((List.length (A42.ts a) + 2 + 1) * 57 ≤ 70368744177664)) (cnd (decide
  ((List.length (A42.ts a) + 2 + List.length (toLst (fld (fld (nth (A42.bl a) (Int.toNat (A42.i a))) 1) 1)) + 1) * 57 ≤ 70368744177664)) (∃ (m : Nat), m < n ∧ I
  m (sp 46 [(2, AV.ptr 2 0 [] 0), (3, AV.slc 3 0 (List.length (A42.ts a) + 2 + List.length (toLst (fld (fld (nth (A42.bl a) (Int.toNat (A42.i a))) 1) 1)))), (14,
  AV.lst 46 (A42.bl a)), (15, AV.int (↑(List.length (A42.bl a)) : Int)), (16, AV.int (IntKind.wrap IntKind.i64 (A42.i a + (1 : Int))))] [Obj.ext (some (A42.xs
  a)), Obj.box 27 (AV.agg [AV.agg [AV.str (A45.rel (A42.r a)), AV.lst 43 (A45.hl (A42.r a))], AV.lst 46 (A45.bl (A42.r a)), AV.int (A45.line (A42.r a))]),
  Obj.box 122 (AV.yld 0), Obj.row 43 (List.take (List.length (A42.ts a) + 2) (List.take (List.length (A42.ts a)) (A42.ts a) ++ [AV.agg [AV.int (toInt (fld (fld
  (nth (A42.bl a) (Int.toNat (A42.i a))) 2) 0)), AV.str (toStr (fld (fld (nth (A42.bl a) (Int.toNat (A42.i a))) 2) 1)), AV.int (toInt (fld (fld (nth (A42.bl a)
  (Int.toNat (A42.i a))) 2) 2)), AV.lst 43 (toLst (fld (fld (nth (A42.bl a) (Int.toNat (A42.i a))) 2) 3))], AV.agg [AV.int (toInt (fld (fld (nth (A42.bl a)
  (Int.toNat (A42.i a))) 3) 0)), AV.str (toStr (fld (fld (nth (A42.bl a) (Int.toNat (A42.i a))) 3) 1)), AV.int (toInt (fld (fld (nth (A42.bl a) (Int.toNat (A42.i
  a))) 3) 2)), AV.lst 43 (toLst (fld (fld (nth (A42.bl a) (Int.toNat (A42.i a))) 3) 3))]]) ++ toLst (fld (fld (nth (A42.bl a) (Int.toNat (A42.i a))) 1) 1))])))))
  (K (Exit.exit 0) (sp 46 [(2, AV.ptr 2 0 [] 0), (3, AV.slc 3 0 (List.length (A42.ts a)))] [Obj.ext (some (A42.xs a)), Obj.box 27 (AV.agg [AV.agg [AV.str
  (A45.rel (A42.r a)), AV.lst 43 (A45.hl (A42.r a))], AV.lst 46 (A45.bl (A42.r a)), AV.int (A45.line (A42.r a))]), Obj.box 122 (AV.yld 0), Obj.row 43 (A42.ts
  a)]))) := by kernel_rfl
def partTs (l : List AV) : List AV := l.flatMap fun a => [exT 43 (fld a 2), exT 43 (fld a 3)] ++ toLst (fld (fld a 1) 1)
def side42k (a : A42) : Prop := a.bl.length ≤ maxI ∧ 0 ≤ a.i ∧ a.i ≤ a.bl.length ∧ (a.ts ++ partTs (a.bl.drop a.i.toNat)).length ≤ 100000
def out42k (a : A42) : Out (Exit × S) := .one (.exit 0, sp 46 [(2, .ptr 2 0 [] 0), (3, .slc 3 0 (a.ts ++ partTs (a.bl.drop a.i.toNat)).length)] [.ext (some a.xs), .box 27 (rl45 a.r), .box 122 (.yld 0), .row 43 (a.ts ++ partTs (a.bl.drop a.i.toNat))])
theorem parts_drop (l : List AV) (i : Nat) (h : i < l.length) : partTs (l.drop i) = [exT 43 (fld (nth l i) 2), exT 43 (fld (nth l i) 3)] ++ toLst (fld (fld (nth l i) 1) 1) ++ partTs (l.drop (i + 1)) := by
  rw [List.drop_eq_getElem_cons h, nth_get l i h]; rfl
theorem l42k (κ : Kp) : LoopOk (E56 κ) 12 80 3 (loopE 2 st42k side42k out42k) := by
  refine loopE_ok (fun a => a.bl.length - a.i.toNat) ?_
  rintro ⟨xs, more, r, bl, ts, i⟩ K ⟨h1, h2, h3, h4⟩ ho
  simp only at h1 h2 h3 h4
  rw [show (E56 κ).P = Pr κ from rfl]
  refine Eq.mpr (x42k κ ⟨xs, more, r, bl, ts, i⟩ _ _ K) ?_
  simp only [and_self]
  simp only [out42k, Out.run] at ho
  simp only [maxI] at h1
  simp only [brn_iff, cnd_iff, decide_eq_true_eq, decide_eq_false_iff_not, Bool.and_eq_true]
  refine ⟨fun hi => ⟨⟨h2, hi⟩, ?_⟩, fun hi => ?_⟩
  · have hp := parts_drop bl i.toNat (by omega)
    rw [hp] at h4 ho
    rw [wrap_ok (n := i + 1) (by omega) (by omega)]
    simp only [List.length_append, List.length_cons, List.length_nil] at h4
    refine ⟨by omega, by omega, _, ?_, ⟨xs, more, r, bl, ts ++ ([exT 43 (fld (nth bl i.toNat) 2), exT 43 (fld (nth bl i.toNat) 3)] ++ toLst (fld (fld (nth bl i.toNat) 1) 1)), i + 1⟩, ?_, ⟨by simpa [maxI] using h1, by simp only; omega, by simp only; omega, ?_⟩, rfl, ?_⟩
    · simp only; omega
    · simp only [st42k, List.length_append, List.length_cons, List.length_nil, List.take_length]
      rw [List.take_of_length_le (by simp), show ts.length + 2 + (toLst (fld (fld (nth bl i.toNat) 1) 1)).length = ts.length + (0 + 1 + 1 + (toLst (fld (fld (nth bl i.toNat) 1) 1)).length) by omega, List.append_assoc]
      rfl
    · simp only [List.length_append, List.length_cons, List.length_nil, show (i + 1).toNat = i.toNat + 1 by omega]; omega
    · simp only [out42k, Out.run, show (i + 1).toNat = i.toNat + 1 by omega]
      simpa only [List.append_assoc] using ho
  · rw [List.drop_eq_nil_of_le (by omega)] at ho
    simpa [partTs] using ho
noncomputable def E42k (κ : Kp) : Env := (E56 κ).addLoop 80 3 (loopE 2 st42k side42k out42k)
theorem e42k (κ : Kp) : EnvOK (E42k κ) := (e56 κ).addLoop (m56 κ) (l42k κ)
theorem m42k (κ : Kp) : EnvMono (E42k κ) := (m56 κ).addLoop loopE_mono
noncomputable abbrev lp42 (a : A42) (κ : Kp) (st : LoopState) (p : Option Code) : Dn.Obj :=
  .loop (lpA (Pr κ).toProgram 80 11 st p (spR (junks 46) [(2, .ptr 2 0 [] 0), (7, .ptr 4 0 [] 0), (32, .slc 3 0 a.ts.length), (33, .int a.ts.length), (34, .int a.i), (35, .bool true),
    (36, .ptr 3 (0 + a.i.toNat) [] 0), (37, el42 a), (38, el42 a), (39, .clo 94 [.ptr 5 0 [] 0])]))
noncomputable abbrev str42 (κ : Kp) (a : A42) : List Dn.Obj := [.ext (some a.xs), .box 27 (rl45 a.r), .box 122 (.yld 0), .row 43 a.ts, .box 43 (el42 a), .box 43 (el42 a), lp42 a κ .ready none]
noncomputable abbrev str42d (κ : Kp) (a : A42) (o : Option (List AV)) (st : LoopState) (p : Option Code) : List Dn.Obj := [.ext o, .box 27 (rl45 a.r), .box 122 (.yld 0), .row 43 a.ts, .box 43 (el42 a), .dead, lp42 a κ st p]
theorem s42 (κ : Kp) (a : A42) (Q : List Dn.Obj → Prop) : (tidy (Pr κ).toProgram 7 (setDead (str42 κ a) (capIds (str42 κ a) [.ptr 5 0 [] 0])) Q) = (
  Q [Obj.ext (some (A42.xs a)), Obj.box 27 (AV.agg [AV.agg [AV.str (A45.rel (A42.r a)), AV.lst 43 (A45.hl (A42.r a))], AV.lst 46 (A45.bl (A42.r a)), AV.int
  (A45.line (A42.r a))]), Obj.box 122 (AV.yld 0), Obj.row 43 (A42.ts a), Obj.box 43 (AV.agg [AV.int (toInt (fld (nth (A42.ts a) (0 + Int.toNat (A42.i a))) 0)),
  AV.str (toStr (fld (nth (A42.ts a) (0 + Int.toNat (A42.i a))) 1)), AV.int (toInt (fld (nth (A42.ts a) (0 + Int.toNat (A42.i a))) 2)), AV.lst 43 (toLst (fld
  (nth (A42.ts a) (0 + Int.toNat (A42.i a))) 3))]), Obj.dead, Dn.Obj.loop (lpA Tryz.prog 80 11 LoopState.ready none (spR (junks 46) [(2, AV.ptr 2 0 [] 0), (7,
  AV.ptr 4 0 [] 0), (32, AV.slc 3 0 (List.length (A42.ts a))), (33, AV.int (↑(List.length (A42.ts a)) : Int)), (34, AV.int (A42.i a)), (35, AV.bool true), (36,
  AV.ptr 3 (0 + Int.toNat (A42.i a)) [] 0), (37, AV.agg [AV.int (toInt (fld (nth (A42.ts a) (0 + Int.toNat (A42.i a))) 0)), AV.str (toStr (fld (nth (A42.ts a) (0
  + Int.toNat (A42.i a))) 1)), AV.int (toInt (fld (nth (A42.ts a) (0 + Int.toNat (A42.i a))) 2)), AV.lst 43 (toLst (fld (nth (A42.ts a) (0 + Int.toNat (A42.i
  a))) 3))]), (38, AV.agg [AV.int (toInt (fld (nth (A42.ts a) (0 + Int.toNat (A42.i a))) 0)), AV.str (toStr (fld (nth (A42.ts a) (0 + Int.toNat (A42.i a))) 1)),
  AV.int (toInt (fld (nth (A42.ts a) (0 + Int.toNat (A42.i a))) 2)), AV.lst 43 (toLst (fld (nth (A42.ts a) (0 + Int.toNat (A42.i a))) 3))]), (39, AV.clo 94
  [AV.ptr 5 0 [] 0])]))]) := by kernel_rfl
theorem r42 (κ : Kp) (a : A42) (o : List AV) (u : AV) (Q : List Dn.Obj → Prop) (K2 : List Dn.Obj → Prop) : (roundA (vc (E42k κ) 12) 6 [exT 43 u] (str42d κ a (some o) .ready none) (fun r st'' => match r with | .lit (.bool true) => tidy (Pr κ).toProgram 7 st'' Q | .lit (.bool false) => K2 st'' | _ => False)) = (
  ∃ (rest : List AV), o = AV.tup [AV.agg [AV.int (toInt (fld u 0)), AV.str (toStr (fld u 1)), AV.int (toInt (fld u 2)), AV.lst 43 (toLst (fld u 3))]] :: rest ∧ Q
  [Obj.ext (some rest), Obj.box 27 (AV.agg [AV.agg [AV.str (A45.rel (A42.r a)), AV.lst 43 (A45.hl (A42.r a))], AV.lst 46 (A45.bl (A42.r a)), AV.int (A45.line
  (A42.r a))]), Obj.box 122 (AV.yld 0), Obj.row 43 (A42.ts a), Obj.box 43 (AV.agg [AV.int (toInt (fld (nth (A42.ts a) (0 + Int.toNat (A42.i a))) 0)), AV.str
  (toStr (fld (nth (A42.ts a) (0 + Int.toNat (A42.i a))) 1)), AV.int (toInt (fld (nth (A42.ts a) (0 + Int.toNat (A42.i a))) 2)), AV.lst 43 (toLst (fld (nth
  (A42.ts a) (0 + Int.toNat (A42.i a))) 3))]), Obj.dead, Dn.Obj.loop (lpA Tryz.prog 80 11 LoopState.ready none (spR (junks 46) [(2, AV.ptr 2 0 [] 0), (7, AV.ptr
  4 0 [] 0), (32, AV.slc 3 0 (List.length (A42.ts a))), (33, AV.int (↑(List.length (A42.ts a)) : Int)), (34, AV.int (A42.i a)), (35, AV.bool true), (36, AV.ptr 3
  (0 + Int.toNat (A42.i a)) [] 0), (37, AV.agg [AV.int (toInt (fld (nth (A42.ts a) (0 + Int.toNat (A42.i a))) 0)), AV.str (toStr (fld (nth (A42.ts a) (0 +
  Int.toNat (A42.i a))) 1)), AV.int (toInt (fld (nth (A42.ts a) (0 + Int.toNat (A42.i a))) 2)), AV.lst 43 (toLst (fld (nth (A42.ts a) (0 + Int.toNat (A42.i a)))
  3))]), (38, AV.agg [AV.int (toInt (fld (nth (A42.ts a) (0 + Int.toNat (A42.i a))) 0)), AV.str (toStr (fld (nth (A42.ts a) (0 + Int.toNat (A42.i a))) 1)),
  AV.int (toInt (fld (nth (A42.ts a) (0 + Int.toNat (A42.i a))) 2)), AV.lst 43 (toLst (fld (nth (A42.ts a) (0 + Int.toNat (A42.i a))) 3))]), (39, AV.clo 94
  [AV.ptr 5 0 [] 0])]))] ∧ K2 [Obj.ext none, Obj.box 27 (AV.agg [AV.agg [AV.str (A45.rel (A42.r a)), AV.lst 43 (A45.hl (A42.r a))], AV.lst 46 (A45.bl (A42.r a)),
  AV.int (A45.line (A42.r a))]), Obj.box 122 (AV.yld 0), Obj.row 43 (A42.ts a), Obj.box 43 (AV.agg [AV.int (toInt (fld (nth (A42.ts a) (0 + Int.toNat (A42.i a)))
  0)), AV.str (toStr (fld (nth (A42.ts a) (0 + Int.toNat (A42.i a))) 1)), AV.int (toInt (fld (nth (A42.ts a) (0 + Int.toNat (A42.i a))) 2)), AV.lst 43 (toLst
  (fld (nth (A42.ts a) (0 + Int.toNat (A42.i a))) 3))]), Obj.dead, Dn.Obj.loop (lpA Tryz.prog 80 11 LoopState.done (some Code.ret) (spR (junks 46) [(2, AV.ptr 2
  0 [] 0), (7, AV.ptr 4 0 [] 0), (32, AV.slc 3 0 (List.length (A42.ts a))), (33, AV.int (↑(List.length (A42.ts a)) : Int)), (34, AV.int (A42.i a)), (35, AV.bool
  true), (36, AV.ptr 3 (0 + Int.toNat (A42.i a)) [] 0), (37, AV.agg [AV.int (toInt (fld (nth (A42.ts a) (0 + Int.toNat (A42.i a))) 0)), AV.str (toStr (fld (nth
  (A42.ts a) (0 + Int.toNat (A42.i a))) 1)), AV.int (toInt (fld (nth (A42.ts a) (0 + Int.toNat (A42.i a))) 2)), AV.lst 43 (toLst (fld (nth (A42.ts a) (0 +
  Int.toNat (A42.i a))) 3))]), (38, AV.agg [AV.int (toInt (fld (nth (A42.ts a) (0 + Int.toNat (A42.i a))) 0)), AV.str (toStr (fld (nth (A42.ts a) (0 + Int.toNat
  (A42.i a))) 1)), AV.int (toInt (fld (nth (A42.ts a) (0 + Int.toNat (A42.i a))) 2)), AV.lst 43 (toLst (fld (nth (A42.ts a) (0 + Int.toNat (A42.i a))) 3))]),
  (39, AV.clo 94 [AV.ptr 5 0 [] 0])])), Obj.box 43 (AV.agg [AV.int (toInt (fld u 0)), AV.str (toStr (fld u 1)), AV.int (toInt (fld u 2)), AV.lst 43 (toLst (fld u
  3))])]) := by kernel_rfl
theorem k42 (κ : Kp) (a : A42) (xs : List AV) : (AV.yld 0 :: renL (idxS (capIds (str42 κ a) [.ptr 5 0 [] 0])) [.ptr 5 0 [] 0], Obj.ext (some xs) :: renSt (idxS (capIds (str42 κ a) [.ptr 5 0 [] 0])) (getSt (str42 κ a) (capIds (str42 κ a) [.ptr 5 0 [] 0]))) = ([.yld 0, .ptr 1 0 [] 0], [.ext (some xs), .box 43 (el42 a)]) := by kernel_rfl
theorem o42 (κ : Kp) (a : A42) : genOk (str42 κ a) [.ptr 5 0 [] 0] = true := by kernel_rfl
noncomputable def spR42 (κ : Kp) : RangeSpec := fun caps st K => ∃ a : A42, (caps, st) = ([AV.ptr 5 0 [] 0], str42 κ a) ∧ ((tmOf (nth a.ts a.i.toNat)).cnt ≤ 100000 ∧ a.xs = subs 43 (nth a.ts a.i.toNat) ++ a.more) ∧
  (K (str42d κ a (some a.more) .ready none) ∧ ∀ u : AV, K (str42d κ a none .done (some .ret) ++ [.box 43 (exT 43 u)]))
theorem spR42_mono (κ : Kp) : (spR42 κ).Mono := by
  rintro caps st K K' hK ⟨a, h1, h2, h3, h4⟩
  exact ⟨a, h1, h2, hK _ h3, fun u => hK _ (h4 u)⟩
theorem call42 (κ : Kp) (args : List AV) (st : List Dn.Obj) (K : AV → List Dn.Obj → Prop) (h : callE st56 side56a out56 args st K) : (E42k κ).call 94 args st K := h
theorem g42r (κ : Kp) : RangeOk (E42k κ) 12 94 (spR42 κ) := by
  rintro caps st K ⟨a, h1, ⟨h3, h4⟩, h5, h6⟩
  obtain ⟨rfl, rfl⟩ := Prod.mk.inj h1
  refine ⟨subs 43 (nth a.ts a.i.toNat), fun items st' => (∀ x, x ∈ items → IsItem 43 x) ∧ st' = str42d κ a (some (items ++ a.more)) .ready none, ⟨o42 κ a, ?_, ?_, ?_, ?_⟩⟩
  · refine call42 κ _ _ _ ⟨nth a.ts a.i.toNat, ?_, h3, fun st' h => h⟩
    rw [k42, el42, Nat.zero_add]; rfl
  · rw [show (E42k κ).P = Pr κ from rfl, show (str42 κ a).length = 7 from rfl, s42]
    exact ⟨items_subs _ _ _ (Nat.lt_succ_self _), by rw [h4]; rfl⟩
  · rintro us rest st' ⟨e1, rfl⟩
    obtain ⟨u, hu⟩ := e1 (.tup us) (by simp)
    obtain rfl := AV.tup.inj hu
    rw [show (E42k κ).P = Pr κ from rfl, show (str42 κ a).length = 7 from rfl]
    refine Eq.mpr (r42 κ a _ u _ _) ?_
    exact ⟨_, rfl, ⟨fun x hx => e1 x (by simp [hx]), rfl⟩, h6 u⟩
  · rintro st' ⟨_, rfl⟩
    exact h5
noncomputable def E42r (κ : Kp) : Env := ((E42k κ).addRange 80 11 94 (spR42 κ)).withGen (fun f => memN f genU)
theorem e42r (κ : Kp) : EnvOK (E42r κ) := ((e42k κ).addRange (m42k κ) (g42r κ)).withGen _
theorem m42r (κ : Kp) : EnvMono (E42r κ) := ((m42k κ).addRange (spR42_mono κ)).withGen _
abbrev st42l (a : A42) : S := sp 46 [(2, .ptr 2 0 [] 0), (32, .slc 3 0 a.ts.length), (33, .int a.ts.length), (34, .int a.i)] [.ext (some a.xs), .box 27 (rl45 a.r), .box 122 (.yld 0), .row 43 a.ts]
theorem x42l (κ : Kp) (a : A42) (I : Nat → S → Prop) (n : Nat) (K : Exit → S → Prop) : (vc (E42r κ) 12 80 none 2 (loopCode (Pr κ).toProgram 80 8) (st42l a) (loopK (E42r κ) 80 8 2 I n K)) = (
  brn (decide (A42.i a < (↑(List.length (A42.ts a)) : Int))) (cnd (decide ((0 : Int) ≤ A42.i a) && decide (A42.i a < (↑(List.length (A42.ts a)) : Int))) (∃ (a_1 :
  A42), ([AV.ptr 5 0 [] 0], [Obj.ext (some (A42.xs a)), Obj.box 27 (AV.agg [AV.agg [AV.str (A45.rel (A42.r a)), AV.lst 43 (A45.hl (A42.r a))], AV.lst 46 (A45.bl
  (A42.r a)), AV.int (A45.line (A42.r a))]), Obj.box 122 (AV.yld 0), Obj.row 43 (A42.ts a), Obj.box 43 (AV.agg [AV.int (toInt (fld (nth (A42.ts a) (0 + Int.toNat
  (A42.i a))) 0)), AV.str (toStr (fld (nth (A42.ts a) (0 + Int.toNat (A42.i a))) 1)), AV.int (toInt (fld (nth (A42.ts a) (0 + Int.toNat (A42.i a))) 2)), AV.lst
  43 (toLst (fld (nth (A42.ts a) (0 + Int.toNat (A42.i a))) 3))]), Obj.box 43 (AV.agg [AV.int (toInt (fld (nth (A42.ts a) (0 + Int.toNat (A42.i a))) 0)), AV.str
  (toStr (fld (nth (A42.ts a) (0 + Int.toNat (A42.i a))) 1)), AV.int (toInt (fld (nth (A42.ts a) (0 + Int.toNat (A42.i a))) 2)), AV.lst 43 (toLst (fld (nth
  (A42.ts a) (0 + Int.toNat (A42.i a))) 3))]), Dn.Obj.loop (lpA Tryz.prog 80 11 LoopState.ready none (spR (junks 46) [(2, AV.ptr 2 0 [] 0), (7, AV.ptr 4 0 [] 0),
  (32, AV.slc 3 0 (List.length (A42.ts a))), (33, AV.int (↑(List.length (A42.ts a)) : Int)), (34, AV.int (A42.i a)), (35, AV.bool true), (36, AV.ptr 3 (0 +
  Int.toNat (A42.i a)) [] 0), (37, AV.agg [AV.int (toInt (fld (nth (A42.ts a) (0 + Int.toNat (A42.i a))) 0)), AV.str (toStr (fld (nth (A42.ts a) (0 + Int.toNat
  (A42.i a))) 1)), AV.int (toInt (fld (nth (A42.ts a) (0 + Int.toNat (A42.i a))) 2)), AV.lst 43 (toLst (fld (nth (A42.ts a) (0 + Int.toNat (A42.i a))) 3))]),
  (38, AV.agg [AV.int (toInt (fld (nth (A42.ts a) (0 + Int.toNat (A42.i a))) 0)), AV.str (toStr (fld (nth (A42.ts a) (0 + Int.toNat (A42.i a))) 1)), AV.int
  (toInt (fld (nth (A42.ts a) (0 + Int.toNat (A42.i a))) 2)), AV.lst 43 (toLst (fld (nth (A42.ts a) (0 + Int.toNat (A42.i a))) 3))]), (39, AV.clo 94 [AV.ptr 5 0
  [] 0])]))]) = ([AV.ptr 5 0 [] 0], [Obj.ext (some (A42.xs a_1)), Obj.box 27 (AV.agg [AV.agg [AV.str (A45.rel (A42.r a_1)), AV.lst 43 (A45.hl (A42.r a_1))],
  AV.lst 46 (A45.bl (A42.r a_1)), AV.int (A45.line (A42.r a_1))]), Obj.box 122 (AV.yld 0), Obj.row 43 (A42.ts a_1), Obj.box 43 (AV.agg [AV.int (toInt (fld (nth
  (A42.ts a_1) (0 + Int.toNat (A42.i a_1))) 0)), AV.str (toStr (fld (nth (A42.ts a_1) (0 + Int.toNat (A42.i a_1))) 1)), AV.int (toInt (fld (nth (A42.ts a_1) (0 +
  Int.toNat (A42.i a_1))) 2)), AV.lst 43 (toLst (fld (nth (A42.ts a_1) (0 + Int.toNat (A42.i a_1))) 3))]), Obj.box 43 (AV.agg [AV.int (toInt (fld (nth (A42.ts
  a_1) (0 + Int.toNat (A42.i a_1))) 0)), AV.str (toStr (fld (nth (A42.ts a_1) (0 + Int.toNat (A42.i a_1))) 1)), AV.int (toInt (fld (nth (A42.ts a_1) (0 +
  Int.toNat (A42.i a_1))) 2)), AV.lst 43 (toLst (fld (nth (A42.ts a_1) (0 + Int.toNat (A42.i a_1))) 3))]), Dn.Obj.loop (lpA Tryz.prog 80 11 LoopState.ready none
  (spR (junks 46) [(2, AV.ptr 2 0 [] 0), (7, AV.ptr 4 0 [] 0), (32, AV.slc 3 0 (List.length (A42.ts a_1))), (33, AV.int (↑(List.length (A42.ts a_1)) : Int)),
  (34, AV.int (A42.i a_1)), (35, AV.bool true), (36, AV.ptr 3 (0 + Int.toNat (A42.i a_1)) [] 0), (37, AV.agg [AV.int (toInt (fld (nth (A42.ts a_1) (0 + Int.toNat
  (A42.i a_1))) 0)), AV.str (toStr (fld (nth (A42.ts a_1) (0 + Int.toNat (A42.i a_1))) 1)), AV.int (toInt (fld (nth (A42.ts a_1) (0 + Int.toNat (A42.i a_1)))
  2)), AV.lst 43 (toLst (fld (nth (A42.ts a_1) (0 + Int.toNat (A42.i a_1))) 3))]), (38, AV.agg [AV.int (toInt (fld (nth (A42.ts a_1) (0 + Int.toNat (A42.i a_1)))
  0)), AV.str (toStr (fld (nth (A42.ts a_1) (0 + Int.toNat (A42.i a_1))) 1)), AV.int (toInt (fld (nth (A42.ts a_1) (0 + Int.toNat (A42.i a_1))) 2)), AV.lst 43
  (toLst (fld (nth (A42.ts a_1) (0 + Int.toNat (A42.i a_1))) 3))]), (39, AV.clo 94 [AV.ptr 5 0 [] 0])]))]) ∧ (Tm.cnt (tmOf (nth (A42.ts a_1) (Int.toNat (A42.i
  a_1)))) ≤ 100000 ∧ A42.xs a_1 = subs 43 (nth (A42.ts a_1) (Int.toNat (A42.i a_1))) ++ A42.more a_1) ∧ (∃ (m : Nat), m < n ∧ I m (sp 46 [(2, AV.ptr 2 0 [] 0),
  (32, AV.slc 3 0 (List.length (A42.ts a))), (33, AV.int (↑(List.length (A42.ts a)) : Int)), (34, AV.int (IntKind.wrap IntKind.i64 (A42.i a + (1 : Int))))]
  [Obj.ext (some (A42.more a_1)), Obj.box 27 (AV.agg [AV.agg [AV.str (A45.rel (A42.r a_1)), AV.lst 43 (A45.hl (A42.r a_1))], AV.lst 46 (A45.bl (A42.r a_1)),
  AV.int (A45.line (A42.r a_1))]), Obj.box 122 (AV.yld 0), Obj.row 43 (A42.ts a_1)])) ∧ ∀ (u : AV), K Exit.ret (sp 46 [] [Obj.ext none, Obj.box 27 (AV.agg
  [AV.agg [AV.str (A45.rel (A42.r a_1)), AV.lst 43 (A45.hl (A42.r a_1))], AV.lst 46 (A45.bl (A42.r a_1)), AV.int (A45.line (A42.r a_1))])]))) (K (Exit.exit 2)
  (sp 46 [] [Obj.ext (some (A42.xs a)), Obj.box 27 (AV.agg [AV.agg [AV.str (A45.rel (A42.r a)), AV.lst 43 (A45.hl (A42.r a))], AV.lst 46 (A45.bl (A42.r a)),
  AV.int (A45.line (A42.r a))])]))) := by kernel_rfl
def side42l (a : A42) : Prop := a.ts.length ≤ maxI ∧ 0 ≤ a.i ∧ a.i ≤ a.ts.length ∧ cntL (tmsOf (a.ts.drop a.i.toNat)) ≤ 100000 ∧ a.xs = subsL 43 (a.ts.drop a.i.toNat)
def out42l (a : A42) : Out (Exit × S) := .all (fun _ : Bool => True) fun b => .brn b (.one (.exit 2, sp 46 [] [.ext (some []), .box 27 (rl45 a.r)])) (.one (.ret, sp 46 [] [.ext none, .box 27 (rl45 a.r)]))
theorem l42l (κ : Kp) : LoopOk (E42r κ) 12 80 8 (loopE 2 st42l side42l out42l) := by
  refine loopE_ok (fun a => a.ts.length - a.i.toNat) ?_
  rintro ⟨xs, more, r, bl, m, i⟩ K ⟨h1, h2, h3, h5, h6⟩ ho
  simp only at h1 h2 h3 h5 h6
  rw [show (E42r κ).P = Pr κ from rfl]
  refine Eq.mpr (x42l κ ⟨xs, more, r, bl, m, i⟩ _ _ K) ?_
  have ho1 := ho true trivial
  have ho2 := ho false trivial
  simp only [Out.run, brn] at ho1 ho2
  simp only [maxI] at h1
  simp only [brn_iff, cnd_iff, decide_eq_true_eq, decide_eq_false_iff_not, Bool.and_eq_true]
  refine ⟨fun hi => ⟨⟨h2, hi⟩, ?_⟩, fun hi => ?_⟩
  · have hc := cnt_drop m i.toNat (by omega)
    rw [subsL_drop _ m i.toNat (by omega)] at h6
    rw [wrap_ok (n := i + 1) (by omega) (by omega)]
    refine ⟨⟨xs, subsL 43 (m.drop (i.toNat + 1)), r, bl, m, i⟩, rfl, ⟨by simp only; omega, h6⟩, ⟨_, ?_, ⟨_, more, r, bl, m, i + 1⟩, rfl, ⟨by simpa [maxI] using h1, by simp only; omega, by simp only; omega, ?_, ?_⟩, rfl, ho⟩, fun _ => ho2⟩
    · simp only; omega
    · simp only [show (i + 1).toNat = i.toNat + 1 by omega]; omega
    · simp only [show (i + 1).toNat = i.toNat + 1 by omega]
  · rw [List.drop_eq_nil_of_le (by omega)] at h6
    subst h6
    exact ho1
noncomputable def E42l (κ : Kp) : Env := (E42r κ).addLoop 80 8 (loopE 2 st42l side42l out42l)
theorem e42l (κ : Kp) : EnvOK (E42l κ) := (e42r κ).addLoop (m42r κ) (l42l κ)
theorem m42l (κ : Kp) : EnvMono (E42l κ) := (m42r κ).addLoop loopE_mono
theorem y42 (κ : Kp) (a : A45) (K : AV → List Dn.Obj → Prop) : (funA (E42l κ) 12 80 [.yld 0, .ptr 1 0 [] 0] [.ext (some a.xs), .box 27 (rl45 a)] K) = (
  (nilL (A45.hl a) = true → loopCode (Pg.toProgram (Env.P (E56 κ))) 80 3 = loopCode (Pg.toProgram (Env.P (E56 κ))) 80 3 ∧ ∃ (a_2 : A42), sp 46 [(2, AV.ptr 2 0 []
  0), (3, AV.slc 3 0 0), (14, AV.lst 46 (A45.bl a)), (15, AV.int (↑(List.length (A45.bl a)) : Int)), (16, AV.int 0)] [Obj.ext (some (A45.xs a)), Obj.box 27
  (AV.agg [AV.agg [AV.str (A45.rel a), AV.lst 43 (A45.hl a)], AV.lst 46 (A45.bl a), AV.int (A45.line a)]), Obj.box 122 (AV.yld 0), Obj.row 43 []] = sp 46 [(2,
  AV.ptr 2 0 [] 0), (3, AV.slc 3 0 (List.length (A42.ts a_2))), (14, AV.lst 46 (A42.bl a_2)), (15, AV.int (↑(List.length (A42.bl a_2)) : Int)), (16, AV.int
  (A42.i a_2))] [Obj.ext (some (A42.xs a_2)), Obj.box 27 (AV.agg [AV.agg [AV.str (A45.rel (A42.r a_2)), AV.lst 43 (A45.hl (A42.r a_2))], AV.lst 46 (A45.bl (A42.r
  a_2)), AV.int (A45.line (A42.r a_2))]), Obj.box 122 (AV.yld 0), Obj.row 43 (A42.ts a_2)] ∧ (List.length (A42.bl a_2) ≤ 9223372036854775807 ∧ (0 : Int) ≤ A42.i
  a_2 ∧ A42.i a_2 ≤ (↑(List.length (A42.bl a_2)) : Int) ∧ List.length (A42.ts a_2 ++ partTs (List.drop (Int.toNat (A42.i a_2)) (A42.bl a_2))) ≤ 100000) ∧
  loopCode (Pg.toProgram (Env.P (E42r κ))) 80 8 = loopCode (Pg.toProgram (Env.P (E42r κ))) 80 8 ∧ ∃ (a : A42), sp 46 [(2, AV.ptr 2 0 [] 0), (32, AV.slc 3 0
  (List.length (A42.ts a_2 ++ partTs (List.drop (Int.toNat (A42.i a_2)) (A42.bl a_2))))), (33, AV.int (↑(List.length (A42.ts a_2 ++ partTs (List.drop (Int.toNat
  (A42.i a_2)) (A42.bl a_2)))) : Int)), (34, AV.int 0)] [Obj.ext (some (A42.xs a_2)), Obj.box 27 (AV.agg [AV.agg [AV.str (A45.rel (A42.r a_2)), AV.lst 43 (A45.hl
  (A42.r a_2))], AV.lst 46 (A45.bl (A42.r a_2)), AV.int (A45.line (A42.r a_2))]), Obj.box 122 (AV.yld 0), Obj.row 43 (A42.ts a_2 ++ partTs (List.drop (Int.toNat
  (A42.i a_2)) (A42.bl a_2)))] = sp 46 [(2, AV.ptr 2 0 [] 0), (32, AV.slc 3 0 (List.length (A42.ts a))), (33, AV.int (↑(List.length (A42.ts a)) : Int)), (34,
  AV.int (A42.i a))] [Obj.ext (some (A42.xs a)), Obj.box 27 (AV.agg [AV.agg [AV.str (A45.rel (A42.r a)), AV.lst 43 (A45.hl (A42.r a))], AV.lst 46 (A45.bl (A42.r
  a)), AV.int (A45.line (A42.r a))]), Obj.box 122 (AV.yld 0), Obj.row 43 (A42.ts a)] ∧ (List.length (A42.ts a) ≤ 9223372036854775807 ∧ (0 : Int) ≤ A42.i a ∧
  A42.i a ≤ (↑(List.length (A42.ts a)) : Int) ∧ cntL (tmsOf (List.drop (Int.toNat (A42.i a)) (A42.ts a))) ≤ 100000 ∧ A42.xs a = subsL 43 (List.drop (Int.toNat
  (A42.i a)) (A42.ts a))) ∧ ∀ (y : Bool), True → brn y (K (AV.tup []) [Obj.ext (some []), Obj.box 27 (AV.agg [AV.agg [AV.str (A45.rel (A42.r a)), AV.lst 43
  (A45.hl (A42.r a))], AV.lst 46 (A45.bl (A42.r a)), AV.int (A45.line (A42.r a))])]) (K (AV.tup []) [Obj.ext none, Obj.box 27 (AV.agg [AV.agg [AV.str (A45.rel
  (A42.r a)), AV.lst 43 (A45.hl (A42.r a))], AV.lst 46 (A45.bl (A42.r a)), AV.int (A45.line (A42.r a))])])) ∧ cnd (decide ((0 + List.length (A45.hl a) + 1) * 57
  ≤ 70368744177664)) (loopCode (Pg.toProgram (Env.P (E56 κ))) 80 3 = loopCode (Pg.toProgram (Env.P (E56 κ))) 80 3 ∧ ∃ (a_1 : A42), sp 46 [(2, AV.ptr 2 0 [] 0),
  (3, AV.slc 3 0 (0 + List.length (A45.hl a))), (14, AV.lst 46 (A45.bl a)), (15, AV.int (↑(List.length (A45.bl a)) : Int)), (16, AV.int 0)] [Obj.ext (some
  (A45.xs a)), Obj.box 27 (AV.agg [AV.agg [AV.str (A45.rel a), AV.lst 43 (A45.hl a)], AV.lst 46 (A45.bl a), AV.int (A45.line a)]), Obj.box 122 (AV.yld 0),
  Obj.row 43 ([] ++ A45.hl a)] = sp 46 [(2, AV.ptr 2 0 [] 0), (3, AV.slc 3 0 (List.length (A42.ts a_1))), (14, AV.lst 46 (A42.bl a_1)), (15, AV.int
  (↑(List.length (A42.bl a_1)) : Int)), (16, AV.int (A42.i a_1))] [Obj.ext (some (A42.xs a_1)), Obj.box 27 (AV.agg [AV.agg [AV.str (A45.rel (A42.r a_1)), AV.lst
  43 (A45.hl (A42.r a_1))], AV.lst 46 (A45.bl (A42.r a_1)), AV.int (A45.line (A42.r a_1))]), Obj.box 122 (AV.yld 0), Obj.row 43 (A42.ts a_1)] ∧ (List.length
  (A42.bl a_1) ≤ 9223372036854775807 ∧ (0 : Int) ≤ A42.i a_1 ∧ A42.i a_1 ≤ (↑(List.length (A42.bl a_1)) : Int) ∧ List.length (A42.ts a_1 ++ partTs (List.drop
  (Int.toNat (A42.i a_1)) (A42.bl a_1))) ≤ 100000) ∧ loopCode (Pg.toProgram (Env.P (E42r κ))) 80 8 = loopCode (Pg.toProgram (Env.P (E42r κ))) 80 8 ∧ ∃ (a : A42),
  sp 46 [(2, AV.ptr 2 0 [] 0), (32, AV.slc 3 0 (List.length (A42.ts a_1 ++ partTs (List.drop (Int.toNat (A42.i a_1)) (A42.bl a_1))))), (33, AV.int (↑(List.length
  (A42.ts a_1 ++ partTs (List.drop (Int.toNat (A42.i a_1)) (A42.bl a_1)))) : Int)), (34, AV.int 0)] [Obj.ext (some (A42.xs a_1)), Obj.box 27 (AV.agg [AV.agg
  [AV.str (A45.rel (A42.r a_1)), AV.lst 43 (A45.hl (A42.r a_1))], AV.lst 46 (A45.bl (A42.r a_1)), AV.int (A45.line (A42.r a_1))]), Obj.box 122 (AV.yld 0),
  Obj.row 43 (A42.ts a_1 ++ partTs (List.drop (Int.toNat (A42.i a_1)) (A42.bl a_1)))] = sp 46 [(2, AV.ptr 2 0 [] 0), (32, AV.slc 3 0 (List.length (A42.ts a))),
  (33, AV.int (↑(List.length (A42.ts a)) : Int)), (34, AV.int (A42.i a))] [Obj.ext (some (A42.xs a)), Obj.box 27 (AV.agg [AV.agg [AV.str (A45.rel (A42.r a)),
  AV.lst 43 (A45.hl (A42.r a))], AV.lst 46 (A45.bl (A42.r a)), AV.int (A45.line (A42.r a))]), Obj.box 122 (AV.yld 0), Obj.row 43 (A42.ts a)] ∧ (List.length
  (A42.ts a) ≤ 9223372036854775807 ∧ (0 : Int) ≤ A42.i a ∧ A42.i a ≤ (↑(List.length (A42.ts a)) : Int) ∧ cntL (tmsOf (List.drop (Int.toNat (A42.i a)) (A42.ts
  a))) ≤ 100000 ∧ A42.xs a = subsL 43 (List.drop (Int.toNat (A42.i a)) (A42.ts a))) ∧ ∀ (y : Bool), True → brn y (K (AV.tup []) [Obj.ext (some []), Obj.box 27
  (AV.agg [AV.agg [AV.str (A45.rel (A42.r a)), AV.lst 43 (A45.hl (A42.r a))], AV.lst 46 (A45.bl (A42.r a)), AV.int (A45.line (A42.r a))])]) (K (AV.tup [])
  [Obj.ext none, Obj.box 27 (AV.agg [AV.agg [AV.str (A45.rel (A42.r a)), AV.lst 43 (A45.hl (A42.r a))], AV.lst 46 (A45.bl (A42.r a)), AV.int (A45.line (A42.r
  a))])]))) := by kernel_rfl
def st42 (a : A45) : List AV × List Dn.Obj := ([.yld 0, .ptr 1 0 [] 0], [.ext (some (subsL 43 (ruleTs 43 a.hl a.bl))), .box 27 (rl45 a)])
def side42 (a : A45) : Prop := cntL (tmsOf (ruleTs 43 a.hl a.bl)) ≤ 100000 ∧ a.bl.length ≤ 100000
def out42 (_ : A45) : Out (AV × List Dn.Obj) := .all (fun st' => tdone st') fun st' => .one (.tup [], st')
theorem c42 (κ : Kp) : CallOk (E42l κ) 12 80 (callE st42 side42 out42) := by
  refine callE_ok ?_
  rintro ⟨xs, more, rel, hl, bl, line, i⟩ K ⟨h1, h2⟩ ho
  have hn : ∀ b, K (.tup []) [.ext none, b] := fun b => ho _ trivial
  have h0 : ∀ b, K (.tup []) [.ext (some []), b] := fun b => ho _ trivial
  simp only at h1 h2
  have hl1 := len_cntL (tmsOf (ruleTs 43 hl bl))
  rw [tms_len] at hl1
  have hle : hl.length ≤ 100000 := by
    have : (ruleTs 43 hl bl).length = hl.length + (partTs bl).length := by simp [ruleTs, partTs]
    omega
  refine Eq.mpr (y42 κ ⟨subsL 43 (ruleTs 43 hl bl), more, rel, hl, bl, line, i⟩ K) ?_
  have hz : ∀ ts : List AV, ts = hl → (ts ++ partTs (List.drop (Int.toNat 0) bl)) = ruleTs 43 hl bl := fun ts h => by subst h; rfl
  have fin : ∀ ts : List AV, ts = hl → ∃ a : A42, sp 46 [(2, .ptr 2 0 [] 0), (32, .slc 3 0 (ts ++ partTs (List.drop (Int.toNat 0) bl)).length), (33, .int (ts ++ partTs (List.drop (Int.toNat 0) bl)).length), (34, .int 0)] [.ext (some (subsL 43 (ruleTs 43 hl bl))), .box 27 (rl45 ⟨subsL 43 (ruleTs 43 hl bl), more, rel, hl, bl, line, i⟩), .box 122 (.yld 0), .row 43 (ts ++ partTs (List.drop (Int.toNat 0) bl))] = st42l a ∧ side42l a ∧ ∀ y : Bool, True → brn y (K (.tup []) [.ext (some []), .box 27 (rl45 a.r)]) (K (.tup []) [.ext none, .box 27 (rl45 a.r)]) := by
    intro ts h
    refine ⟨⟨_, [], ⟨subsL 43 (ruleTs 43 hl bl), more, rel, hl, bl, line, i⟩, bl, ts ++ partTs (List.drop (Int.toNat 0) bl), 0⟩, rfl, ⟨?_, ?_, ?_, ?_, ?_⟩, fun y _ => ?_⟩
    · simp only [hz ts h, maxI]; omega
    · simp only; omega
    · simp only; omega
    · show cntL (tmsOf (List.drop (Int.toNat 0) (ts ++ partTs (List.drop (Int.toNat 0) bl)))) ≤ 100000
      rw [hz ts h]; exact h1
    · rw [hz ts h]; rfl
    · cases y
      · exact hn _
      · exact h0 _
  refine ⟨fun e => ?_, ?_⟩
  · obtain rfl : hl = [] := by
      cases hl with
      | nil => rfl
      | cons => cases e
    refine ⟨rfl, ⟨_, [], ⟨subsL 43 (ruleTs 43 [] bl), more, rel, [], bl, line, i⟩, bl, [], 0⟩, rfl, ⟨by simp only; omega, by simp only; omega, by simp only; omega, ?_⟩, rfl, fin [] rfl⟩
    rw [hz [] rfl]; exact Nat.le_trans hl1 h1
  · rw [cnd_iff, decide_eq_true_eq]
    refine ⟨by simp only; omega, rfl, ⟨_, [], ⟨subsL 43 (ruleTs 43 hl bl), more, rel, hl, bl, line, i⟩, bl, [] ++ hl, 0⟩, ?_, ⟨by simp only; omega, by simp only; omega, by simp only; omega, ?_⟩, rfl, fin ([] ++ hl) rfl⟩
    · rw [Nat.zero_add]; rfl
    · rw [hz ([] ++ hl) rfl]; exact Nat.le_trans hl1 h1
set_option maxRecDepth 20000 in
noncomputable def E42 (κ : Kp) : Env := (E42l κ).addCall 80 (callE st42 side42 out42)
theorem e42 (κ : Kp) : EnvOK (E42 κ) := (e42l κ).addCall (m42l κ) (c42 κ)
theorem m42 (κ : Kp) : EnvMono (E42 κ) := (m42l κ).addCall callE_mono
end Go.Proofs.YtpgahkbkfflkaaaGreatDoor
namespace Go.Proofs.YtpgahkbkfflkaaaGreatDoor
open Go Go.Dn Go.Rl Go.Proofs
attribute [local irreducible] funA vc
set_option maxRecDepth 20000
def rOf (a : A45) : Rl := ⟨⟨a.rel, tmsOf a.hl⟩, ltsOf a.bl⟩
noncomputable abbrev lp12 (a : A45) (κ : Kp) (st : LoopState) (p : Option Code) : Dn.Obj :=
  .loop (lpA (Pr κ).toProgram 34 6 st p (spR (junks 31) [(0, rl45 a), (1, .ptr 0 0 [] 0), (2, .nil), (3, .ptr 1 0 [] 0), (4, .ptr 3 0 [] 0), (6, rl45 a), (7, .bool (rightR (rOf a))), (8, .bool false), (9, .mp 2), (10, rl45 a), (11, .clo 80 [.ptr 4 0 [] 0])]))
noncomputable abbrev str12 (κ : Kp) (a : A45) : List Dn.Obj := [.box 27 (rl45 a), .box 37 .nil, .map 9 4 [], .box 64 (.mp 2), .box 27 (rl45 a), lp12 a κ .ready none]
theorem s12 (κ : Kp) (a : A45) (Q : List Dn.Obj → Prop) : (tidy (Pr κ).toProgram 6 (setDead (str12 κ a) (capIds (str12 κ a) [.ptr 4 0 [] 0])) Q) = (
  Q [Obj.box 27 (AV.agg [AV.agg [AV.str (A45.rel a), AV.lst 43 (A45.hl a)], AV.lst 46 (A45.bl a), AV.int (A45.line a)]), Obj.box 37 (AV.slc 6 0 0), Dn.Obj.map 9 4
  [], Obj.box 64 (AV.mp 2), Obj.dead, Dn.Obj.loop (lpA Tryz.prog 34 6 LoopState.ready none (spR (junks 31) [(0, AV.agg [AV.agg [AV.str (A45.rel a), AV.lst 43
  (A45.hl a)], AV.lst 46 (A45.bl a), AV.int (A45.line a)]), (1, AV.ptr 0 0 [] 0), (2, AV.nil), (3, AV.ptr 1 0 [] 0), (4, AV.ptr 3 0 [] 0), (6, AV.agg [AV.agg
  [AV.str (A45.rel a), AV.lst 43 (A45.hl a)], AV.lst 46 (A45.bl a), AV.int (A45.line a)]), (7, AV.bool (rightR (rOf a))), (8, AV.bool false), (9, AV.mp 2), (10,
  AV.agg [AV.agg [AV.str (A45.rel a), AV.lst 43 (A45.hl a)], AV.lst 46 (A45.bl a), AV.int (A45.line a)]), (11, AV.clo 80 [AV.ptr 4 0 [] 0])])), Obj.row 9 []]) := by kernel_rfl
noncomputable abbrev str12d (κ : Kp) (a : A45) (vs : List ByteArray) (es : List (Value × AV)) : List Dn.Obj := [.box 27 (rl45 a), .box 37 (.slc 6 0 vs.length), .map 9 4 es, .box 64 (.mp 2), .dead, lp12 a κ .ready none, .row 9 (strs vs)]
theorem r12 (κ : Kp) (a : A45) (vs : List ByteArray) (es : List (Value × AV)) (u : AV) (Q : List Dn.Obj → Prop) (K2 : List Dn.Obj → Prop) : (roundA (vc (E42 κ) 12) 5 [exT 43 u] (str12d κ a vs es) (fun r st'' => match r with | .lit (.bool true) => tidy (Pr κ).toProgram 6 st'' Q | .lit (.bool false) => K2 st'' | _ => False)) = (
  brn (toInt (fld u 0) != (1 : Int)) (Q [Obj.box 27 (AV.agg [AV.agg [AV.str (A45.rel a), AV.lst 43 (A45.hl a)], AV.lst 46 (A45.bl a), AV.int (A45.line a)]),
  Obj.box 37 (AV.slc 6 0 (List.length vs)), Dn.Obj.map 9 4 es, Obj.box 64 (AV.mp 2), Obj.dead, Dn.Obj.loop (lpA Tryz.prog 34 6 LoopState.ready none (spR (junks
  31) [(0, AV.agg [AV.agg [AV.str (A45.rel a), AV.lst 43 (A45.hl a)], AV.lst 46 (A45.bl a), AV.int (A45.line a)]), (1, AV.ptr 0 0 [] 0), (2, AV.nil), (3, AV.ptr
  1 0 [] 0), (4, AV.ptr 3 0 [] 0), (6, AV.agg [AV.agg [AV.str (A45.rel a), AV.lst 43 (A45.hl a)], AV.lst 46 (A45.bl a), AV.int (A45.line a)]), (7, AV.bool
  (rightR (rOf a))), (8, AV.bool false), (9, AV.mp 2), (10, AV.agg [AV.agg [AV.str (A45.rel a), AV.lst 43 (A45.hl a)], AV.lst 46 (A45.bl a), AV.int (A45.line
  a)]), (11, AV.clo 80 [AV.ptr 4 0 [] 0])])), Obj.row 9 (strs vs)]) (brn (Dn.toBool (getK es (Value.string (toStr (fld u 1))) (AV.bool false))) (Q [Obj.box 27
  (AV.agg [AV.agg [AV.str (A45.rel a), AV.lst 43 (A45.hl a)], AV.lst 46 (A45.bl a), AV.int (A45.line a)]), Obj.box 37 (AV.slc 6 0 (List.length vs)), Dn.Obj.map 9
  4 es, Obj.box 64 (AV.mp 2), Obj.dead, Dn.Obj.loop (lpA Tryz.prog 34 6 LoopState.ready none (spR (junks 31) [(0, AV.agg [AV.agg [AV.str (A45.rel a), AV.lst 43
  (A45.hl a)], AV.lst 46 (A45.bl a), AV.int (A45.line a)]), (1, AV.ptr 0 0 [] 0), (2, AV.nil), (3, AV.ptr 1 0 [] 0), (4, AV.ptr 3 0 [] 0), (6, AV.agg [AV.agg
  [AV.str (A45.rel a), AV.lst 43 (A45.hl a)], AV.lst 46 (A45.bl a), AV.int (A45.line a)]), (7, AV.bool (rightR (rOf a))), (8, AV.bool false), (9, AV.mp 2), (10,
  AV.agg [AV.agg [AV.str (A45.rel a), AV.lst 43 (A45.hl a)], AV.lst 46 (A45.bl a), AV.int (A45.line a)]), (11, AV.clo 80 [AV.ptr 4 0 [] 0])])), Obj.row 9 (strs
  vs)]) (cnd (decide ((List.length vs + 1 + 1) * 17 ≤ 70368744177664)) (Q [Obj.box 27 (AV.agg [AV.agg [AV.str (A45.rel a), AV.lst 43 (A45.hl a)], AV.lst 46
  (A45.bl a), AV.int (A45.line a)]), Obj.box 37 (AV.slc 6 0 (List.length vs + 1)), Dn.Obj.map 9 4 (updK es (Value.string (toStr (fld u 1))) (AV.bool true)),
  Obj.box 64 (AV.mp 2), Obj.dead, Dn.Obj.loop (lpA Tryz.prog 34 6 LoopState.ready none (spR (junks 31) [(0, AV.agg [AV.agg [AV.str (A45.rel a), AV.lst 43 (A45.hl
  a)], AV.lst 46 (A45.bl a), AV.int (A45.line a)]), (1, AV.ptr 0 0 [] 0), (2, AV.nil), (3, AV.ptr 1 0 [] 0), (4, AV.ptr 3 0 [] 0), (6, AV.agg [AV.agg [AV.str
  (A45.rel a), AV.lst 43 (A45.hl a)], AV.lst 46 (A45.bl a), AV.int (A45.line a)]), (7, AV.bool (rightR (rOf a))), (8, AV.bool false), (9, AV.mp 2), (10, AV.agg
  [AV.agg [AV.str (A45.rel a), AV.lst 43 (A45.hl a)], AV.lst 46 (A45.bl a), AV.int (A45.line a)]), (11, AV.clo 80 [AV.ptr 4 0 [] 0])])), Obj.row 9 (List.take
  (List.length vs) (strs vs) ++ [AV.str (toStr (fld u 1))])])))) := by kernel_rfl
theorem k12 (κ : Kp) (a : A45) (xs : List AV) : (AV.yld 0 :: renL (idxS (capIds (str12 κ a) [.ptr 4 0 [] 0])) [.ptr 4 0 [] 0], Obj.ext (some xs) :: renSt (idxS (capIds (str12 κ a) [.ptr 4 0 [] 0])) (getSt (str12 κ a) (capIds (str12 κ a) [.ptr 4 0 [] 0]))) = ([.yld 0, .ptr 1 0 [] 0], [.ext (some xs), .box 27 (rl45 a)]) := by kernel_rfl
theorem o12 (κ : Kp) (a : A45) : genOk (str12 κ a) [.ptr 4 0 [] 0] = true := by kernel_rfl
noncomputable def spR12 (κ : Kp) : RangeSpec := fun caps st K => ∃ a : A45, (caps, st) = ([AV.ptr 4 0 [] 0], str12 κ a) ∧ side42 a ∧ K (str12d κ a (ddup [] (ruleV (rOf a))) (setE (ddup [] (ruleV (rOf a)))))
theorem spR12_mono (κ : Kp) : (spR12 κ).Mono := by
  rintro caps st K K' hK ⟨a, h1, h2, h3⟩
  exact ⟨a, h1, h2, hK _ h3⟩
theorem call12 (κ : Kp) (args : List AV) (st : List Dn.Obj) (K : AV → List Dn.Obj → Prop) (h : callE st42 side42 out42 args st K) : (E42 κ).call 80 args st K := h
theorem g12r (κ : Kp) : RangeOk (E42 κ) 12 80 (spR12 κ) := by
  rintro caps st K ⟨a, h1, h3, h5⟩
  obtain ⟨rfl, rfl⟩ := Prod.mk.inj h1
  have hv := ruleTs_vars 43 a.rel a.hl a.bl
  rw [← itemV_subsL 43] at hv
  have hb : (ruleV (rOf a)).length ≤ 100000 := by
    have h6 := varsL_le (tmsOf (ruleTs 43 a.hl a.bl))
    rw [ruleTs_vars 43 a.rel a.hl a.bl] at h6
    exact Nat.le_trans h6 h3.1
  have hd := ddup_len (ruleV (rOf a)) []
  refine ⟨subsL 43 (ruleTs 43 a.hl a.bl), fun items st' => ∃ vs, (∀ x, x ∈ items → IsItem 43 x) ∧ st' = str12d κ a vs (setE vs) ∧ vs ++ ddup vs (items.flatMap itemV) = ddup [] (ruleV (rOf a)), ⟨o12 κ a, ?_, ?_, ?_, ?_⟩⟩
  · refine call12 κ _ _ _ ⟨a, ?_, h3, fun st' h => h⟩
    rw [k12]; rfl
  · rw [show (E42 κ).P = Pr κ from rfl, show (str12 κ a).length = 6 from rfl, s12]
    exact ⟨[], items_subsL _ _, rfl, by rw [hv]; rfl⟩
  · rintro us rest st' ⟨vs, e1, rfl, e3⟩
    obtain ⟨u, hu⟩ := e1 (.tup us) (by simp)
    obtain rfl := AV.tup.inj hu
    rw [show (E42 κ).P = Pr κ from rfl, show (str12 κ a).length = 6 from rfl]
    refine Eq.mpr (r12 κ a vs _ u _ _) ?_
    have e1' : ∀ x, x ∈ rest → IsItem 43 x := fun x hx => e1 x (by simp [hx])
    have hi : itemV (.tup [exT 43 u]) = bif decide (toInt (fld u 0) = 1) then [toStr (fld u 1)] else [] := rfl
    rw [List.flatMap_cons, hi] at e3
    have hin : Dn.toBool (getK (setE vs) (.string (toStr (fld u 1))) (.lit (.bool false))) = vs.contains (toStr (fld u 1)) := inS_set _ _
    rw [hin]
    simp only [brn_iff, cnd_iff, bne_iff_ne, bne_eq_false_iff_eq, decide_eq_true_eq]
    refine ⟨fun e => ⟨vs, e1', rfl, ?_⟩, fun e => ⟨fun e4 => ⟨vs, e1', rfl, ?_⟩, fun e4 => ⟨?_, vs ++ [toStr (fld u 1)], e1', ?_, ?_⟩⟩⟩
    · rw [decide_eq_false e] at e3; exact e3
    · rw [decide_eq_true e, cond_true, List.singleton_append, ddup, e4] at e3; exact e3
    · have := congrArg List.length e3
      rw [List.length_append] at this; omega
    · rw [upd_set, ← strs_len vs, List.take_length]
      simp only [str12d, strs_app, strs_len, List.length_append, List.length_cons, List.length_nil]
      rfl
    · rw [decide_eq_true e, cond_true, List.singleton_append, ddup, e4, cond_false] at e3
      simpa using e3
  · rintro st' ⟨vs, _, rfl, e3⟩
    have e4 : vs = ddup [] (ruleV (rOf a)) := by simpa [ddup] using e3
    rw [e4]; exact h5
noncomputable def E12r (κ : Kp) : Env := ((E42 κ).addRange 34 6 80 (spR12 κ)).withGen (fun f => memN f genU)
theorem e12r (κ : Kp) : EnvOK (E12r κ) := ((e42 κ).addRange (m42 κ) (g12r κ)).withGen _
theorem m12r (κ : Kp) : EnvMono (E12r κ) := ((m42 κ).addRange (spR12_mono κ)).withGen _
theorem y12 (κ : Kp) (a : A45) (K : AV → List Dn.Obj → Prop) : (funA (E12r κ) 12 34 [rl45 a] [] K) = (
  cnd (decide (List.length (A45.hl a) ≤ 9223372036854775807) && decide (List.length (A45.bl a) ≤ 9223372036854775807)) (brn (!rightR
  { head := { rel := A45.rel a, l := tmsOf (A45.hl a) }, body := ltsOf (A45.bl a) }) (K (AV.nil) []) (∃ (a_1 : A45), ([AV.ptr 4 0 [] 0], [Obj.box 27 (AV.agg
  [AV.agg [AV.str (A45.rel a), AV.lst 43 (A45.hl a)], AV.lst 46 (A45.bl a), AV.int (A45.line a)]), Obj.box 37 (AV.nil), Dn.Obj.map 9 4 [], Obj.box 64 (AV.mp 2),
  Obj.box 27 (AV.agg [AV.agg [AV.str (A45.rel a), AV.lst 43 (A45.hl a)], AV.lst 46 (A45.bl a), AV.int (A45.line a)]), Dn.Obj.loop (lpA Tryz.prog 34 6
  LoopState.ready none (spR (junks 31) [(0, AV.agg [AV.agg [AV.str (A45.rel a), AV.lst 43 (A45.hl a)], AV.lst 46 (A45.bl a), AV.int (A45.line a)]), (1, AV.ptr 0
  0 [] 0), (2, AV.nil), (3, AV.ptr 1 0 [] 0), (4, AV.ptr 3 0 [] 0), (6, AV.agg [AV.agg [AV.str (A45.rel a), AV.lst 43 (A45.hl a)], AV.lst 46 (A45.bl a), AV.int
  (A45.line a)]), (7, AV.lit (Value.bool (rightR { head := { rel := A45.rel a, l := tmsOf (A45.hl a) }, body := ltsOf (A45.bl a) }))), (8, AV.bool false), (9,
  AV.mp 2), (10, AV.agg [AV.agg [AV.str (A45.rel a), AV.lst 43 (A45.hl a)], AV.lst 46 (A45.bl a), AV.int (A45.line a)]), (11, AV.clo 80 [AV.ptr 4 0 [] 0])]))]) =
  ([AV.ptr 4 0 [] 0], [Obj.box 27 (AV.agg [AV.agg [AV.str (A45.rel a_1), AV.lst 43 (A45.hl a_1)], AV.lst 46 (A45.bl a_1), AV.int (A45.line a_1)]), Obj.box 37
  (AV.nil), Dn.Obj.map 9 4 [], Obj.box 64 (AV.mp 2), Obj.box 27 (AV.agg [AV.agg [AV.str (A45.rel a_1), AV.lst 43 (A45.hl a_1)], AV.lst 46 (A45.bl a_1), AV.int
  (A45.line a_1)]), Dn.Obj.loop (lpA Tryz.prog 34 6 LoopState.ready none (spR (junks 31) [(0, AV.agg [AV.agg [AV.str (A45.rel a_1), AV.lst 43 (A45.hl a_1)],
  AV.lst 46 (A45.bl a_1), AV.int (A45.line a_1)]), (1, AV.ptr 0 0 [] 0), (2, AV.nil), (3, AV.ptr 1 0 [] 0), (4, AV.ptr 3 0 [] 0), (6, AV.agg [AV.agg [AV.str
  (A45.rel a_1), AV.lst 43 (A45.hl a_1)], AV.lst 46 (A45.bl a_1), AV.int (A45.line a_1)]), (7, AV.bool (rightR (rOf a_1))), (8, AV.bool false), (9, AV.mp 2),
  (10, AV.agg [AV.agg [AV.str (A45.rel a_1), AV.lst 43 (A45.hl a_1)], AV.lst 46 (A45.bl a_1), AV.int (A45.line a_1)]), (11, AV.clo 80 [AV.ptr 4 0 [] 0])]))]) ∧
  (cntL (tmsOf (ruleTs 43 (A45.hl a_1) (A45.bl a_1))) ≤ 100000 ∧ List.length (A45.bl a_1) ≤ 100000) ∧ K (AV.slc 0 0 (List.length (ddup [] (ruleV (rOf a_1)))))
  [Obj.row 9 (strs (ddup [] (ruleV (rOf a_1))))]))) := by kernel_rfl
def st12 (a : A45) : List AV × List Dn.Obj := ([rl45 a], [])
def side12 (a : A45) : Prop := rightR (rOf a) = true ∧ side42 a
def out12 (a : A45) : Out (AV × List Dn.Obj) := .one (.slc 0 0 (varsR (rOf a)).length, [.row 9 (strs (varsR (rOf a)))])
theorem c12 (κ : Kp) : CallOk (E12r κ) 12 34 (callE st12 side12 out12) := by
  refine callE_ok ?_
  rintro ⟨xs, more, rel, hl, bl, line, i⟩ K ⟨h0, h1, h2⟩ ho
  refine Eq.mpr (y12 κ ⟨xs, more, rel, hl, bl, line, i⟩ K) ?_
  have hr : rightR ⟨⟨rel, tmsOf hl⟩, ltsOf bl⟩ = true := h0
  simp only at h1 h2
  have hl1 := len_cntL (tmsOf (ruleTs 43 hl bl))
  rw [tms_len] at hl1
  have hle : hl.length ≤ 100000 := by
    have : (ruleTs 43 hl bl).length = hl.length + (partTs bl).length := by simp [ruleTs, partTs]
    omega
  simp only [hr, cnd_iff, brn_iff, Bool.and_eq_true, decide_eq_true_eq]
  refine ⟨⟨by omega, by omega⟩, (fun e => nomatch e), fun _ => ⟨⟨xs, more, rel, hl, bl, line, i⟩, ?_, ⟨h1, h2⟩, ?_⟩⟩
  · rw [show rightR (rOf ⟨xs, more, rel, hl, bl, line, i⟩) = true from h0]
  · simp only [out12, Out.run, varsR, h0, cond_true] at ho
    exact ho
set_option maxRecDepth 20000 in
noncomputable def E12 (κ : Kp) : Env := (E12r κ).addCall 34 (callE st12 side12 out12)
theorem e12 (κ : Kp) : EnvOK (E12 κ) := (e12r κ).addCall (m12r κ) (c12 κ)
theorem m12 (κ : Kp) : EnvMono (E12 κ) := (m12r κ).addCall callE_mono
end Go.Proofs.YtpgahkbkfflkaaaGreatDoor
namespace Go.Proofs.YtpgahkbkfflkaaaGreatDoor
open Go Go.Dn Go.Rl Go.Proofs
attribute [local irreducible] funA vc
set_option maxRecDepth 20000
theorem cntL_app : ∀ l m : List Tm, cntL (l ++ m) = cntL l + cntL m
  | [], m => by simp [cntL]
  | t :: l, m => by simp only [List.cons_append, cntL, cntL_app l m]; omega
theorem side_hl {a : A45} (h : side42 a) : cntL (tmsOf a.hl) ≤ 100000 := by
  have := h.1
  unfold ruleTs tmsOf at this
  rw [List.map_append, cntL_app] at this
  unfold tmsOf; omega
theorem lit_cnt : ∀ (l : List AV) (x : AV), x ∈ l → litC (ltOf x) ≤ cntL (tmsOf (partTs l))
  | [], _, h => by simp at h
  | y :: l, x, h => by
    have e : cntL (tmsOf (partTs (y :: l))) = litC (ltOf y) + cntL (tmsOf (partTs l)) := by
      unfold partTs tmsOf
      rw [List.flatMap_cons, List.map_append, cntL_app, List.map_append, cntL_app]
      simp only [litC, ltOf, atOf, tmsOf, List.map_cons, List.map_nil, tmOf_ex]
    rw [e]
    rcases List.mem_cons.1 h with rfl | h
    · omega
    · have := lit_cnt l x h; omega
theorem side_lit {a : A45} (h : side42 a) {i : Nat} (hi : i < a.bl.length) : litC (ltOf (nth a.bl i)) ≤ 100000 := by
  have h1 := h.1
  have e : ruleTs 43 a.hl a.bl = a.hl ++ partTs a.bl := rfl
  rw [e] at h1
  unfold tmsOf at h1
  rw [List.map_append, cntL_app] at h1
  have := lit_cnt a.bl (nth a.bl i) (by rw [nth_get _ _ hi]; exact List.getElem_mem hi)
  unfold tmsOf at this; omega
theorem nthLt_lts (l : List AV) {i : Nat} (hi : i < l.length) : nthLt (ltsOf l) i = ltOf (nth l i) := by
  unfold nthLt ltsOf
  rw [List.getD_eq_getElem?_getD, List.getElem?_map, List.getElem?_eq_getElem hi, nth_get l i hi]; rfl
def laOf (x : AV) : LA := ⟨toInt (fld x 0), toStr (fld (fld x 1) 0), toLst (fld (fld x 1) 1), toInt (fld (fld x 2) 0), toStr (fld (fld x 2) 1), toInt (fld (fld x 2) 2), toLst (fld (fld x 2) 3), toInt (fld (fld x 3) 0), toStr (fld (fld x 3) 1), toInt (fld (fld x 3) 2), toLst (fld (fld x 3) 3)⟩
theorem laOf_lt (x : AV) : (laOf x).lt = ltOf x := by rw [lt_eq]; rfl
structure A39 where
  a : A45
  k : Int
  i : Int
  vs : List ByteArray
abbrev st39l (a : A39) : S := sp 53 [(1, .int a.k), (2, .ptr 0 0 [] 0), (5, .ptr 1 0 [] 0), (17, .lst 46 a.a.bl), (18, .int a.a.bl.length), (19, .int a.i)] [.box 27 (rl45 a.a), .box 65 (.mp 2), .map 9 4 (setE a.vs)]
theorem x39 (κ : Kp) (a : A45) (k i : Int) (es : List (Value × AV)) (I : Nat → S → Prop) (n : Nat) (K : Exit → S → Prop) : (vc (E12 κ) 12 38 none 0 (loopCode (Pr κ).toProgram 38 4) (sp 53 [(1, .int k), (2, .ptr 0 0 [] 0), (5, .ptr 1 0 [] 0), (17, .lst 46 a.bl), (18, .int a.bl.length), (19, .int i)] [.box 27 (rl45 a), .box 65 (.mp 2), .map 9 4 es]) (loopK (E12 κ) 38 4 0 I n K)) = (
  brn (decide (i < (↑(List.length (A45.bl a)) : Int))) (cnd (decide ((0 : Int) ≤ i) && decide (i < (↑(List.length (A45.bl a)) : Int))) (brn (i == k) ((∃ (a_1 :
  List AV), ([AV.lst 43 [AV.agg [AV.int (toInt (fld (fld (nth (A45.bl a) (Int.toNat i)) 2) 0)), AV.str (toStr (fld (fld (nth (A45.bl a) (Int.toNat i)) 2) 1)),
  AV.int (toInt (fld (fld (nth (A45.bl a) (Int.toNat i)) 2) 2)), AV.lst 43 (toLst (fld (fld (nth (A45.bl a) (Int.toNat i)) 2) 3))]]], nilO) = ([AV.lst 43 a_1],
  nilO) ∧ side31a a_1 ∧ ∃ (a_2 : List AV × List (Value × AV)), ([AV.mp 0, AV.lst 9 (List.take (List.length (varsL (tmsOf a_1))) (List.drop 0 (strs (varsL (tmsOf
  a_1)))))], [Dn.Obj.map 9 4 es]) = ([AV.mp 0, AV.lst 9 (Prod.fst a_2)], [Dn.Obj.map 9 4 (Prod.snd a_2)]) ∧ side23 a_2 ∧ ∃ (m : Nat), m < n ∧ I m (sp 53 [(1,
  AV.int k), (2, AV.ptr 0 0 [] 0), (5, AV.ptr 1 0 [] 0), (17, AV.lst 46 (A45.bl a)), (18, AV.int (↑(List.length (A45.bl a)) : Int)), (19, AV.int (IntKind.wrap
  IntKind.i64 (i + (1 : Int))))] [Obj.box 27 (AV.agg [AV.agg [AV.str (A45.rel a), AV.lst 43 (A45.hl a)], AV.lst 46 (A45.bl a), AV.int (A45.line a)]), Obj.box 65
  (AV.mp 2), Dn.Obj.map 9 4 (putL (Prod.snd a_2) (Prod.fst a_2))])) ∧ (∃ (a_1 : List AV), ([AV.lst 43 [AV.agg [AV.int (toInt (fld (fld (nth (A45.bl a) (Int.toNat
  i)) 2) 0)), AV.str (toStr (fld (fld (nth (A45.bl a) (Int.toNat i)) 2) 1)), AV.int (toInt (fld (fld (nth (A45.bl a) (Int.toNat i)) 2) 2)), AV.lst 43 (toLst (fld
  (fld (nth (A45.bl a) (Int.toNat i)) 2) 3))]]], nilO) = ([AV.lst 43 a_1], nilO) ∧ side31a a_1 ∧ ∃ (a_2 : List AV × List (Value × AV)), ([AV.mp 0, AV.lst 9
  (List.take (List.length (varsL (tmsOf a_1))) (List.drop 0 (strs (varsL (tmsOf a_1)))))], [Dn.Obj.map 9 4 es]) = ([AV.mp 0, AV.lst 9 (Prod.fst a_2)],
  [Dn.Obj.map 9 4 (Prod.snd a_2)]) ∧ side23 a_2 ∧ ∃ (m : Nat), m < n ∧ I m (sp 53 [(1, AV.int k), (2, AV.ptr 0 0 [] 0), (5, AV.ptr 1 0 [] 0), (17, AV.lst 46
  (A45.bl a)), (18, AV.int (↑(List.length (A45.bl a)) : Int)), (19, AV.int (IntKind.wrap IntKind.i64 (i + (1 : Int))))] [Obj.box 27 (AV.agg [AV.agg [AV.str
  (A45.rel a), AV.lst 43 (A45.hl a)], AV.lst 46 (A45.bl a), AV.int (A45.line a)]), Obj.box 65 (AV.mp 2), Dn.Obj.map 9 4 (putL (Prod.snd a_2) (Prod.fst a_2))])) ∧
  ∃ (a_1 : List AV), ([AV.lst 43 [AV.agg [AV.int (toInt (fld (fld (nth (A45.bl a) (Int.toNat i)) 2) 0)), AV.str (toStr (fld (fld (nth (A45.bl a) (Int.toNat i))
  2) 1)), AV.int (toInt (fld (fld (nth (A45.bl a) (Int.toNat i)) 2) 2)), AV.lst 43 (toLst (fld (fld (nth (A45.bl a) (Int.toNat i)) 2) 3))]]], nilO) = ([AV.lst 43
  a_1], nilO) ∧ side31a a_1 ∧ ∃ (a_2 : List AV × List (Value × AV)), ([AV.mp 0, AV.lst 9 (List.take (List.length (varsL (tmsOf a_1))) (List.drop 0 (strs (varsL
  (tmsOf a_1)))))], [Dn.Obj.map 9 4 es]) = ([AV.mp 0, AV.lst 9 (Prod.fst a_2)], [Dn.Obj.map 9 4 (Prod.snd a_2)]) ∧ side23 a_2 ∧ ∃ (m : Nat), m < n ∧ I m (sp 53
  [(1, AV.int k), (2, AV.ptr 0 0 [] 0), (5, AV.ptr 1 0 [] 0), (17, AV.lst 46 (A45.bl a)), (18, AV.int (↑(List.length (A45.bl a)) : Int)), (19, AV.int
  (IntKind.wrap IntKind.i64 (i + (1 : Int))))] [Obj.box 27 (AV.agg [AV.agg [AV.str (A45.rel a), AV.lst 43 (A45.hl a)], AV.lst 46 (A45.bl a), AV.int (A45.line
  a)]), Obj.box 65 (AV.mp 2), Dn.Obj.map 9 4 (putL (Prod.snd a_2) (Prod.fst a_2))])) ((∃ (a_1 : LA), ([AV.agg [AV.int (toInt (fld (nth (A45.bl a) (Int.toNat i))
  0)), AV.agg [AV.str (toStr (fld (fld (nth (A45.bl a) (Int.toNat i)) 1) 0)), AV.lst 43 (toLst (fld (fld (nth (A45.bl a) (Int.toNat i)) 1) 1))], AV.agg [AV.int
  (toInt (fld (fld (nth (A45.bl a) (Int.toNat i)) 2) 0)), AV.str (toStr (fld (fld (nth (A45.bl a) (Int.toNat i)) 2) 1)), AV.int (toInt (fld (fld (nth (A45.bl a)
  (Int.toNat i)) 2) 2)), AV.lst 43 (toLst (fld (fld (nth (A45.bl a) (Int.toNat i)) 2) 3))], AV.agg [AV.int (toInt (fld (fld (nth (A45.bl a) (Int.toNat i)) 3)
  0)), AV.str (toStr (fld (fld (nth (A45.bl a) (Int.toNat i)) 3) 1)), AV.int (toInt (fld (fld (nth (A45.bl a) (Int.toNat i)) 3) 2)), AV.lst 43 (toLst (fld (fld
  (nth (A45.bl a) (Int.toNat i)) 3) 3))]]], nilO) = ([AV.agg [AV.int (LA.op a_1), AV.agg [AV.str (LA.s a_1), AV.lst 43 (LA.l a_1)], AV.agg [AV.int (LA.o1 a_1),
  AV.str (LA.s1 a_1), AV.int (LA.n1 a_1), AV.lst 43 (LA.l1 a_1)], AV.agg [AV.int (LA.o2 a_1), AV.str (LA.s2 a_1), AV.int (LA.n2 a_1), AV.lst 43 (LA.l2 a_1)]]],
  nilO) ∧ side40 a_1 ∧ ∃ (a_2 : List AV × List (Value × AV)), ([AV.mp 0, AV.lst 9 (List.take (List.length (litV (LA.lt a_1))) (List.drop 0 (strs (litV (LA.lt
  a_1)))))], [Dn.Obj.map 9 4 es]) = ([AV.mp 0, AV.lst 9 (Prod.fst a_2)], [Dn.Obj.map 9 4 (Prod.snd a_2)]) ∧ side23 a_2 ∧ ∃ (m : Nat), m < n ∧ I m (sp 53 [(1,
  AV.int k), (2, AV.ptr 0 0 [] 0), (5, AV.ptr 1 0 [] 0), (17, AV.lst 46 (A45.bl a)), (18, AV.int (↑(List.length (A45.bl a)) : Int)), (19, AV.int (IntKind.wrap
  IntKind.i64 (i + (1 : Int))))] [Obj.box 27 (AV.agg [AV.agg [AV.str (A45.rel a), AV.lst 43 (A45.hl a)], AV.lst 46 (A45.bl a), AV.int (A45.line a)]), Obj.box 65
  (AV.mp 2), Dn.Obj.map 9 4 (putL (Prod.snd a_2) (Prod.fst a_2))])) ∧ ∃ (a_1 : LA), ([AV.agg [AV.int (toInt (fld (nth (A45.bl a) (Int.toNat i)) 0)), AV.agg
  [AV.str (toStr (fld (fld (nth (A45.bl a) (Int.toNat i)) 1) 0)), AV.lst 43 (toLst (fld (fld (nth (A45.bl a) (Int.toNat i)) 1) 1))], AV.agg [AV.int (toInt (fld
  (fld (nth (A45.bl a) (Int.toNat i)) 2) 0)), AV.str (toStr (fld (fld (nth (A45.bl a) (Int.toNat i)) 2) 1)), AV.int (toInt (fld (fld (nth (A45.bl a) (Int.toNat
  i)) 2) 2)), AV.lst 43 (toLst (fld (fld (nth (A45.bl a) (Int.toNat i)) 2) 3))], AV.agg [AV.int (toInt (fld (fld (nth (A45.bl a) (Int.toNat i)) 3) 0)), AV.str
  (toStr (fld (fld (nth (A45.bl a) (Int.toNat i)) 3) 1)), AV.int (toInt (fld (fld (nth (A45.bl a) (Int.toNat i)) 3) 2)), AV.lst 43 (toLst (fld (fld (nth (A45.bl
  a) (Int.toNat i)) 3) 3))]]], nilO) = ([AV.agg [AV.int (LA.op a_1), AV.agg [AV.str (LA.s a_1), AV.lst 43 (LA.l a_1)], AV.agg [AV.int (LA.o1 a_1), AV.str (LA.s1
  a_1), AV.int (LA.n1 a_1), AV.lst 43 (LA.l1 a_1)], AV.agg [AV.int (LA.o2 a_1), AV.str (LA.s2 a_1), AV.int (LA.n2 a_1), AV.lst 43 (LA.l2 a_1)]]], nilO) ∧ side40
  a_1 ∧ ∃ (a_2 : List AV × List (Value × AV)), ([AV.mp 0, AV.lst 9 (List.take (List.length (litV (LA.lt a_1))) (List.drop 0 (strs (litV (LA.lt a_1)))))],
  [Dn.Obj.map 9 4 es]) = ([AV.mp 0, AV.lst 9 (Prod.fst a_2)], [Dn.Obj.map 9 4 (Prod.snd a_2)]) ∧ side23 a_2 ∧ ∃ (m : Nat), m < n ∧ I m (sp 53 [(1, AV.int k), (2,
  AV.ptr 0 0 [] 0), (5, AV.ptr 1 0 [] 0), (17, AV.lst 46 (A45.bl a)), (18, AV.int (↑(List.length (A45.bl a)) : Int)), (19, AV.int (IntKind.wrap IntKind.i64 (i +
  (1 : Int))))] [Obj.box 27 (AV.agg [AV.agg [AV.str (A45.rel a), AV.lst 43 (A45.hl a)], AV.lst 46 (A45.bl a), AV.int (A45.line a)]), Obj.box 65 (AV.mp 2),
  Dn.Obj.map 9 4 (putL (Prod.snd a_2) (Prod.fst a_2))])))) (K (Exit.exit 0) (sp 53 [(1, AV.int k), (2, AV.ptr 0 0 [] 0), (5, AV.ptr 1 0 [] 0)] [Obj.box 27
  (AV.agg [AV.agg [AV.str (A45.rel a), AV.lst 43 (A45.hl a)], AV.lst 46 (A45.bl a), AV.int (A45.line a)]), Obj.box 65 (AV.mp 2), Dn.Obj.map 9 4 es]))) := by kernel_rfl
def side39l (a : A39) : Prop := side42 a.a ∧ 0 ≤ a.k ∧ 0 ≤ a.i ∧ a.i ≤ a.a.bl.length
def end39 (a : A39) : List ByteArray := a.vs ++ elseB a.k.toNat (ltsOf (a.a.bl.drop a.i.toNat)) a.i.toNat
def out39l (a : A39) : Out (Exit × S) := .one (.exit 0, sp 53 [(1, .int a.k), (2, .ptr 0 0 [] 0), (5, .ptr 1 0 [] 0)] [.box 27 (rl45 a.a), .box 65 (.mp 2), .map 9 4 (setE (end39 a))])
theorem l39 (κ : Kp) : LoopOk (E12 κ) 12 38 4 (loopE 0 st39l side39l out39l) := by
  refine loopE_ok (fun a => a.a.bl.length - a.i.toNat) ?_
  rintro ⟨a, k, i, vs⟩ K ⟨h1, h2, h3, h4⟩ ho
  simp only at h1 h2 h3 h4
  rw [show (E12 κ).P = Pr κ from rfl]
  refine Eq.mpr (x39 κ a k i (setE vs) _ _ K) ?_
  simp only [and_self]
  have hl := h1.2
  simp only [out39l, end39, Out.run] at ho
  simp only [brn_iff, cnd_iff, decide_eq_true_eq, decide_eq_false_iff_not, Bool.and_eq_true, beq_iff_eq, beq_eq_false_iff_ne]
  refine ⟨fun hi => ⟨⟨h3, hi⟩, ?_⟩, fun hi => ?_⟩
  · have hlit := side_lit h1 (i := i.toNat) (by omega)
    rw [lts_drop a.bl i.toNat (by omega), elseB] at ho
    rw [wrap_ok (n := i + 1) (by omega) (by omega)]
    refine ⟨fun e => ?_, fun e => ?_⟩
    · subst e
      rw [Nat.beq_refl, cond_true, ← List.append_assoc] at ho
      have ht : tmsOf [exT 43 (fld (nth a.bl i.toNat) 2)] = [(ltOf (nth a.bl i.toNat)).x] := by
        simp only [tmsOf, List.map_cons, List.map_nil, tmOf_ex]; rfl
      have hc : cntL [(ltOf (nth a.bl i.toNat)).x] ≤ 100000 := by
        have : litC (ltOf (nth a.bl i.toNat)) = cntL [(ltOf (nth a.bl i.toNat)).x, (ltOf (nth a.bl i.toNat)).y] + cntL (ltOf (nth a.bl i.toNat)).a.l := rfl
        simp only [cntL] at this ⊢; omega
      have hv := varsL_le [(ltOf (nth a.bl i.toNat)).x]
      refine ⟨[exT 43 (fld (nth a.bl i.toNat) 2)], rfl, by simp only [side31a, ht]; exact hc, ⟨strs (varsL [(ltOf (nth a.bl i.toNat)).x]), setE vs⟩, ?_, ?_, _, ?_, ⟨a, i, i + 1, vs ++ varsL [(ltOf (nth a.bl i.toNat)).x]⟩, ?_, ⟨h1, h2, by simp only; omega, by simp only; omega⟩, rfl, ?_⟩
      · simp only [List.drop_zero, take_strs, ht]
      · simp only [side23, strs_len, maxI]; omega
      · simp only; omega
      · simp only [setE_app]
      · simp only [out39l, end39, Out.run, show (i + 1).toNat = i.toNat + 1 by omega]
        exact ho
    · rw [beq_ne (show i.toNat ≠ k.toNat by omega), cond_false, ← List.append_assoc] at ho
      have hv := varsL_le [(ltOf (nth a.bl i.toNat)).x, (ltOf (nth a.bl i.toNat)).y]
      have hv2 := varsL_le (ltOf (nth a.bl i.toNat)).a.l
      have hlen : (litV (ltOf (nth a.bl i.toNat))).length ≤ 100000 := by
        simp only [litV, litC, List.length_append] at hlit ⊢; omega
      refine ⟨laOf (nth a.bl i.toNat), rfl, by rw [side40, laOf_lt]; exact hlit, ⟨strs (litV (ltOf (nth a.bl i.toNat))), setE vs⟩, ?_, ?_, _, ?_, ⟨a, k, i + 1, vs ++ litV (ltOf (nth a.bl i.toNat))⟩, ?_, ⟨h1, h2, by simp only; omega, by simp only; omega⟩, rfl, ?_⟩
      · simp only [List.drop_zero, take_strs, laOf_lt]
      · simp only [side23, strs_len, maxI]; omega
      · simp only; omega
      · simp only [setE_app]
      · simp only [out39l, end39, Out.run, show (i + 1).toNat = i.toNat + 1 by omega]
        exact ho
  · rw [List.drop_eq_nil_of_le (by omega)] at ho
    simpa [ltsOf, elseB] using ho
noncomputable def E39l (κ : Kp) : Env := (E12 κ).addLoop 38 4 (loopE 0 st39l side39l out39l)
theorem e39l (κ : Kp) : EnvOK (E39l κ) := (e12 κ).addLoop (m12 κ) (l39 κ)
theorem m39l (κ : Kp) : EnvMono (E39l κ) := (m12 κ).addLoop loopE_mono
end Go.Proofs.YtpgahkbkfflkaaaGreatDoor
namespace Go.Proofs.YtpgahkbkfflkaaaGreatDoor
open Go Go.Dn Go.Rl Go.Proofs
attribute [local irreducible] funA vc
set_option maxRecDepth 20000
def keepO (ies : List (Value × AV)) (ees : List (Value × AV)) (s : ByteArray) : Bool := inS ies s && inS ees s
structure DO where
  vs : List ByteArray
  i : Int
  ies : List (Value × AV)
  ees : List (Value × AV)
abbrev strO (R : List AV) (ies : List (Value × AV)) (ees : List (Value × AV)) : List Dn.Obj := [.row 9 R, .box 65 (.mp 2), .map 9 4 ies, .box 65 (.mp 4), .map 9 4 ees]
abbrev cloO : AV := .clo 63 [.ptr 1 0 [] 0, .ptr 3 0 [] 0]
abbrev stFO (a : DO) : S := sp 19 [(0, .slc 0 0 (strs a.vs).length), (1, cloO), (7, .int (strs a.vs).length), (8, .int a.i)] (strO (strs a.vs) a.ies a.ees)
theorem xFO (κ : Kp) (a : DO) (I : Nat → S → Prop) (n : Nat) (K : Exit → S → Prop) : (vc (E39l κ) 12 59 none 5 (loopCode (Pr κ).toProgram 59 2) (stFO a) (loopK (E39l κ) 59 2 5 I n K)) = (
  brn (decide (DO.i a < (↑(List.length (strs (DO.vs a))) : Int))) (cnd (decide ((0 : Int) ≤ DO.i a) && decide (DO.i a < (↑(List.length (strs (DO.vs a))) : Int)))
  (brn (!Dn.toBool (getK (DO.ies a) (Value.string (toStr (nth (strs (DO.vs a)) (0 + Int.toNat (DO.i a))))) (AV.bool false))) (K Exit.ret (sp 19 [(4, AV.int (DO.i
  a))] [Obj.row 9 (strs (DO.vs a)), Obj.box 65 (AV.mp 2), Dn.Obj.map 9 4 (DO.ies a), Obj.box 65 (AV.mp 4), Dn.Obj.map 9 4 (DO.ees a)])) (brn (!Dn.toBool (getK
  (DO.ees a) (Value.string (toStr (nth (strs (DO.vs a)) (0 + Int.toNat (DO.i a))))) (AV.bool false))) (K Exit.ret (sp 19 [(4, AV.int (DO.i a))] [Obj.row 9 (strs
  (DO.vs a)), Obj.box 65 (AV.mp 2), Dn.Obj.map 9 4 (DO.ies a), Obj.box 65 (AV.mp 4), Dn.Obj.map 9 4 (DO.ees a)])) (∃ (m : Nat), m < n ∧ I m (sp 19 [(0, AV.slc 0
  0 (List.length (strs (DO.vs a)))), (1, AV.clo 63 [AV.ptr 1 0 [] 0, AV.ptr 3 0 [] 0]), (7, AV.int (↑(List.length (strs (DO.vs a))) : Int)), (8, AV.int
  (IntKind.wrap IntKind.i64 (DO.i a + (1 : Int))))] [Obj.row 9 (strs (DO.vs a)), Obj.box 65 (AV.mp 2), Dn.Obj.map 9 4 (DO.ies a), Obj.box 65 (AV.mp 4),
  Dn.Obj.map 9 4 (DO.ees a)]))))) (K (Exit.exit 0) (sp 19 [] [Obj.row 9 (strs (DO.vs a)), Obj.box 65 (AV.mp 2), Dn.Obj.map 9 4 (DO.ies a), Obj.box 65 (AV.mp 4),
  Dn.Obj.map 9 4 (DO.ees a)]))) := by kernel_rfl
def sideFO (a : DO) : Prop := a.vs.length ≤ maxI ∧ 0 ≤ a.i ∧ a.i ≤ a.vs.length ∧ ∀ s, s ∈ a.vs.take a.i.toNat → keepO a.ies a.ees s = true
def outFO (a : DO) : Out (Exit × S) :=
  .brn (a.vs.all (keepO a.ies a.ees)) (.one (.exit 0, sp 19 [] (strO (strs a.vs) a.ies a.ees)))
    (.all (fun j : Int => firstNot (keepO a.ies a.ees) a.vs j) fun j => .one (.ret, sp 19 [(4, .int j)] (strO (strs a.vs) a.ies a.ees)))
theorem lFO (κ : Kp) : LoopOk (E39l κ) 12 59 2 (loopE 5 stFO sideFO outFO) := by
  refine loopE_ok (fun a => a.vs.length - a.i.toNat) ?_
  rintro ⟨vs, i, ies, ees⟩ K ⟨h1, h2, h3, h4⟩ ho
  simp only at h1 h2 h3 h4
  rw [show (E39l κ).P = Pr κ from rfl]
  refine Eq.mpr (xFO κ ⟨vs, i, ies, ees⟩ _ _ K) ?_
  simp only [maxI] at h1
  simp only [outFO, Out.run, brn_iff] at ho
  have hl := strs_len vs
  simp only [strs_len, Nat.zero_add]
  have fin : i < vs.length → ∀ (hi : i.toNat < vs.length), (keepO ies ees vs[i.toNat] = false → K .ret (sp 19 [(4, .int i)] (strO (strs vs) ies ees))) ∧
      (keepO ies ees vs[i.toNat] = true → ∃ m, m < vs.length - i.toNat ∧ invOf stFO sideFO outFO (fun a => a.vs.length - a.i.toNat) K m (stFO ⟨vs, i + 1, ies, ees⟩)) := by
    intro hi0 hi
    refine ⟨fun e => ho.2 ?_ i ⟨h2, hi, h4, e⟩, fun e => ⟨_, ?_, ⟨vs, i + 1, ies, ees⟩, rfl, ⟨by simpa [maxI] using h1, by simp only; omega, by simp only; omega, ?_⟩, rfl, ?_⟩⟩
    · rw [Bool.eq_false_iff]
      intro hall
      rw [List.all_eq_true.1 hall _ (List.getElem_mem hi)] at e
      cases e
    · simp only; omega
    · intro s hs
      simp only at hs
      rw [show (i + 1).toNat = i.toNat + 1 by omega, List.take_succ_eq_append_getElem hi, List.mem_append, List.mem_singleton] at hs
      rcases hs with hs | hs
      · exact h4 s hs
      · rw [hs]; exact e
    · simp only [outFO, Out.run, brn_iff]
      exact ho
  simp only [brn_iff, cnd_iff, decide_eq_true_eq, decide_eq_false_iff_not, Bool.and_eq_true, Bool.not_eq_true', Bool.not_eq_false']
  refine ⟨fun hi => ⟨⟨h2, hi⟩, ?_⟩, fun hi => ?_⟩
  · have hi' : i.toNat < vs.length := by omega
    have hn : toStr (nth (strs vs) i.toNat) = vs[i.toNat] := by rw [strs_nth vs _ hi']; rfl
    rw [wrap_ok (n := i + 1) (by omega) (by omega), hn]
    have hf := fin hi hi'
    simp only [stFO, strs_len] at hf
    exact ⟨fun e => hf.1 (by unfold keepO inS; rw [e]; rfl), fun e => ⟨fun e2 => hf.1 (by unfold keepO inS; rw [e, e2]; rfl), fun e2 => hf.2 (by unfold keepO inS; rw [e, e2]; rfl)⟩⟩
  · refine ho.1 (List.all_eq_true.2 fun s hs => h4 s ?_)
    rw [List.take_of_length_le (by omega)]; exact hs
noncomputable def EFO (κ : Kp) : Env := (E39l κ).addLoop 59 2 (loopE 5 stFO sideFO outFO)
theorem eFO (κ : Kp) : EnvOK (EFO κ) := (e39l κ).addLoop (m39l κ) (lFO κ)
theorem mFO (κ : Kp) : EnvMono (EFO κ) := (m39l κ).addLoop loopE_mono
structure GO where
  R : List AV
  i : Int
  j : Int
  ies : List (Value × AV)
  ees : List (Value × AV)
  P : List ByteArray
  ws : List ByteArray
abbrev stGO (a : GO) : S := sp 42 [(0, .slc 0 0 a.R.length), (1, cloO), (5, .int a.i), (6, .int a.j)] (strO a.R a.ies a.ees)
theorem xGO (κ : Kp) (a : GO) (I : Nat → S → Prop) (n : Nat) (K : Exit → S → Prop) : (vc (EFO κ) 12 33 none 5 (loopCode (Pr κ).toProgram 33 5) (stGO a) (loopK (EFO κ) 33 5 5 I n K)) = (
  brn (decide (GO.j a < (↑(List.length (GO.R a)) : Int))) (cnd (decide ((0 : Int) ≤ GO.j a) && decide (GO.j a < (↑(List.length (GO.R a)) : Int))) (brn (!Dn.toBool
  (getK (GO.ies a) (Value.string (toStr (nth (GO.R a) (0 + Int.toNat (GO.j a))))) (AV.bool false))) (∃ (m : Nat), m < n ∧ I m (sp 42 [(0, AV.slc 0 0 (List.length
  (GO.R a))), (1, AV.clo 63 [AV.ptr 1 0 [] 0, AV.ptr 3 0 [] 0]), (5, AV.int (GO.i a)), (6, AV.int (IntKind.wrap IntKind.i64 (GO.j a + (1 : Int))))] [Obj.row 9
  (GO.R a), Obj.box 65 (AV.mp 2), Dn.Obj.map 9 4 (GO.ies a), Obj.box 65 (AV.mp 4), Dn.Obj.map 9 4 (GO.ees a)])) (brn (!!Dn.toBool (getK (GO.ees a) (Value.string
  (toStr (nth (GO.R a) (0 + Int.toNat (GO.j a))))) (AV.bool false))) (cnd (decide ((0 : Int) ≤ GO.i a) && decide (GO.i a < (↑(List.length (GO.R a)) : Int))) (∃
  (m : Nat), m < n ∧ I m (sp 42 [(0, AV.slc 0 0 (List.length (GO.R a))), (1, AV.clo 63 [AV.ptr 1 0 [] 0, AV.ptr 3 0 [] 0]), (5, AV.int (IntKind.wrap IntKind.i64
  (GO.i a + (1 : Int)))), (6, AV.int (IntKind.wrap IntKind.i64 (GO.j a + (1 : Int))))] [Obj.row 9 (setN (GO.R a) (0 + Int.toNat (GO.i a)) (AV.str (toStr (nth
  (GO.R a) (0 + Int.toNat (GO.j a)))))), Obj.box 65 (AV.mp 2), Dn.Obj.map 9 4 (GO.ies a), Obj.box 65 (AV.mp 4), Dn.Obj.map 9 4 (GO.ees a)]))) (∃ (m : Nat), m < n
  ∧ I m (sp 42 [(0, AV.slc 0 0 (List.length (GO.R a))), (1, AV.clo 63 [AV.ptr 1 0 [] 0, AV.ptr 3 0 [] 0]), (5, AV.int (GO.i a)), (6, AV.int (IntKind.wrap
  IntKind.i64 (GO.j a + (1 : Int))))] [Obj.row 9 (GO.R a), Obj.box 65 (AV.mp 2), Dn.Obj.map 9 4 (GO.ies a), Obj.box 65 (AV.mp 4), Dn.Obj.map 9 4 (GO.ees a)])))))
  (K (Exit.exit 0) (sp 42 [(0, AV.slc 0 0 (List.length (GO.R a))), (5, AV.int (GO.i a))] [Obj.row 9 (GO.R a), Obj.box 65 (AV.mp 2), Dn.Obj.map 9 4 (GO.ies a),
  Obj.box 65 (AV.mp 4), Dn.Obj.map 9 4 (GO.ees a)]))) := by kernel_rfl
def sideGO (a : GO) : Prop := a.R.length ≤ maxI ∧ 0 ≤ a.i ∧ a.i < a.j ∧ a.j ≤ a.R.length ∧ a.R.take a.i.toNat = strs a.P ∧ a.R.drop a.j.toNat = strs a.ws
def outGO (a : GO) : Out (Exit × S) := .all (fun R : List AV => R.length = a.R.length ∧ R.take (a.P ++ a.ws.filter (keepO a.ies a.ees)).length = strs (a.P ++ a.ws.filter (keepO a.ies a.ees)))
  fun R => .one (.exit 0, sp 42 [(0, .slc 0 0 a.R.length), (5, .int (a.P ++ a.ws.filter (keepO a.ies a.ees)).length)] (strO R a.ies a.ees))
theorem lGO (κ : Kp) : LoopOk (EFO κ) 12 33 5 (loopE 5 stGO sideGO outGO) := by
  refine loopE_ok (fun a => a.R.length - a.j.toNat) ?_
  rintro ⟨R, i, j, ies, ees, P, ws⟩ K ⟨h1, h2, h3, h4, h5, h6⟩ ho
  simp only at h1 h2 h3 h4 h5 h6
  rw [show (EFO κ).P = Pr κ from rfl]
  refine Eq.mpr (xGO κ ⟨R, i, j, ies, ees, P, ws⟩ _ _ K) ?_
  simp only [maxI] at h1
  simp only [outGO, Out.run] at ho
  simp only [Nat.zero_add]
  have hP : P.length = i.toNat := by
    have := congrArg List.length h5
    rw [List.length_take, strs_len] at this; omega
  have fin : ∀ (s : ByteArray) (l : List ByteArray), ws = s :: l → j < R.length → nth R j.toNat = .lit (.string s) →
      (keepO ies ees s = false → ∃ m, m < R.length - j.toNat ∧ invOf stGO sideGO outGO (fun a => a.R.length - a.j.toNat) K m (stGO ⟨R, i, j + 1, ies, ees, P, l⟩)) ∧
      (keepO ies ees s = true → ∃ m, m < R.length - j.toNat ∧ invOf stGO sideGO outGO (fun a => a.R.length - a.j.toNat) K m (stGO ⟨setN R i.toNat (.lit (.string s)), i + 1, j + 1, ies, ees, P ++ [s], l⟩)) := by
    rintro s l rfl hj hn
    obtain ⟨_, _, h7⟩ := nth_drop_cons (l := strs l) h6
    refine ⟨fun e => ⟨_, ?_, _, rfl, ⟨by simpa [maxI] using h1, h2, by simp only; omega, by simp only; omega, h5, ?_⟩, rfl, ?_⟩, fun e => ⟨_, ?_, _, rfl, ⟨by simpa [maxI, setN_len] using h1, by simp only; omega, by simp only; omega, by simp only [setN_len]; omega, ?_, ?_⟩, rfl, ?_⟩⟩
    · simp only; omega
    · simp only [show (j + 1).toNat = j.toNat + 1 by omega]; exact h7
    · intro y hy
      have := ho y
      simp only [List.filter_cons, e, Bool.false_eq_true, if_false] at hy this ⊢
      exact this hy
    · simp only [setN_len]; omega
    · simp only [show (i + 1).toNat = i.toNat + 1 by omega]
      rw [setN_take _ _ _ (by omega), h5, strs_app]; rfl
    · simp only [show (j + 1).toNat = j.toNat + 1 by omega]
      rw [setN_drop _ _ _ _ (by omega)]; exact h7
    · intro y hy
      have := ho y
      simp only [List.filter_cons, e, if_true, setN_len, List.append_assoc, List.singleton_append] at hy this ⊢
      exact this hy
  simp only [brn_iff, cnd_iff, decide_eq_true_eq, decide_eq_false_iff_not, Bool.and_eq_true, Bool.not_eq_true', Bool.not_eq_false']
  refine ⟨fun hj => ⟨⟨by omega, hj⟩, ?_⟩, fun hj => ?_⟩
  · cases ws with
    | nil =>
      have := congrArg List.length h6
      rw [List.length_drop, strs_len] at this
      simp at this; omega
    | cons s l =>
      obtain ⟨_, hn, _⟩ := nth_drop_cons (l := strs l) h6
      have hn' : toStr (nth R j.toNat) = s := by rw [hn]; rfl
      have hf := fin s l rfl hj hn
      simp only [stGO, setN_len] at hf
      rw [wrap_ok (n := i + 1) (by omega) (by omega), wrap_ok (n := j + 1) (by omega) (by omega), hn']
      exact ⟨fun e => hf.1 (by unfold keepO inS; rw [e]; rfl), fun e => ⟨fun e2 => ⟨⟨by omega, by omega⟩, hf.2 (by unfold keepO inS; rw [e, e2]; rfl)⟩, fun e2 => hf.1 (by unfold keepO inS; rw [e, e2]; rfl)⟩⟩
  · have hw : ws = [] := by
      have := congrArg List.length h6
      rw [List.length_drop, strs_len] at this
      cases ws with
      | nil => rfl
      | cons => simp at this; omega
    subst hw
    have := ho R ⟨rfl, by simp only [List.filter_nil, List.append_nil, hP]; exact h5⟩
    simp only [List.filter_nil, List.append_nil, hP, Int.toNat_of_nonneg h2] at this
    exact this
noncomputable def EGO (κ : Kp) : Env := (EFO κ).addLoop 33 5 (loopE 5 stGO sideGO outGO)
theorem eGO (κ : Kp) : EnvOK (EGO κ) := (eFO κ).addLoop (mFO κ) (lGO κ)
theorem mGO (κ : Kp) : EnvMono (EGO κ) := (mFO κ).addLoop loopE_mono
theorem yGO (κ : Kp) (a : DO) (K : AV → List Dn.Obj → Prop) : (funA (EGO κ) 12 33 [.slc 0 0 (strs a.vs).length, cloO] (strO (strs a.vs) a.ies a.ees) K) = (
  loopCode (Pg.toProgram (Env.P (E39l κ))) 59 2 = loopCode (Pg.toProgram (Env.P (E39l κ))) 59 2 ∧ ∃ (a_1 : DO), sp 19 [(0, AV.slc 0 0 (List.length (strs (DO.vs
  a)))), (1, AV.clo 63 [AV.ptr 1 0 [] 0, AV.ptr 3 0 [] 0]), (7, AV.int (↑(List.length (strs (DO.vs a))) : Int)), (8, AV.int 0)] [Obj.row 9 (strs (DO.vs a)),
  Obj.box 65 (AV.mp 2), Dn.Obj.map 9 4 (DO.ies a), Obj.box 65 (AV.mp 4), Dn.Obj.map 9 4 (DO.ees a)] = sp 19 [(0, AV.slc 0 0 (List.length (strs (DO.vs a_1)))),
  (1, AV.clo 63 [AV.ptr 1 0 [] 0, AV.ptr 3 0 [] 0]), (7, AV.int (↑(List.length (strs (DO.vs a_1))) : Int)), (8, AV.int (DO.i a_1))] [Obj.row 9 (strs (DO.vs
  a_1)), Obj.box 65 (AV.mp 2), Dn.Obj.map 9 4 (DO.ies a_1), Obj.box 65 (AV.mp 4), Dn.Obj.map 9 4 (DO.ees a_1)] ∧ (List.length (DO.vs a_1) ≤ 9223372036854775807 ∧
  (0 : Int) ≤ DO.i a_1 ∧ DO.i a_1 ≤ (↑(List.length (DO.vs a_1)) : Int) ∧ ∀ (s : ByteArray), List.Mem s (List.take (Int.toNat (DO.i a_1)) (DO.vs a_1)) → keepO
  (DO.ies a_1) (DO.ees a_1) s = true) ∧ brn (List.all (DO.vs a_1) (keepO (DO.ies a_1) (DO.ees a_1))) (K (AV.lst 9 (List.take (List.length (strs (DO.vs a)))
  (List.drop 0 (strs (DO.vs a_1))))) [Obj.frz 9 (strs (DO.vs a_1)), Obj.box 65 (AV.mp 2), Dn.Obj.map 9 4 (DO.ies a_1), Obj.box 65 (AV.mp 4), Dn.Obj.map 9 4
  (DO.ees a_1)]) (∀ (y : Int), ((0 : Int) ≤ y ∧ ∃ (h : Int.toNat y < List.length (DO.vs a_1)), (∀ (s : ByteArray), List.Mem s (List.take (Int.toNat y) (DO.vs
  a_1)) → keepO (DO.ies a_1) (DO.ees a_1) s = true) ∧ keepO (DO.ies a_1) (DO.ees a_1) (DO.vs a_1)[Int.toNat y] = false) → brn (y == (-1 : Int)) (K (AV.lst 9
  (List.take (List.length (strs (DO.vs a))) (List.drop 0 (strs (DO.vs a_1))))) [Obj.frz 9 (strs (DO.vs a_1)), Obj.box 65 (AV.mp 2), Dn.Obj.map 9 4 (DO.ies a_1),
  Obj.box 65 (AV.mp 4), Dn.Obj.map 9 4 (DO.ees a_1)]) (loopCode (Pg.toProgram (Env.P (EFO κ))) 33 5 = loopCode (Pg.toProgram (Env.P (EFO κ))) 33 5 ∧ ∃ (a_3 :
  GO), sp 42 [(0, AV.slc 0 0 (List.length (strs (DO.vs a)))), (1, AV.clo 63 [AV.ptr 1 0 [] 0, AV.ptr 3 0 [] 0]), (5, AV.int y), (6, AV.int (IntKind.wrap
  IntKind.i64 (y + (1 : Int))))] [Obj.row 9 (strs (DO.vs a_1)), Obj.box 65 (AV.mp 2), Dn.Obj.map 9 4 (DO.ies a_1), Obj.box 65 (AV.mp 4), Dn.Obj.map 9 4 (DO.ees
  a_1)] = sp 42 [(0, AV.slc 0 0 (List.length (GO.R a_3))), (1, AV.clo 63 [AV.ptr 1 0 [] 0, AV.ptr 3 0 [] 0]), (5, AV.int (GO.i a_3)), (6, AV.int (GO.j a_3))]
  [Obj.row 9 (GO.R a_3), Obj.box 65 (AV.mp 2), Dn.Obj.map 9 4 (GO.ies a_3), Obj.box 65 (AV.mp 4), Dn.Obj.map 9 4 (GO.ees a_3)] ∧ (List.length (GO.R a_3) ≤
  9223372036854775807 ∧ (0 : Int) ≤ GO.i a_3 ∧ GO.i a_3 < GO.j a_3 ∧ GO.j a_3 ≤ (↑(List.length (GO.R a_3)) : Int) ∧ List.take (Int.toNat (GO.i a_3)) (GO.R a_3) =
  strs (GO.P a_3) ∧ List.drop (Int.toNat (GO.j a_3)) (GO.R a_3) = strs (GO.ws a_3)) ∧ ∀ (y : List AV), List.length y = List.length (GO.R a_3) ∧ List.take
  (List.length (GO.P a_3 ++ List.filter (keepO (GO.ies a_3) (GO.ees a_3)) (GO.ws a_3))) y = strs (GO.P a_3 ++ List.filter (keepO (GO.ies a_3) (GO.ees a_3))
  (GO.ws a_3)) → cnd (true && decide ((↑(List.length (GO.P a_3 ++ List.filter (keepO (GO.ies a_3) (GO.ees a_3)) (GO.ws a_3))) : Int) ≤ (↑(List.length (GO.R a_3))
  : Int)) && decide ((↑(List.length (GO.R a_3)) : Int) ≤ (↑(List.length (GO.R a_3)) : Int))) (cnd (true && decide ((↑(List.length (GO.P a_3 ++ List.filter (keepO
  (GO.ies a_3) (GO.ees a_3)) (GO.ws a_3))) : Int) ≤ (↑(List.length (GO.R a_3)) : Int))) (K (AV.lst 9 (List.take (Int.toNat ((↑(List.length (GO.P a_3 ++
  List.filter (keepO (GO.ies a_3) (GO.ees a_3)) (GO.ws a_3))) : Int) - (0 : Int))) (List.drop 0 (clearL y (0 + Int.toNat (↑(List.length (GO.P a_3 ++ List.filter
  (keepO (GO.ies a_3) (GO.ees a_3)) (GO.ws a_3))) : Int)) (Int.toNat ((↑(List.length (GO.R a_3)) : Int) - (↑(List.length (GO.P a_3 ++ List.filter (keepO (GO.ies
  a_3) (GO.ees a_3)) (GO.ws a_3))) : Int))) (AV.str { data := #[] }))))) [Obj.frz 9 (clearL y (0 + Int.toNat (↑(List.length (GO.P a_3 ++ List.filter (keepO
  (GO.ies a_3) (GO.ees a_3)) (GO.ws a_3))) : Int)) (Int.toNat ((↑(List.length (GO.R a_3)) : Int) - (↑(List.length (GO.P a_3 ++ List.filter (keepO (GO.ies a_3)
  (GO.ees a_3)) (GO.ws a_3))) : Int))) (AV.str { data := #[] })), Obj.box 65 (AV.mp 2), Dn.Obj.map 9 4 (GO.ies a_3), Obj.box 65 (AV.mp 4), Dn.Obj.map 9 4 (GO.ees
  a_3)]))))) := by kernel_rfl
def st25O (a : DO) : List AV × List Dn.Obj := ([.slc 0 0 a.vs.length, cloO], strO (strs a.vs) a.ies a.ees)
def side25O (a : DO) : Prop := a.vs.length ≤ maxI
def out25O (a : DO) : Out (AV × List Dn.Obj) := .all (fun _ : List AV => True) fun R => .one (.lst 9 (strs (a.vs.filter (keepO a.ies a.ees))), [.frz 9 R, .box 65 (.mp 2), .map 9 4 a.ies, .box 65 (.mp 4), .map 9 4 a.ees])
theorem c25O (κ : Kp) : CallOk (EGO κ) 12 33 (callE st25O side25O out25O) := by
  refine callE_ok ?_
  rintro ⟨vs, i, ies, ees⟩ K h1 ho
  simp only [side25O] at h1
  simp only [st25O]
  rw [← strs_len vs]
  refine Eq.mpr (yGO κ ⟨vs, i, ies, ees⟩ K) ?_
  refine ⟨rfl, ⟨vs, 0, ies, ees⟩, rfl, ⟨h1, by simp only; omega, by simp only; omega, fun s hs => nomatch hs⟩, ?_⟩
  rw [brn_iff]
  refine ⟨fun e => ?_, fun e y hy => ?_⟩
  · have hf : vs.filter (keepO ies ees) = vs := List.filter_eq_self.2 (List.all_eq_true.1 e)
    have := ho (strs vs) trivial
    simp only [hf] at this
    rw [List.drop_zero, List.take_length]
    exact this
  · have hF := filter_first hy
    obtain ⟨h0, h2, h3, h4⟩ := hy
    simp only at h0 h2
    simp only [maxI] at h1
    rw [brn_iff, beq_iff_eq, beq_eq_false_iff_ne]
    refine ⟨fun e2 => by omega, fun _ => ⟨rfl, ⟨strs vs, y, y + 1, ies, ees, vs.take y.toNat, vs.drop (y.toNat + 1)⟩, ?_, ⟨by simp only [strs_len]; omega, h0, by simp only; omega, by simp only [strs_len]; omega, ?_, ?_⟩, ?_⟩⟩
    · rw [wrap_ok (n := y + 1) (by omega) (by omega)]
    · simp only [strs, List.map_take]
    · simp only [strs, List.map_drop, show (y + 1).toNat = y.toNat + 1 by omega]
    · rintro R ⟨r1, r2⟩
      simp only at r1 r2
      rw [← hF] at r2 ⊢
      have hle : (vs.filter (keepO ies ees)).length ≤ vs.length := List.length_filter_le _ _
      rw [cnd_iff, cnd_iff]
      refine ⟨by simp [strs_len, hle], by simp [strs_len, hle], ?_⟩
      have := ho (clearL R (0 + Int.toNat ((vs.filter (keepO ies ees)).length : Int)) (Int.toNat (((strs vs).length : Int) - ((vs.filter (keepO ies ees)).length : Int))) (.lit (.string (ByteArray.mk #[])))) trivial
      simp only [Int.toNat_natCast, Nat.zero_add, Int.sub_zero, List.drop_zero, clearL_take, r2] at this ⊢
      exact this
theorem d25O (κ : Kp) : ∀ args st K, callE st25O side25O out25O args st K → SimCall (Pr κ) 33 args st K := fun args st K h => fun_sound (eGO κ) (mGO κ) (c25O κ args st K h)
end Go.Proofs.YtpgahkbkfflkaaaGreatDoor
namespace Go.Proofs.YtpgahkbkfflkaaaGreatDoor
open Go Go.Dn Go.Rl Go.Proofs
attribute [local irreducible] funA vc
set_option maxRecDepth 20000
noncomputable def E25a (κ : Kp) : Env := (E39l κ).addCall 33 (callE st25O side25O out25O)
theorem e25a (κ : Kp) : EnvOK (E25a κ) := (e39l κ).addSim (d25O κ)
theorem m25a (κ : Kp) : EnvMono (E25a κ) := (m39l κ).addCall callE_mono
theorem y39 (κ : Kp) (a : A45) (k : Int) (K : AV → List Dn.Obj → Prop) : (funA (E25a κ) 12 38 [rl45 a, .int k] [] K) = (
  (∃ (a_1 : List AV), ([AV.lst 43 (A45.hl a)], nilO) = ([AV.lst 43 a_1], nilO) ∧ side31a a_1 ∧ ∃ (a_2 : List AV × List (Value × AV)), ([AV.mp 0, AV.lst 9
  (List.take (List.length (varsL (tmsOf a_1))) (List.drop 0 (strs (varsL (tmsOf a_1)))))], [Dn.Obj.map 9 4 []]) = ([AV.mp 0, AV.lst 9 (Prod.fst a_2)],
  [Dn.Obj.map 9 4 (Prod.snd a_2)]) ∧ side23 a_2 ∧ loopCode (Pg.toProgram (Env.P (E12 κ))) 38 4 = loopCode (Pg.toProgram (Env.P (E12 κ))) 38 4 ∧ ∃ (a_3 : A39), sp
  53 [(1, AV.int k), (2, AV.ptr 0 0 [] 0), (5, AV.ptr 1 0 [] 0), (17, AV.lst 46 (A45.bl a)), (18, AV.int (↑(List.length (A45.bl a)) : Int)), (19, AV.int 0)]
  [Obj.box 27 (AV.agg [AV.agg [AV.str (A45.rel a), AV.lst 43 (A45.hl a)], AV.lst 46 (A45.bl a), AV.int (A45.line a)]), Obj.box 65 (AV.mp 2), Dn.Obj.map 9 4 (putL
  (Prod.snd a_2) (Prod.fst a_2))] = sp 53 [(1, AV.int (A39.k a_3)), (2, AV.ptr 0 0 [] 0), (5, AV.ptr 1 0 [] 0), (17, AV.lst 46 (A45.bl (A39.a a_3))), (18, AV.int
  (↑(List.length (A45.bl (A39.a a_3))) : Int)), (19, AV.int (A39.i a_3))] [Obj.box 27 (AV.agg [AV.agg [AV.str (A45.rel (A39.a a_3)), AV.lst 43 (A45.hl (A39.a
  a_3))], AV.lst 46 (A45.bl (A39.a a_3)), AV.int (A45.line (A39.a a_3))]), Obj.box 65 (AV.mp 2), Dn.Obj.map 9 4 (setE (A39.vs a_3))] ∧ ((cntL (tmsOf (ruleTs 43
  (A45.hl (A39.a a_3)) (A45.bl (A39.a a_3)))) ≤ 100000 ∧ List.length (A45.bl (A39.a a_3)) ≤ 100000) ∧ (0 : Int) ≤ A39.k a_3 ∧ (0 : Int) ≤ A39.i a_3 ∧ A39.i a_3 ≤
  (↑(List.length (A45.bl (A39.a a_3))) : Int)) ∧ cnd (decide ((0 : Int) ≤ A39.k a_3) && decide (A39.k a_3 < (↑(List.length (A45.bl (A39.a a_3))) : Int))) ((∃ (a
  : List AV), ([AV.lst 43 (toLst (fld (fld (nth (A45.bl (A39.a a_3)) (Int.toNat (A39.k a_3))) 1) 1))], nilO) = ([AV.lst 43 a], nilO) ∧ side31a a ∧ ∃ (a_4 : List
  AV × List (Value × AV)), ([AV.mp 0, AV.lst 9 (List.take (List.length (varsL (tmsOf a))) (List.drop 0 (strs (varsL (tmsOf a)))))], [Dn.Obj.map 9 4 []]) =
  ([AV.mp 0, AV.lst 9 (Prod.fst a_4)], [Dn.Obj.map 9 4 (Prod.snd a_4)]) ∧ side23 a_4 ∧ ∃ (a : A45), ([AV.agg [AV.agg [AV.str (A45.rel (A39.a a_3)), AV.lst 43
  (A45.hl (A39.a a_3))], AV.lst 46 (A45.bl (A39.a a_3)), AV.int (A45.line (A39.a a_3))]], nilO) = ([AV.agg [AV.agg [AV.str (A45.rel a), AV.lst 43 (A45.hl a)],
  AV.lst 46 (A45.bl a), AV.int (A45.line a)]], nilO) ∧ (rightR (rOf a) = true ∧ cntL (tmsOf (ruleTs 43 (A45.hl a) (A45.bl a))) ≤ 100000 ∧ List.length (A45.bl a)
  ≤ 100000) ∧ ∃ (a_5 : DO), ([AV.slc 0 0 (List.length (varsR (rOf a))), AV.clo 63 [AV.ptr 1 0 [] 0, AV.ptr 3 0 [] 0]], [Obj.row 9 (strs (varsR (rOf a))), Obj.box
  65 (AV.mp 2), Dn.Obj.map 9 4 (putL (Prod.snd a_4) (Prod.fst a_4)), Obj.box 65 (AV.mp 4), Dn.Obj.map 9 4 (setE (end39 a_3))]) = ([AV.slc 0 0 (List.length (DO.vs
  a_5)), AV.clo 63 [AV.ptr 1 0 [] 0, AV.ptr 3 0 [] 0]], [Obj.row 9 (strs (DO.vs a_5)), Obj.box 65 (AV.mp 2), Dn.Obj.map 9 4 (DO.ies a_5), Obj.box 65 (AV.mp 4),
  Dn.Obj.map 9 4 (DO.ees a_5)]) ∧ side25O a_5 ∧ ∀ (y : List AV), True → K (AV.lst 9 (strs (List.filter (keepO (DO.ies a_5) (DO.ees a_5)) (DO.vs a_5)))) []) ∧ ∃
  (a : List AV), ([AV.lst 43 (toLst (fld (fld (nth (A45.bl (A39.a a_3)) (Int.toNat (A39.k a_3))) 1) 1))], nilO) = ([AV.lst 43 a], nilO) ∧ side31a a ∧ ∃ (a_4 :
  List AV × List (Value × AV)), ([AV.mp 0, AV.lst 9 (List.take (List.length (varsL (tmsOf a))) (List.drop 0 (strs (varsL (tmsOf a)))))], [Dn.Obj.map 9 4 []]) =
  ([AV.mp 0, AV.lst 9 (Prod.fst a_4)], [Dn.Obj.map 9 4 (Prod.snd a_4)]) ∧ side23 a_4 ∧ ∃ (a : A45), ([AV.agg [AV.agg [AV.str (A45.rel (A39.a a_3)), AV.lst 43
  (A45.hl (A39.a a_3))], AV.lst 46 (A45.bl (A39.a a_3)), AV.int (A45.line (A39.a a_3))]], nilO) = ([AV.agg [AV.agg [AV.str (A45.rel a), AV.lst 43 (A45.hl a)],
  AV.lst 46 (A45.bl a), AV.int (A45.line a)]], nilO) ∧ (rightR (rOf a) = true ∧ cntL (tmsOf (ruleTs 43 (A45.hl a) (A45.bl a))) ≤ 100000 ∧ List.length (A45.bl a)
  ≤ 100000) ∧ ∃ (a_5 : DO), ([AV.slc 0 0 (List.length (varsR (rOf a))), AV.clo 63 [AV.ptr 1 0 [] 0, AV.ptr 3 0 [] 0]], [Obj.row 9 (strs (varsR (rOf a))), Obj.box
  65 (AV.mp 2), Dn.Obj.map 9 4 (putL (Prod.snd a_4) (Prod.fst a_4)), Obj.box 65 (AV.mp 4), Dn.Obj.map 9 4 (setE (end39 a_3))]) = ([AV.slc 0 0 (List.length (DO.vs
  a_5)), AV.clo 63 [AV.ptr 1 0 [] 0, AV.ptr 3 0 [] 0]], [Obj.row 9 (strs (DO.vs a_5)), Obj.box 65 (AV.mp 2), Dn.Obj.map 9 4 (DO.ies a_5), Obj.box 65 (AV.mp 4),
  Dn.Obj.map 9 4 (DO.ees a_5)]) ∧ side25O a_5 ∧ ∀ (y : List AV), True → K (AV.lst 9 (strs (List.filter (keepO (DO.ies a_5) (DO.ees a_5)) (DO.vs a_5)))) [])) ∧ ∃
  (a_1 : List AV), ([AV.lst 43 (A45.hl a)], nilO) = ([AV.lst 43 a_1], nilO) ∧ side31a a_1 ∧ ∃ (a_2 : List AV × List (Value × AV)), ([AV.mp 0, AV.lst 9 (List.take
  (List.length (varsL (tmsOf a_1))) (List.drop 0 (strs (varsL (tmsOf a_1)))))], [Dn.Obj.map 9 4 []]) = ([AV.mp 0, AV.lst 9 (Prod.fst a_2)], [Dn.Obj.map 9 4
  (Prod.snd a_2)]) ∧ side23 a_2 ∧ loopCode (Pg.toProgram (Env.P (E12 κ))) 38 4 = loopCode (Pg.toProgram (Env.P (E12 κ))) 38 4 ∧ ∃ (a_3 : A39), sp 53 [(1, AV.int
  k), (2, AV.ptr 0 0 [] 0), (5, AV.ptr 1 0 [] 0), (17, AV.lst 46 (A45.bl a)), (18, AV.int (↑(List.length (A45.bl a)) : Int)), (19, AV.int 0)] [Obj.box 27 (AV.agg
  [AV.agg [AV.str (A45.rel a), AV.lst 43 (A45.hl a)], AV.lst 46 (A45.bl a), AV.int (A45.line a)]), Obj.box 65 (AV.mp 2), Dn.Obj.map 9 4 (putL (Prod.snd a_2)
  (Prod.fst a_2))] = sp 53 [(1, AV.int (A39.k a_3)), (2, AV.ptr 0 0 [] 0), (5, AV.ptr 1 0 [] 0), (17, AV.lst 46 (A45.bl (A39.a a_3))), (18, AV.int (↑(List.length
  (A45.bl (A39.a a_3))) : Int)), (19, AV.int (A39.i a_3))] [Obj.box 27 (AV.agg [AV.agg [AV.str (A45.rel (A39.a a_3)), AV.lst 43 (A45.hl (A39.a a_3))], AV.lst 46
  (A45.bl (A39.a a_3)), AV.int (A45.line (A39.a a_3))]), Obj.box 65 (AV.mp 2), Dn.Obj.map 9 4 (setE (A39.vs a_3))] ∧ ((cntL (tmsOf (ruleTs 43 (A45.hl (A39.a
  a_3)) (A45.bl (A39.a a_3)))) ≤ 100000 ∧ List.length (A45.bl (A39.a a_3)) ≤ 100000) ∧ (0 : Int) ≤ A39.k a_3 ∧ (0 : Int) ≤ A39.i a_3 ∧ A39.i a_3 ≤ (↑(List.length
  (A45.bl (A39.a a_3))) : Int)) ∧ cnd (decide ((0 : Int) ≤ A39.k a_3) && decide (A39.k a_3 < (↑(List.length (A45.bl (A39.a a_3))) : Int))) ((∃ (a : List AV),
  ([AV.lst 43 (toLst (fld (fld (nth (A45.bl (A39.a a_3)) (Int.toNat (A39.k a_3))) 1) 1))], nilO) = ([AV.lst 43 a], nilO) ∧ side31a a ∧ ∃ (a_4 : List AV × List
  (Value × AV)), ([AV.mp 0, AV.lst 9 (List.take (List.length (varsL (tmsOf a))) (List.drop 0 (strs (varsL (tmsOf a)))))], [Dn.Obj.map 9 4 []]) = ([AV.mp 0,
  AV.lst 9 (Prod.fst a_4)], [Dn.Obj.map 9 4 (Prod.snd a_4)]) ∧ side23 a_4 ∧ ∃ (a : A45), ([AV.agg [AV.agg [AV.str (A45.rel (A39.a a_3)), AV.lst 43 (A45.hl (A39.a
  a_3))], AV.lst 46 (A45.bl (A39.a a_3)), AV.int (A45.line (A39.a a_3))]], nilO) = ([AV.agg [AV.agg [AV.str (A45.rel a), AV.lst 43 (A45.hl a)], AV.lst 46 (A45.bl
  a), AV.int (A45.line a)]], nilO) ∧ (rightR (rOf a) = true ∧ cntL (tmsOf (ruleTs 43 (A45.hl a) (A45.bl a))) ≤ 100000 ∧ List.length (A45.bl a) ≤ 100000) ∧ ∃ (a_5
  : DO), ([AV.slc 0 0 (List.length (varsR (rOf a))), AV.clo 63 [AV.ptr 1 0 [] 0, AV.ptr 3 0 [] 0]], [Obj.row 9 (strs (varsR (rOf a))), Obj.box 65 (AV.mp 2),
  Dn.Obj.map 9 4 (putL (Prod.snd a_4) (Prod.fst a_4)), Obj.box 65 (AV.mp 4), Dn.Obj.map 9 4 (setE (end39 a_3))]) = ([AV.slc 0 0 (List.length (DO.vs a_5)), AV.clo
  63 [AV.ptr 1 0 [] 0, AV.ptr 3 0 [] 0]], [Obj.row 9 (strs (DO.vs a_5)), Obj.box 65 (AV.mp 2), Dn.Obj.map 9 4 (DO.ies a_5), Obj.box 65 (AV.mp 4), Dn.Obj.map 9 4
  (DO.ees a_5)]) ∧ side25O a_5 ∧ ∀ (y : List AV), True → K (AV.lst 9 (strs (List.filter (keepO (DO.ies a_5) (DO.ees a_5)) (DO.vs a_5)))) []) ∧ ∃ (a : List AV),
  ([AV.lst 43 (toLst (fld (fld (nth (A45.bl (A39.a a_3)) (Int.toNat (A39.k a_3))) 1) 1))], nilO) = ([AV.lst 43 a], nilO) ∧ side31a a ∧ ∃ (a_4 : List AV × List
  (Value × AV)), ([AV.mp 0, AV.lst 9 (List.take (List.length (varsL (tmsOf a))) (List.drop 0 (strs (varsL (tmsOf a)))))], [Dn.Obj.map 9 4 []]) = ([AV.mp 0,
  AV.lst 9 (Prod.fst a_4)], [Dn.Obj.map 9 4 (Prod.snd a_4)]) ∧ side23 a_4 ∧ ∃ (a : A45), ([AV.agg [AV.agg [AV.str (A45.rel (A39.a a_3)), AV.lst 43 (A45.hl (A39.a
  a_3))], AV.lst 46 (A45.bl (A39.a a_3)), AV.int (A45.line (A39.a a_3))]], nilO) = ([AV.agg [AV.agg [AV.str (A45.rel a), AV.lst 43 (A45.hl a)], AV.lst 46 (A45.bl
  a), AV.int (A45.line a)]], nilO) ∧ (rightR (rOf a) = true ∧ cntL (tmsOf (ruleTs 43 (A45.hl a) (A45.bl a))) ≤ 100000 ∧ List.length (A45.bl a) ≤ 100000) ∧ ∃ (a_5
  : DO), ([AV.slc 0 0 (List.length (varsR (rOf a))), AV.clo 63 [AV.ptr 1 0 [] 0, AV.ptr 3 0 [] 0]], [Obj.row 9 (strs (varsR (rOf a))), Obj.box 65 (AV.mp 2),
  Dn.Obj.map 9 4 (putL (Prod.snd a_4) (Prod.fst a_4)), Obj.box 65 (AV.mp 4), Dn.Obj.map 9 4 (setE (end39 a_3))]) = ([AV.slc 0 0 (List.length (DO.vs a_5)), AV.clo
  63 [AV.ptr 1 0 [] 0, AV.ptr 3 0 [] 0]], [Obj.row 9 (strs (DO.vs a_5)), Obj.box 65 (AV.mp 2), Dn.Obj.map 9 4 (DO.ies a_5), Obj.box 65 (AV.mp 4), Dn.Obj.map 9 4
  (DO.ees a_5)]) ∧ side25O a_5 ∧ ∀ (y : List AV), True → K (AV.lst 9 (strs (List.filter (keepO (DO.ies a_5) (DO.ees a_5)) (DO.vs a_5)))) [])) := by kernel_rfl
def st39 (a : A45 × Int) : List AV × List Dn.Obj := ([rl45 a.1, .int a.2], [])
def side39 (a : A45 × Int) : Prop := rightR (rOf a.1) = true ∧ side42 a.1 ∧ 0 ≤ a.2 ∧ a.2 < a.1.bl.length
def out39 (a : A45 × Int) : Out (AV × List Dn.Obj) := .one (.lst 9 (strs (outerV (rOf a.1) a.2.toNat)), [])
theorem c39 (κ : Kp) : CallOk (E25a κ) 12 38 (callE st39 side39 out39) := by
  refine callE_ok ?_
  rintro ⟨a, k⟩ K ⟨h1, h2, h3, h4⟩ ho
  refine Eq.mpr (y39 κ a k K) ?_
  simp only at h1 h2 h3 h4
  have hc := side_hl h2
  have hv := varsL_le (tmsOf a.hl)
  have hk : k.toNat < a.bl.length := by omega
  have hlit := side_lit h2 hk
  simp only [and_self]
  refine ⟨a.hl, rfl, hc, ⟨strs (varsL (tmsOf a.hl)), []⟩, ?_, ?_, trivial, ⟨a, k, 0, varsL (tmsOf a.hl)⟩, rfl, ⟨h2, h3, by simp only; omega, by simp only; omega⟩, ?_⟩
  · simp only [List.drop_zero, take_strs]
  · simp only [side23, strs_len, maxI]; omega
  rw [cnd_iff, Bool.and_eq_true, decide_eq_true_eq, decide_eq_true_eq]
  have hin : varsL (tmsOf (toLst (fld (fld (nth a.bl k.toNat) 1) 1))) = varsL (nthLt (rOf a).body k.toNat).a.l := by
    rw [show (rOf a).body = ltsOf a.bl from rfl, nthLt_lts _ hk, lt_eq]
  have hcl : cntL (tmsOf (toLst (fld (fld (nth a.bl k.toNat) 1) 1))) ≤ 100000 := by
    rw [lt_eq] at hlit
    simp only [litC] at hlit; omega
  have hvl := varsL_le (tmsOf (toLst (fld (fld (nth a.bl k.toNat) 1) 1)))
  refine ⟨⟨h3, h4⟩, _, rfl, hcl, ⟨strs (varsL (tmsOf (toLst (fld (fld (nth a.bl k.toNat) 1) 1)))), []⟩, ?_, ?_, a, rfl, ⟨h1, h2⟩, ⟨varsR (rOf a), 0, putL [] (strs (varsL (tmsOf (toLst (fld (fld (nth a.bl k.toNat) 1) 1))))), setE (end39 ⟨a, k, 0, varsL (tmsOf a.hl)⟩)⟩, rfl, ?_, ?_⟩
  · simp only [List.drop_zero, take_strs]
  · simp only [side23, strs_len, maxI]; omega
  · have h5 : (ruleV (rOf a)).length ≤ 100000 := by
      have h6 := varsL_le (tmsOf (ruleTs 43 a.hl a.bl))
      rw [ruleTs_vars 43 a.rel a.hl a.bl] at h6
      exact Nat.le_trans h6 h2.1
    have h7 := ddup_len (ruleV (rOf a)) []
    simp only [side25O, varsR, h1, cond_true, maxI]; omega
  · intro R _
    have hk2 : (fun s => keepO (putL [] (strs (varsL (tmsOf (toLst (fld (fld (nth a.bl k.toNat) 1) 1)))))) (setE (end39 ⟨a, k, 0, varsL (tmsOf a.hl)⟩)) s) = fun v => (varsL (nthLt (rOf a).body k.toNat).a.l).contains v && (elseV (rOf a) k.toNat).contains v := by
      funext s
      unfold keepO
      rw [inS_set, hin]
      congr 1
      exact inS_set _ s
    have hk3 : List.filter (keepO (putL [] (strs (varsL (tmsOf (toLst (fld (fld (nth a.bl k.toNat) 1) 1)))))) (setE (end39 ⟨a, k, 0, varsL (tmsOf a.hl)⟩))) (varsR (rOf a)) = outerV (rOf a) k.toNat := by
      unfold outerV
      exact congrFun (congrArg _ hk2) _
    simp only [hk3]
    exact ho
noncomputable def E39 (κ : Kp) : Env := (E25a κ).addCall 38 (callE st39 side39 out39)
theorem e39 (κ : Kp) : EnvOK (E39 κ) := (e25a κ).addCall (m25a κ) (c39 κ)
theorem m39 (κ : Kp) : EnvMono (E39 κ) := (m25a κ).addCall callE_mono
end Go.Proofs.YtpgahkbkfflkaaaGreatDoor
