import Derived.Test.YtdpmikfheebicaaGreatDoorDqM2
import Derived.Test.YtdpmikfheebicaaGreatDoorDqM1
namespace Go.Proofs.YtdpmikfheebicaaGreatDoor
open Go Go.Dn Go.Rl Go.Proofs
attribute [local irreducible] a9 vc
set_option maxRecDepth 20000
structure B5 where
 xs : List AV
 more : List AV
 t : AV
 m : List AV
 i : Int
abbrev Gx (a : B5) : AV := oM 52 (nth a.m a.i.toNat)
def M1 : List Nat := [120, 170, 158]
def Kx (a : AV) : List AV × List Dn.Obj := ([.dv 0, .ptr 1 0 [] 0], [.ext (some (ou 52 a)), .box 52 (oM 52 a)])
def Mx (n : Nat) (a : AV) : Prop := (bI a).gF = n ∧ n ≤ 100000
def DW (_ : AV) : Out (AV × List Dn.Obj) := .all (fun st' => Ar st') fun st' => .one (.bR [], st')
def Hf (n : Nat) : ez := a8 Kx (Mx n) DW
noncomputable def Ah (κ : Kp) (r : Nat) : Env := (QW κ).ar 170 fun args st K => ∃ m, m < r ∧ Hf m args st K
noncomputable abbrev Qo (a : B5) (κ : Kp) (st : LoopState) (p : Option Code) : Dn.Obj :=
 .loop (oP (Pr κ).toProgram 170 6 st p (nZ (dc 25) [(2, .ptr 2 0 [] 0), (4, .ptr 3 0 [] 0), (11, .ae 52 a.m), (12, .int a.m.length), (13, .int a.i), (14, .bool true),
  (15, .jH 52 (nth a.m a.i.toNat)), (16, Gx a), (17, Gx a), (18, .dq 170 [.ptr 4 0 [] 0])]))
noncomputable abbrev oN (κ : Kp) (a : B5) : List Dn.Obj := [.ext (some a.xs), .box 52 (oM 52 a.t), .box 178 (.dv 0), .box 52 (Gx a), .box 52 (Gx a), Qo a κ .ready none]
noncomputable abbrev yZ (κ : Kp) (a : B5) (o : Option (List AV)) (st : LoopState) (p : Option Code) : List Dn.Obj := [.ext o, .box 52 (oM 52 a.t), .box 178 (.dv 0), .box 52 (Gx a), .dead, Qo a κ st p]
theorem s56 (κ : Kp) (a : B5) (Q : List Dn.Obj → Prop) : (tidy (Pr κ).toProgram 6 (eC (oN κ a) (ec (oN κ a) [.ptr 4 0 [] 0])) Q) = (
 letI z1 := nth a.m a.i.toNat
 letI z2 := toInt (ad z1 0)
 letI z3 := toStr (ad z1 1)
 letI z4 := toInt (ad z1 2)
 letI z5 := ah (ad z1 3)
 Q [Obj.ext (some a.xs), Obj.box 52 (AV.agg [AV.int (toInt (ad a.t 0)), AV.str (toStr (ad a.t 1)), AV.int (toInt (ad a.t 2)), AV.ae 52 (ah (ad a.t 3))]), Obj.box
 178 (AV.dv 0), Obj.box 52 (AV.agg [AV.int z2, AV.str z3, AV.int z4, AV.ae 52 z5]), Obj.dead, Dn.Obj.loop (oP Tryz.prog 170 6 LoopState.ready none (nZ (dc 25)
 [(2, AV.ptr 2 0 [] 0), (4, AV.ptr 3 0 [] 0), (11, AV.ae 52 a.m), (12, AV.int (↑(a.m.length) : Int)), (13, AV.int a.i), (14, AV.bool true), (15, AV.jH 52 z1),
 (16, AV.agg [AV.int z2, AV.str z3, AV.int z4, AV.ae 52 z5]), (17, AV.agg [AV.int z2, AV.str z3, AV.int z4, AV.ae 52 z5]), (18, AV.dq 170 [AV.ptr 4 0 [] 0])]))]) := by kernel_rfl
theorem r56 (κ : Kp) (r : Nat) (a : B5) (o : List AV) (u : AV) (Q : List Dn.Obj → Prop) (K2 : List Dn.Obj → Prop) : (j7 (vc (Ah κ r) 12) 5 [oM 52 u] (yZ κ a (some o) .ready none) (fun r st'' => match r with | .lit (.bool true) => tidy (Pr κ).toProgram 6 st'' Q | .lit (.bool false) => K2 st'' | _ => False)) = (
 letI z2 := nth a.m a.i.toNat
 letI z3 := AV.agg [AV.int (toInt (ad a.t 0)), AV.str (toStr (ad a.t 1)), AV.int (toInt (ad a.t 2)), AV.ae 52 (ah (ad a.t 3))]
 letI z5 := toInt (ad z2 0)
 letI z6 := toStr (ad z2 1)
 letI z7 := toInt (ad z2 2)
 letI z8 := ah (ad z2 3)
 letI z1 := nZ (dc 25) [(2, AV.ptr 2 0 [] 0), (4, AV.ptr 3 0 [] 0), (11, AV.ae 52 a.m), (12, AV.int (↑(a.m.length) : Int)), (13, AV.int a.i), (14, AV.bool true),
  (15, AV.jH 52 z2), (16, AV.agg [AV.int z5, AV.str z6, AV.int z7, AV.ae 52 z8]), (17, AV.agg [AV.int z5, AV.str z6, AV.int z7, AV.ae 52 z8]), (18, AV.dq 170
  [AV.ptr 4 0 [] 0])]
 letI z4 := AV.agg [AV.int z5, AV.str z6, AV.int z7, AV.ae 52 z8]
 ∃ (rest : List AV), o = AV.bR [AV.agg [AV.int (toInt (ad u 0)), AV.str (toStr (ad u 1)), AV.int (toInt (ad u 2)), AV.ae 52 (ah (ad u 3))]] :: rest ∧ Q [Obj.ext
 (some rest), Obj.box 52 z3, Obj.box 178 (AV.dv 0), Obj.box 52 z4, Obj.dead, Dn.Obj.loop (oP Tryz.prog 170 6 LoopState.ready none z1)] ∧ K2 [Obj.ext none,
 Obj.box 52 z3, Obj.box 178 (AV.dv 0), Obj.box 52 z4, Obj.dead, Dn.Obj.loop (oP Tryz.prog 170 6 LoopState.done (some Code.ret) z1), Obj.box 52 (AV.agg [AV.int
 (toInt (ad u 0)), AV.str (toStr (ad u 1)), AV.int (toInt (ad u 2)), AV.ae 52 (ah (ad u 3))])]) := by kernel_rfl
theorem V4 (κ : Kp) (a : B5) (xs : List AV) : (AV.dv 0 :: gB (my (ec (oN κ a) [.ptr 4 0 [] 0])) [.ptr 4 0 [] 0], Obj.ext (some xs) :: ic (my (ec (oN κ a) [.ptr 4 0 [] 0])) (iB (oN κ a) (ec (oN κ a) [.ptr 4 0 [] 0]))) = ([.dv 0, .ptr 1 0 [] 0], [.ext (some xs), .box 52 (Gx a)]) := by kernel_rfl
theorem VG (κ : Kp) (a : B5) : vo (oN κ a) [.ptr 4 0 [] 0] = true := by kernel_rfl
noncomputable def Hs (κ : Kp) (r : Nat) : fN := fun caps st K => ∃ a : B5, (caps, st) = ([AV.ptr 4 0 [] 0], oN κ a) ∧ ((bI (nth a.m a.i.toNat)).gF < r ∧ (bI (nth a.m a.i.toNat)).gF ≤ 100000 ∧ a.xs = ou 52 (nth a.m a.i.toNat) ++ a.more) ∧
 (K (yZ κ a (some a.more) .ready none) ∧ ∀ u : AV, K (yZ κ a none .done (some .ret) ++ [.box 52 (oM 52 u)]))
theorem CW (κ : Kp) (r : Nat) : (Hs κ r).ot := by
 rintro caps st K K' hK ⟨a, h1, h2, h3, h4⟩
 exact ⟨a, h1, h2, hK _ h3, fun u => hK _ (h4 u)⟩
theorem Kl (κ : Kp) (r : Nat) (args : List AV) (st : List Dn.Obj) (K : AV → List Dn.Obj → Prop) (h : ∃ m, m < r ∧ Hf m args st K) : (Ah κ r).call 170 args st K := h
theorem Rc (κ : Kp) (r : Nat) : qc (Ah κ r) 12 170 (Hs κ r) := by
 rintro caps st K ⟨a, h1, ⟨h2, h3, h4⟩, h5, h6⟩
 obtain ⟨rfl, rfl⟩ := Prod.mk.inj h1
 refine ⟨ou 52 (nth a.m a.i.toNat), fun items st' => (∀ x, x ∈ items → rH 52 x) ∧ st' = yZ κ a (some (items ++ a.more)) .ready none, ⟨VG κ a, ?_, ?_, ?_, ?_⟩⟩
 ·refine Kl κ r _ _ _ ⟨_, h2, nth a.m a.i.toNat, ?_, ⟨rfl, h3⟩, fun st' h => h⟩
  rw [V4]; rfl
 ·rw [show (Ah κ r).P = Pr κ from rfl, show (oN κ a).length = 6 from rfl, s56]
  exact ⟨mo _ _ _ (Nat.lt_succ_self _), by rw [h4]; rfl⟩
 ·rintro us rest st' ⟨e1, rfl⟩
  obtain ⟨u, hu⟩ := e1 (.bR us) (by simp)
  obtain rfl := AV.bR.inj hu
  rw [show (Ah κ r).P = Pr κ from rfl, show (oN κ a).length = 6 from rfl]
  refine Eq.mpr (r56 κ r a _ u _ _) ?_
  exact ⟨_, rfl, ⟨fun x hx => e1 x (by simp [hx]), rfl⟩, h6 u⟩
 ·rintro st' ⟨_, rfl⟩
  exact h5
noncomputable def xV (κ : Kp) (r : Nat) : Env := ((Ah κ r).addRange 170 6 170 (Hs κ r)).eZ (fun f => mw f M1)
theorem Ob (κ : Kp) (r : Nat) : ai (Ah κ r) := (Ux κ).ar (fun _ _ _ _ hK ⟨m, h1, h2⟩ => ⟨m, h1, aJ _ _ _ _ hK h2⟩)
theorem YG (κ : Kp) (r : Nat) (a : B5) (I : Nat → S → Prop) (n : Nat) (K : Exit → S → Prop) : (vc (xV κ r) 12 170 none 2 (ag (Pr κ).toProgram 170 3) (sp 25 [(2, .ptr 2 0 [] 0), (11, .ae 52 a.m), (12, .int a.m.length), (13, .int a.i)] [.ext (some a.xs), .box 52 (oM 52 a.t), .box 178 (.dv 0)]) (bC (xV κ r) 170 3 2 I n K)) = (
 letI z1 := AV.agg [AV.int (toInt (ad a.t 0)), AV.str (toStr (ad a.t 1)), AV.int (toInt (ad a.t 2)), AV.ae 52 (ah (ad a.t 3))]
 ax (decide (a.i < (↑(a.m.length) : Int))) (aZ (decide ((0 : Int) ≤ a.i) && decide (a.i < (↑(a.m.length) : Int))) (∃ (a_1 : B5), ([AV.ptr 4 0 [] 0], [Obj.ext
 (some a.xs), Obj.box 52 z1, Obj.box 178 (AV.dv 0), Obj.box 52 (AV.agg [AV.int (toInt (ad (nth a.m a.i.toNat) 0)), AV.str (toStr (ad (nth a.m a.i.toNat) 1)),
 AV.int (toInt (ad (nth a.m a.i.toNat) 2)), AV.ae 52 (ah (ad (nth a.m a.i.toNat) 3))]), Obj.box 52 (AV.agg [AV.int (toInt (ad (nth a.m a.i.toNat) 0)), AV.str
 (toStr (ad (nth a.m a.i.toNat) 1)), AV.int (toInt (ad (nth a.m a.i.toNat) 2)), AV.ae 52 (ah (ad (nth a.m a.i.toNat) 3))]), Dn.Obj.loop (oP Tryz.prog 170 6
 LoopState.ready none (nZ (dc 25) [(2, AV.ptr 2 0 [] 0), (4, AV.ptr 3 0 [] 0), (11, AV.ae 52 a.m), (12, AV.int (↑(a.m.length) : Int)), (13, AV.int a.i), (14,
 AV.bool true), (15, AV.jH 52 (nth a.m a.i.toNat)), (16, AV.agg [AV.int (toInt (ad (nth a.m a.i.toNat) 0)), AV.str (toStr (ad (nth a.m a.i.toNat) 1)), AV.int
 (toInt (ad (nth a.m a.i.toNat) 2)), AV.ae 52 (ah (ad (nth a.m a.i.toNat) 3))]), (17, AV.agg [AV.int (toInt (ad (nth a.m a.i.toNat) 0)), AV.str (toStr (ad (nth
 a.m a.i.toNat) 1)), AV.int (toInt (ad (nth a.m a.i.toNat) 2)), AV.ae 52 (ah (ad (nth a.m a.i.toNat) 3))]), (18, AV.dq 170 [AV.ptr 4 0 [] 0])]))]) = ([AV.ptr 4 0
 [] 0], [Obj.ext (some a_1.xs), Obj.box 52 (AV.agg [AV.int (toInt (ad a_1.t 0)), AV.str (toStr (ad a_1.t 1)), AV.int (toInt (ad a_1.t 2)), AV.ae 52 (ah (ad a_1.t
 3))]), Obj.box 178 (AV.dv 0), Obj.box 52 (AV.agg [AV.int (toInt (ad (nth a_1.m a_1.i.toNat) 0)), AV.str (toStr (ad (nth a_1.m a_1.i.toNat) 1)), AV.int (toInt
 (ad (nth a_1.m a_1.i.toNat) 2)), AV.ae 52 (ah (ad (nth a_1.m a_1.i.toNat) 3))]), Obj.box 52 (AV.agg [AV.int (toInt (ad (nth a_1.m a_1.i.toNat) 0)), AV.str
 (toStr (ad (nth a_1.m a_1.i.toNat) 1)), AV.int (toInt (ad (nth a_1.m a_1.i.toNat) 2)), AV.ae 52 (ah (ad (nth a_1.m a_1.i.toNat) 3))]), Dn.Obj.loop (oP Tryz.prog
 170 6 LoopState.ready none (nZ (dc 25) [(2, AV.ptr 2 0 [] 0), (4, AV.ptr 3 0 [] 0), (11, AV.ae 52 a_1.m), (12, AV.int (↑(a_1.m.length) : Int)), (13, AV.int
 a_1.i), (14, AV.bool true), (15, AV.jH 52 (nth a_1.m a_1.i.toNat)), (16, AV.agg [AV.int (toInt (ad (nth a_1.m a_1.i.toNat) 0)), AV.str (toStr (ad (nth a_1.m
 a_1.i.toNat) 1)), AV.int (toInt (ad (nth a_1.m a_1.i.toNat) 2)), AV.ae 52 (ah (ad (nth a_1.m a_1.i.toNat) 3))]), (17, AV.agg [AV.int (toInt (ad (nth a_1.m
 a_1.i.toNat) 0)), AV.str (toStr (ad (nth a_1.m a_1.i.toNat) 1)), AV.int (toInt (ad (nth a_1.m a_1.i.toNat) 2)), AV.ae 52 (ah (ad (nth a_1.m a_1.i.toNat) 3))]),
 (18, AV.dq 170 [AV.ptr 4 0 [] 0])]))]) ∧ (Tm.gF (bI (nth a_1.m a_1.i.toNat)) < r ∧ Tm.gF (bI (nth a_1.m a_1.i.toNat)) ≤ 100000 ∧ a_1.xs = ou 52 (nth a_1.m
 a_1.i.toNat) ++ a_1.more) ∧ (∃ (m : Nat), m < n ∧ I m (sp 25 [(2, AV.ptr 2 0 [] 0), (11, AV.ae 52 a.m), (12, AV.int (↑(a.m.length) : Int)), (13, AV.int
 (IntKind.wrap IntKind.i64 (a.i + (1 : Int))))] [Obj.ext (some a_1.more), Obj.box 52 (AV.agg [AV.int (toInt (ad a_1.t 0)), AV.str (toStr (ad a_1.t 1)), AV.int
 (toInt (ad a_1.t 2)), AV.ae 52 (ah (ad a_1.t 3))]), Obj.box 178 (AV.dv 0)])) ∧ ∀ (u : AV), K Exit.ret (sp 25 [] [Obj.ext none, Obj.box 52 (AV.agg [AV.int (toInt
 (ad a_1.t 0)), AV.str (toStr (ad a_1.t 1)), AV.int (toInt (ad a_1.t 2)), AV.ae 52 (ah (ad a_1.t 3))])]))) (K (Exit.exit 0) (sp 25 [] [Obj.ext (some a.xs),
 Obj.box 52 z1]))) := by kernel_rfl
abbrev Mc (a : B5) : S := sp 25 [(2, .ptr 2 0 [] 0), (11, .ae 52 a.m), (12, .int a.m.length), (13, .int a.i)] [.ext (some a.xs), .box 52 (oM 52 a.t), .box 178 (.dv 0)]
def DS (r : Nat) (a : B5) : Prop := a.m.length ≤ aI ∧ 0 ≤ a.i ∧ a.i ≤ a.m.length ∧ aH (aa (a.m.drop a.i.toNat)) < r ∧ aH (aa (a.m.drop a.i.toNat)) ≤ 100000 ∧ a.xs = fv 52 (a.m.drop a.i.toNat)
def Jq (a : B5) : Out (Exit × S) := .all (fun _ : Bool => True) fun b => .ax b (.one (.exit 0, sp 25 [] [.ext (some []), .box 52 (oM 52 a.t)])) (.one (.ret, sp 25 [] [.ext none, .box 52 (oM 52 a.t)]))
theorem ur (l : List AV) (i : Nat) (h : i < l.length) : aH (aa (l.drop i)) = (bI (nth l i)).gF + aH (aa (l.drop (i + 1))) := by
 rw [cy l i h, aH]
theorem ZX (κ : Kp) (r : Nat) : bg (xV κ r) 12 170 3 (aK 2 Mc (DS r) Jq) := by
 refine aO (fun a => a.m.length - a.i.toNat) ?_
 rintro ⟨xs, more, t, m, i⟩ K ⟨h1, h2, h3, h4, h5, h6⟩ ho
 simp only at h1 h2 h3 h4 h5 h6
 rw [show (xV κ r).P = Pr κ from rfl]
 refine Eq.mpr (YG κ r ⟨xs, more, t, m, i⟩ _ _ K) ?_
 have ho1 := ho true trivial
 have ho2 := ho false trivial
 simp only [Out.run, ax] at ho1 ho2
 simp only [aI] at h1
 simp only [af, aq, aa0, aa2, aa1]
 refine ⟨fun hi => ⟨⟨h2, hi⟩, ?_⟩, fun hi => ?_⟩
 ·have hc := ur m i.toNat (by omega)
  rw [tU _ m i.toNat (by omega)] at h6
  rw [aU (n := i + 1) (by omega) (by omega)]
  refine ⟨⟨xs, fv 52 (m.drop (i.toNat + 1)), t, m, i⟩, rfl, ⟨by simp only; omega, by simp only; omega, h6⟩, ⟨_, ?_, ⟨_, more, t, m, i + 1⟩, rfl, ⟨by simpa [aI] using h1, by simp only; omega, by simp only; omega, ?_, ?_, ?_⟩, rfl, ho⟩, fun _ => ho2⟩
  ·simp only; omega
  ·simp only [show (i + 1).toNat = i.toNat + 1 by omega]; omega
  ·simp only [show (i + 1).toNat = i.toNat + 1 by omega]; omega
  ·simp only [show (i + 1).toNat = i.toNat + 1 by omega]
 ·rw [aa8 (by omega)] at h6
  subst h6
  exact ho1
noncomputable def FF (κ : Kp) (r : Nat) : Env := (xV κ r).aj 170 3 (aK 2 Mc (DS r) Jq)
theorem y56 (κ : Kp) (r : Nat) (t : AV) (xs : List AV) (K : AV → List Dn.Obj → Prop) : (a9 (FF κ r) 12 170 [.dv 0, .ptr 1 0 [] 0] [.ext (some xs), .box 52 (oM 52 t)] K) = (
 letI z2 := ah (ad t 3)
 letI z1 := AV.agg [AV.int (toInt (ad t 0)), AV.str (toStr (ad t 1)), AV.int (toInt (ad t 2)), AV.ae 52 z2]
 letI z3 := Pg.toProgram (Env.P (xV κ r))
 ∃ (rest : List AV), xs = AV.bR [AV.agg [AV.int (toInt (ad t 0)), AV.str (toStr (ad t 1)), AV.int (toInt (ad t 2)), AV.ae 52 z2]] :: rest ∧ (ag z3 170 3 = ag z3
 170 3 ∧ ∃ (a : B5), sp 25 [(2, AV.ptr 2 0 [] 0), (11, AV.ae 52 z2), (12, AV.int (↑(List.length z2) : Int)), (13, AV.int 0)] [Obj.ext (some rest), Obj.box 52 z1,
 Obj.box 178 (AV.dv 0)] = sp 25 [(2, AV.ptr 2 0 [] 0), (11, AV.ae 52 a.m), (12, AV.int (↑(a.m.length) : Int)), (13, AV.int a.i)] [Obj.ext (some a.xs), Obj.box 52
 (AV.agg [AV.int (toInt (ad a.t 0)), AV.str (toStr (ad a.t 1)), AV.int (toInt (ad a.t 2)), AV.ae 52 (ah (ad a.t 3))]), Obj.box 178 (AV.dv 0)] ∧ (a.m.length ≤
 9223372036854775807 ∧ (0 : Int) ≤ a.i ∧ a.i ≤ (↑(a.m.length) : Int) ∧ aH (aa (List.drop a.i.toNat a.m)) < r ∧ aH (aa (List.drop a.i.toNat a.m)) ≤ 100000 ∧ a.xs
 = fv 52 (List.drop a.i.toNat a.m)) ∧ ∀ (y : Bool), True → ax y (K (AV.bR []) [Obj.ext (some []), Obj.box 52 (AV.agg [AV.int (toInt (ad a.t 0)), AV.str (toStr
 (ad a.t 1)), AV.int (toInt (ad a.t 2)), AV.ae 52 (ah (ad a.t 3))])]) (K (AV.bR []) [Obj.ext none, Obj.box 52 (AV.agg [AV.int (toInt (ad a.t 0)), AV.str (toStr
 (ad a.t 1)), AV.int (toInt (ad a.t 2)), AV.ae 52 (ah (ad a.t 3))])])) ∧ K (AV.bR []) [Obj.ext none, Obj.box 52 z1]) := by kernel_rfl
theorem RN (κ : Kp) (r : Nat) (hp : ∀ args st K, (∃ m, m < r ∧ Hf m args st K) → dz (Pr κ) 170 args st K) : aw (FF κ r) ∧ ai (FF κ r) ∧ (FF κ r).P = Pr κ :=
 have h : aw (Ah κ r) := (QU κ).iN hp
 have h2 : aw (xV κ r) := (h.addRange (Ob κ r) (Rc κ r)).eZ _
 have hm : ai (xV κ r) := ((Ob κ r).addRange (CW κ r)).eZ _
 ⟨h2.aj hm (ZX κ r), hm.aj aE, rfl⟩
theorem c56 (κ : Kp) (r : Nat) : bJ (FF κ r) 12 170 (Hf r) := by
 refine bh ?_
 rintro t K ⟨h1, h2⟩ ho
 have hn : ∀ b, K (.bR []) [.ext none, b] := fun b => ho _ trivial
 have h0 : ∀ b, K (.bR []) [.ext (some []), b] := fun b => ho _ trivial
 refine Eq.mpr (y56 κ r t _ K) ?_
 rw [bX, Tm.gF] at h1
 have hl := dh (aa (ah (ad t 3)))
 rw [cL] at hl
 rw [zo]
 refine ⟨_, rfl, ⟨rfl, ⟨_, [], t, ah (ad t 3), 0⟩, rfl, ⟨by simp only; omega, by simp only; omega, by simp only; omega, ?_, ?_, rfl⟩, ?_⟩, hn _⟩
 ·simp only [ab8, ab0]; omega
 ·simp only [ab8, ab0]; omega
 ·intro y _
  cases y
  ·exact hn _
  ·exact h0 _
def yx (a : AV) : Prop := (bI a).gF ≤ 100000
theorem Zz (κ : Kp) : ∀ args st K, a8 Kx yx DW args st K → dz (Pr κ) 170 args st K := by
 rintro args st K ⟨l, h1, h2, h3⟩
 exact aw.qH Hf (FF κ) (RN κ) (c56 κ) (bI l).gF args st K ⟨l, h1, ⟨rfl, h2⟩, h3⟩
noncomputable def Iy (κ : Kp) : Env := (QW κ).ar 170 (a8 Kx yx DW)
theorem e56 (κ : Kp) : aw (Iy κ) := (QU κ).iN (Zz κ)
theorem Tf (κ : Kp) : ai (Iy κ) := (Ux κ).ar aJ
structure vz where
 xs : List AV
 more : List AV
 r : b5
 bl : List AV
 ts : List AV
 i : Int
abbrev CI (a : vz) : AV := oM 52 (nth a.ts (0 + a.i.toNat))
abbrev Ed (a : vz) : S := sp 46 [(2, .ptr 2 0 [] 0), (3, .a7 3 0 a.ts.length), (14, .ae 55 a.bl), (15, .int a.bl.length), (16, .int a.i)] [.ext (some a.xs), .box 41 (aF a.r), .box 178 (.dv 0), .row 52 a.ts]
theorem SS (κ : Kp) (a : vz) (I : Nat → S → Prop) (n : Nat) (K : Exit → S → Prop) : (vc (Iy κ) 12 158 none 2 (ag (Pr κ).toProgram 158 3) (Ed a) (bC (Iy κ) 158 3 2 I n K)) = (
 letI z3 := decide ((a.ts.length + 2 + 1) * 57 ≤ 70368744177664)
 letI z4 := nth a.bl a.i.toNat
 letI z5 := AV.agg [AV.agg [AV.str (a.r.rel), AV.ae 52 (a.r.hl)], AV.ae 55 (a.r.bl), AV.int (a.r.line)]
 letI z6 := ad (ad z4 1) 1
 letI z1 := sp 46 [(2, AV.ptr 2 0 [] 0), (3, AV.a7 3 0 (a.ts.length + 2 + List.length (ah z6))), (14, AV.ae 55 a.bl), (15, AV.int (↑(a.bl.length) : Int)), (16,
  AV.int (IntKind.wrap IntKind.i64 (a.i + (1 : Int))))] [Obj.ext (some a.xs), Obj.box 41 z5, Obj.box 178 (AV.dv 0), Obj.row 52 (List.take (a.ts.length + 2)
  (List.take a.ts.length a.ts ++ [AV.agg [AV.int (toInt (ad (ad z4 2) 0)), AV.str (toStr (ad (ad z4 2) 1)), AV.int (toInt (ad (ad z4 2) 2)), AV.ae 52 (ah (ad (ad
  z4 2) 3))], AV.agg [AV.int (toInt (ad (ad z4 3) 0)), AV.str (toStr (ad (ad z4 3) 1)), AV.int (toInt (ad (ad z4 3) 2)), AV.ae 52 (ah (ad (ad z4 3) 3))]]) ++ ah
  z6)]
 letI z2 := decide ((a.ts.length + 2 + List.length (ah z6) + 1) * 57 ≤ 70368744177664)
 ax (decide (a.i < (↑(a.bl.length) : Int))) (aZ (decide ((0 : Int) ≤ a.i) && decide (a.i < (↑(a.bl.length) : Int))) ((aZ z3 (aZ z2 (∃ (m : Nat), m < n ∧ I m z1))
 ∧ aZ z3 (aZ z2 (∃ (m : Nat), m < n ∧ I m z1)) ∧ aZ z3 (aZ z2 (∃ (m : Nat), m < n ∧ I m z1))) ∧ (aZ z3 (aZ z2 (∃ (m : Nat), m < n ∧ I m z1)) ∧ aZ z3 (aZ z2 (∃ (m
 : Nat), m < n ∧ I m z1))) ∧ aZ z3 (aZ z2 (∃ (m : Nat), m < n ∧ I m z1)))) (K (Exit.exit 0) (sp 46 [(2, AV.ptr 2 0 [] 0), (3, AV.a7 3 0 a.ts.length)] [Obj.ext
 (some a.xs), Obj.box 41 z5, Obj.box 178 (AV.dv 0), Obj.row 52 a.ts]))) := by kernel_rfl
def cG (l : List AV) : List AV := l.flatMap fun a => [oM 52 (ad a 2), oM 52 (ad a 3)] ++ ah (ad (ad a 1) 1)
def Ee (a : vz) : Prop := a.bl.length ≤ aI ∧ 0 ≤ a.i ∧ a.i ≤ a.bl.length ∧ (a.ts ++ cG (a.bl.drop a.i.toNat)).length ≤ 100000
def yX (a : vz) : Out (Exit × S) := .one (.exit 0, sp 46 [(2, .ptr 2 0 [] 0), (3, .a7 3 0 (a.ts ++ cG (a.bl.drop a.i.toNat)).length)] [.ext (some a.xs), .box 41 (aF a.r), .box 178 (.dv 0), .row 52 (a.ts ++ cG (a.bl.drop a.i.toNat))])
theorem Cn (l : List AV) (i : Nat) (h : i < l.length) : cG (l.drop i) = [oM 52 (ad (nth l i) 2), oM 52 (ad (nth l i) 3)] ++ ah (ad (ad (nth l i) 1) 1) ++ cG (l.drop (i + 1)) := by
 rw [ab1 h, bx l i h]; rfl
theorem Sk (κ : Kp) : bg (Iy κ) 12 158 3 (aK 2 Ed Ee yX) := by
 refine aO (fun a => a.bl.length - a.i.toNat) ?_
 rintro ⟨xs, more, r, bl, ts, i⟩ K ⟨h1, h2, h3, h4⟩ ho
 simp only at h1 h2 h3 h4
 rw [show (Iy κ).P = Pr κ from rfl]
 refine Eq.mpr (SS κ ⟨xs, more, r, bl, ts, i⟩ _ _ K) ?_
 simp only [and_self]
 simp only [yX, Out.run] at ho
 simp only [aI] at h1
 simp only [af, aq, aa0, aa2, aa1]
 refine ⟨fun hi => ⟨⟨h2, hi⟩, ?_⟩, fun hi => ?_⟩
 ·have hp := Cn bl i.toNat (by omega)
  rw [hp] at h4 ho
  rw [aU (n := i + 1) (by omega) (by omega)]
  simp only [ab9, List.length_cons, List.length_nil] at h4
  refine ⟨by omega, by omega, _, ?_, ⟨xs, more, r, bl, ts ++ ([oM 52 (ad (nth bl i.toNat) 2), oM 52 (ad (nth bl i.toNat) 3)] ++ ah (ad (ad (nth bl i.toNat) 1) 1)), i + 1⟩, ?_, ⟨by simpa [aI] using h1, by simp only; omega, by simp only; omega, ?_⟩, rfl, ?_⟩
  ·simp only; omega
  ·simp only [Ed, ab9, List.length_cons, List.length_nil, List.take_length]
   rw [List.take_of_length_le (by simp), show ts.length + 2 + (ah (ad (ad (nth bl i.toNat) 1) 1)).length = ts.length + (0 + 1 + 1 + (ah (ad (ad (nth bl i.toNat) 1) 1)).length) by omega, List.append_assoc]
   rfl
  ·simp only [ab9, List.length_cons, List.length_nil, show (i + 1).toNat = i.toNat + 1 by omega]; omega
  ·simp only [yX, Out.run, show (i + 1).toNat = i.toNat + 1 by omega]
   simpa only [List.append_assoc] using ho
 ·rw [aa8 (by omega)] at ho
  simpa [cG] using ho
noncomputable def zX (κ : Kp) : Env := (Iy κ).aj 158 3 (aK 2 Ed Ee yX)
theorem RH (κ : Kp) : aw (zX κ) := (e56 κ).aj (Tf κ) (Sk κ)
theorem PR (κ : Kp) : ai (zX κ) := (Tf κ).aj aE
noncomputable abbrev PZ (a : vz) (κ : Kp) (st : LoopState) (p : Option Code) : Dn.Obj :=
 .loop (oP (Pr κ).toProgram 158 11 st p (nZ (dc 46) [(2, .ptr 2 0 [] 0), (7, .ptr 4 0 [] 0), (32, .a7 3 0 a.ts.length), (33, .int a.ts.length), (34, .int a.i), (35, .bool true),
  (36, .ptr 3 (0 + a.i.toNat) [] 0), (37, CI a), (38, CI a), (39, .dq 170 [.ptr 5 0 [] 0])]))
noncomputable abbrev oB (κ : Kp) (a : vz) : List Dn.Obj := [.ext (some a.xs), .box 41 (aF a.r), .box 178 (.dv 0), .row 52 a.ts, .box 52 (CI a), .box 52 (CI a), PZ a κ .ready none]
noncomputable abbrev x0 (κ : Kp) (a : vz) (o : Option (List AV)) (st : LoopState) (p : Option Code) : List Dn.Obj := [.ext o, .box 41 (aF a.r), .box 178 (.dv 0), .row 52 a.ts, .box 52 (CI a), .dead, PZ a κ st p]
theorem XD (κ : Kp) (a : vz) (Q : List Dn.Obj → Prop) : (tidy (Pr κ).toProgram 7 (eC (oB κ a) (ec (oB κ a) [.ptr 5 0 [] 0])) Q) = (
 letI z1 := nth a.ts (0 + a.i.toNat)
 letI z2 := toInt (ad z1 0)
 letI z3 := toStr (ad z1 1)
 letI z4 := toInt (ad z1 2)
 letI z5 := ah (ad z1 3)
 Q [Obj.ext (some a.xs), Obj.box 41 (AV.agg [AV.agg [AV.str (a.r.rel), AV.ae 52 (a.r.hl)], AV.ae 55 (a.r.bl), AV.int (a.r.line)]), Obj.box 178 (AV.dv 0), Obj.row
 52 a.ts, Obj.box 52 (AV.agg [AV.int z2, AV.str z3, AV.int z4, AV.ae 52 z5]), Obj.dead, Dn.Obj.loop (oP Tryz.prog 158 11 LoopState.ready none (nZ (dc 46) [(2,
 AV.ptr 2 0 [] 0), (7, AV.ptr 4 0 [] 0), (32, AV.a7 3 0 a.ts.length), (33, AV.int (↑(a.ts.length) : Int)), (34, AV.int a.i), (35, AV.bool true), (36, AV.ptr 3 (0
 + a.i.toNat) [] 0), (37, AV.agg [AV.int z2, AV.str z3, AV.int z4, AV.ae 52 z5]), (38, AV.agg [AV.int z2, AV.str z3, AV.int z4, AV.ae 52 z5]), (39, AV.dq 170
 [AV.ptr 5 0 [] 0])]))]) := by kernel_rfl
theorem YY (κ : Kp) (a : vz) (o : List AV) (u : AV) (Q : List Dn.Obj → Prop) (K2 : List Dn.Obj → Prop) : (j7 (vc (zX κ) 12) 6 [oM 52 u] (x0 κ a (some o) .ready none) (fun r st'' => match r with | .lit (.bool true) => tidy (Pr κ).toProgram 7 st'' Q | .lit (.bool false) => K2 st'' | _ => False)) = (
 letI z2 := nth a.ts (0 + a.i.toNat)
 letI z4 := AV.agg [AV.agg [AV.str (a.r.rel), AV.ae 52 (a.r.hl)], AV.ae 55 (a.r.bl), AV.int (a.r.line)]
 letI z5 := toInt (ad z2 0)
 letI z6 := toStr (ad z2 1)
 letI z7 := toInt (ad z2 2)
 letI z8 := ah (ad z2 3)
 letI z1 := nZ (dc 46) [(2, AV.ptr 2 0 [] 0), (7, AV.ptr 4 0 [] 0), (32, AV.a7 3 0 a.ts.length), (33, AV.int (↑(a.ts.length) : Int)), (34, AV.int a.i), (35,
  AV.bool true), (36, AV.ptr 3 (0 + a.i.toNat) [] 0), (37, AV.agg [AV.int z5, AV.str z6, AV.int z7, AV.ae 52 z8]), (38, AV.agg [AV.int z5, AV.str z6, AV.int z7,
  AV.ae 52 z8]), (39, AV.dq 170 [AV.ptr 5 0 [] 0])]
 letI z3 := AV.agg [AV.int z5, AV.str z6, AV.int z7, AV.ae 52 z8]
 ∃ (rest : List AV), o = AV.bR [AV.agg [AV.int (toInt (ad u 0)), AV.str (toStr (ad u 1)), AV.int (toInt (ad u 2)), AV.ae 52 (ah (ad u 3))]] :: rest ∧ Q [Obj.ext
 (some rest), Obj.box 41 z4, Obj.box 178 (AV.dv 0), Obj.row 52 a.ts, Obj.box 52 z3, Obj.dead, Dn.Obj.loop (oP Tryz.prog 158 11 LoopState.ready none z1)] ∧ K2
 [Obj.ext none, Obj.box 41 z4, Obj.box 178 (AV.dv 0), Obj.row 52 a.ts, Obj.box 52 z3, Obj.dead, Dn.Obj.loop (oP Tryz.prog 158 11 LoopState.done (some Code.ret)
 z1), Obj.box 52 (AV.agg [AV.int (toInt (ad u 0)), AV.str (toStr (ad u 1)), AV.int (toInt (ad u 2)), AV.ae 52 (ah (ad u 3))])]) := by kernel_rfl
theorem k42 (κ : Kp) (a : vz) (xs : List AV) : (AV.dv 0 :: gB (my (ec (oB κ a) [.ptr 5 0 [] 0])) [.ptr 5 0 [] 0], Obj.ext (some xs) :: ic (my (ec (oB κ a) [.ptr 5 0 [] 0])) (iB (oB κ a) (ec (oB κ a) [.ptr 5 0 [] 0]))) = ([.dv 0, .ptr 1 0 [] 0], [.ext (some xs), .box 52 (CI a)]) := by kernel_rfl
theorem V8 (κ : Kp) (a : vz) : vo (oB κ a) [.ptr 5 0 [] 0] = true := by kernel_rfl
noncomputable def HH (κ : Kp) : fN := fun caps st K => ∃ a : vz, (caps, st) = ([AV.ptr 5 0 [] 0], oB κ a) ∧ ((bI (nth a.ts a.i.toNat)).gF ≤ 100000 ∧ a.xs = ou 52 (nth a.ts a.i.toNat) ++ a.more) ∧
 (K (x0 κ a (some a.more) .ready none) ∧ ∀ u : AV, K (x0 κ a none .done (some .ret) ++ [.box 52 (oM 52 u)]))
theorem C9 (κ : Kp) : (HH κ).ot := by
 rintro caps st K K' hK ⟨a, h1, h2, h3, h4⟩
 exact ⟨a, h1, h2, hK _ h3, fun u => hK _ (h4 u)⟩
theorem call42 (κ : Kp) (args : List AV) (st : List Dn.Obj) (K : AV → List Dn.Obj → Prop) (h : a8 Kx yx DW args st K) : (zX κ).call 170 args st K := h
theorem Sh (κ : Kp) : qc (zX κ) 12 170 (HH κ) := by
 rintro caps st K ⟨a, h1, ⟨h3, h4⟩, h5, h6⟩
 obtain ⟨rfl, rfl⟩ := Prod.mk.inj h1
 refine ⟨ou 52 (nth a.ts a.i.toNat), fun items st' => (∀ x, x ∈ items → rH 52 x) ∧ st' = x0 κ a (some (items ++ a.more)) .ready none, ⟨V8 κ a, ?_, ?_, ?_, ?_⟩⟩
 ·refine call42 κ _ _ _ ⟨nth a.ts a.i.toNat, ?_, h3, fun st' h => h⟩
  rw [k42, CI, Nat.zero_add]; rfl
 ·rw [show (zX κ).P = Pr κ from rfl, show (oB κ a).length = 7 from rfl, XD]
  exact ⟨mo _ _ _ (Nat.lt_succ_self _), by rw [h4]; rfl⟩
 ·rintro us rest st' ⟨e1, rfl⟩
  obtain ⟨u, hu⟩ := e1 (.bR us) (by simp)
  obtain rfl := AV.bR.inj hu
  rw [show (zX κ).P = Pr κ from rfl, show (oB κ a).length = 7 from rfl]
  refine Eq.mpr (YY κ a _ u _ _) ?_
  exact ⟨_, rfl, ⟨fun x hx => e1 x (by simp [hx]), rfl⟩, h6 u⟩
 ·rintro st' ⟨_, rfl⟩
  exact h5
noncomputable def vL (κ : Kp) : Env := ((zX κ).addRange 158 11 170 (HH κ)).eZ (fun f => mw f M1)
theorem Rb (κ : Kp) : aw (vL κ) := ((RH κ).addRange (PR κ) (Sh κ)).eZ _
theorem Pq (κ : Kp) : ai (vL κ) := ((PR κ).addRange (C9 κ)).eZ _
abbrev Ep (a : vz) : S := sp 46 [(2, .ptr 2 0 [] 0), (32, .a7 3 0 a.ts.length), (33, .int a.ts.length), (34, .int a.i)] [.ext (some a.xs), .box 41 (aF a.r), .box 178 (.dv 0), .row 52 a.ts]
theorem SG (κ : Kp) (a : vz) (I : Nat → S → Prop) (n : Nat) (K : Exit → S → Prop) : (vc (vL κ) 12 158 none 2 (ag (Pr κ).toProgram 158 8) (Ep a) (bC (vL κ) 158 8 2 I n K)) = (
 letI z1 := nth a.ts (0 + a.i.toNat)
 letI z3 := AV.agg [AV.agg [AV.str (a.r.rel), AV.ae 52 (a.r.hl)], AV.ae 55 (a.r.bl), AV.int (a.r.line)]
 letI z4 := toInt (ad z1 0)
 letI z5 := toStr (ad z1 1)
 letI z6 := toInt (ad z1 2)
 letI z7 := ah (ad z1 3)
 letI z2 := AV.agg [AV.int z4, AV.str z5, AV.int z6, AV.ae 52 z7]
 ax (decide (a.i < (↑(a.ts.length) : Int))) (aZ (decide ((0 : Int) ≤ a.i) && decide (a.i < (↑(a.ts.length) : Int))) (∃ (a_1 : vz), ([AV.ptr 5 0 [] 0], [Obj.ext
 (some a.xs), Obj.box 41 z3, Obj.box 178 (AV.dv 0), Obj.row 52 a.ts, Obj.box 52 z2, Obj.box 52 z2, Dn.Obj.loop (oP Tryz.prog 158 11 LoopState.ready none (nZ (dc
 46) [(2, AV.ptr 2 0 [] 0), (7, AV.ptr 4 0 [] 0), (32, AV.a7 3 0 a.ts.length), (33, AV.int (↑(a.ts.length) : Int)), (34, AV.int a.i), (35, AV.bool true), (36,
 AV.ptr 3 (0 + a.i.toNat) [] 0), (37, AV.agg [AV.int z4, AV.str z5, AV.int z6, AV.ae 52 z7]), (38, AV.agg [AV.int z4, AV.str z5, AV.int z6, AV.ae 52 z7]), (39,
 AV.dq 170 [AV.ptr 5 0 [] 0])]))]) = ([AV.ptr 5 0 [] 0], [Obj.ext (some a_1.xs), Obj.box 41 (AV.agg [AV.agg [AV.str (a_1.r.rel), AV.ae 52 (a_1.r.hl)], AV.ae 55
 (a_1.r.bl), AV.int (a_1.r.line)]), Obj.box 178 (AV.dv 0), Obj.row 52 a_1.ts, Obj.box 52 (AV.agg [AV.int (toInt (ad (nth a_1.ts (0 + a_1.i.toNat)) 0)), AV.str
 (toStr (ad (nth a_1.ts (0 + a_1.i.toNat)) 1)), AV.int (toInt (ad (nth a_1.ts (0 + a_1.i.toNat)) 2)), AV.ae 52 (ah (ad (nth a_1.ts (0 + a_1.i.toNat)) 3))]),
 Obj.box 52 (AV.agg [AV.int (toInt (ad (nth a_1.ts (0 + a_1.i.toNat)) 0)), AV.str (toStr (ad (nth a_1.ts (0 + a_1.i.toNat)) 1)), AV.int (toInt (ad (nth a_1.ts (0
 + a_1.i.toNat)) 2)), AV.ae 52 (ah (ad (nth a_1.ts (0 + a_1.i.toNat)) 3))]), Dn.Obj.loop (oP Tryz.prog 158 11 LoopState.ready none (nZ (dc 46) [(2, AV.ptr 2 0 []
 0), (7, AV.ptr 4 0 [] 0), (32, AV.a7 3 0 a_1.ts.length), (33, AV.int (↑(a_1.ts.length) : Int)), (34, AV.int a_1.i), (35, AV.bool true), (36, AV.ptr 3 (0 +
 a_1.i.toNat) [] 0), (37, AV.agg [AV.int (toInt (ad (nth a_1.ts (0 + a_1.i.toNat)) 0)), AV.str (toStr (ad (nth a_1.ts (0 + a_1.i.toNat)) 1)), AV.int (toInt (ad
 (nth a_1.ts (0 + a_1.i.toNat)) 2)), AV.ae 52 (ah (ad (nth a_1.ts (0 + a_1.i.toNat)) 3))]), (38, AV.agg [AV.int (toInt (ad (nth a_1.ts (0 + a_1.i.toNat)) 0)),
 AV.str (toStr (ad (nth a_1.ts (0 + a_1.i.toNat)) 1)), AV.int (toInt (ad (nth a_1.ts (0 + a_1.i.toNat)) 2)), AV.ae 52 (ah (ad (nth a_1.ts (0 + a_1.i.toNat))
 3))]), (39, AV.dq 170 [AV.ptr 5 0 [] 0])]))]) ∧ (Tm.gF (bI (nth a_1.ts a_1.i.toNat)) ≤ 100000 ∧ a_1.xs = ou 52 (nth a_1.ts a_1.i.toNat) ++ a_1.more) ∧ (∃ (m :
 Nat), m < n ∧ I m (sp 46 [(2, AV.ptr 2 0 [] 0), (32, AV.a7 3 0 a.ts.length), (33, AV.int (↑(a.ts.length) : Int)), (34, AV.int (IntKind.wrap IntKind.i64 (a.i +
 (1 : Int))))] [Obj.ext (some a_1.more), Obj.box 41 (AV.agg [AV.agg [AV.str (a_1.r.rel), AV.ae 52 (a_1.r.hl)], AV.ae 55 (a_1.r.bl), AV.int (a_1.r.line)]),
 Obj.box 178 (AV.dv 0), Obj.row 52 a_1.ts])) ∧ ∀ (u : AV), K Exit.ret (sp 46 [] [Obj.ext none, Obj.box 41 (AV.agg [AV.agg [AV.str (a_1.r.rel), AV.ae 52
 (a_1.r.hl)], AV.ae 55 (a_1.r.bl), AV.int (a_1.r.line)])]))) (K (Exit.exit 2) (sp 46 [] [Obj.ext (some a.xs), Obj.box 41 z3]))) := by kernel_rfl
def yw (a : vz) : Prop := a.ts.length ≤ aI ∧ 0 ≤ a.i ∧ a.i ≤ a.ts.length ∧ aH (aa (a.ts.drop a.i.toNat)) ≤ 100000 ∧ a.xs = fv 52 (a.ts.drop a.i.toNat)
def Im (a : vz) : Out (Exit × S) := .all (fun _ : Bool => True) fun b => .ax b (.one (.exit 2, sp 46 [] [.ext (some []), .box 41 (aF a.r)])) (.one (.ret, sp 46 [] [.ext none, .box 41 (aF a.r)]))
theorem Ri (κ : Kp) : bg (vL κ) 12 158 8 (aK 2 Ep yw Im) := by
 refine aO (fun a => a.ts.length - a.i.toNat) ?_
 rintro ⟨xs, more, r, bl, m, i⟩ K ⟨h1, h2, h3, h5, h6⟩ ho
 simp only at h1 h2 h3 h5 h6
 rw [show (vL κ).P = Pr κ from rfl]
 refine Eq.mpr (SG κ ⟨xs, more, r, bl, m, i⟩ _ _ K) ?_
 have ho1 := ho true trivial
 have ho2 := ho false trivial
 simp only [Out.run, ax] at ho1 ho2
 simp only [aI] at h1
 simp only [af, aq, aa0, aa2, aa1]
 refine ⟨fun hi => ⟨⟨h2, hi⟩, ?_⟩, fun hi => ?_⟩
 ·have hc := ur m i.toNat (by omega)
  rw [tU _ m i.toNat (by omega)] at h6
  rw [aU (n := i + 1) (by omega) (by omega)]
  refine ⟨⟨xs, fv 52 (m.drop (i.toNat + 1)), r, bl, m, i⟩, rfl, ⟨by simp only; omega, h6⟩, ⟨_, ?_, ⟨_, more, r, bl, m, i + 1⟩, rfl, ⟨by simpa [aI] using h1, by simp only; omega, by simp only; omega, ?_, ?_⟩, rfl, ho⟩, fun _ => ho2⟩
  ·simp only; omega
  ·simp only [show (i + 1).toNat = i.toNat + 1 by omega]; omega
  ·simp only [show (i + 1).toNat = i.toNat + 1 by omega]
 ·rw [aa8 (by omega)] at h6
  subst h6
  exact ho1
noncomputable def JC (κ : Kp) : Env := (vL κ).aj 158 8 (aK 2 Ep yw Im)
theorem S1 (κ : Kp) : aw (JC κ) := (Rb κ).aj (Pq κ) (Ri κ)
theorem P5 (κ : Kp) : ai (JC κ) := (Pq κ).aj aE
theorem X5 (κ : Kp) (a : b5) (K : AV → List Dn.Obj → Prop) : (a9 (JC κ) 12 158 [.dv 0, .ptr 1 0 [] 0] [.ext (some a.xs), .box 41 (aF a)] K) = (
 letI z1 := Pg.toProgram (Env.P (Iy κ))
 letI z2 := Pg.toProgram (Env.P (vL κ))
 letI z3 := AV.dv 0
 (Mj a.hl = true → ag z1 158 3 = ag z1 158 3 ∧ ∃ (a_2 : vz), sp 46 [(2, AV.ptr 2 0 [] 0), (3, AV.a7 3 0 0), (14, AV.ae 55 a.bl), (15, AV.int (↑(a.bl.length) :
 Int)), (16, AV.int 0)] [Obj.ext (some a.xs), Obj.box 41 (aF a), Obj.box 178 z3, Obj.row 52 []] = sp 46 [(2, AV.ptr 2 0 [] 0), (3, AV.a7 3 0 a_2.ts.length), (14,
 AV.ae 55 a_2.bl), (15, AV.int (↑(a_2.bl.length) : Int)), (16, AV.int a_2.i)] [Obj.ext (some a_2.xs), Obj.box 41 (AV.agg [AV.agg [AV.str (a_2.r.rel), AV.ae 52
 (a_2.r.hl)], AV.ae 55 (a_2.r.bl), AV.int (a_2.r.line)]), Obj.box 178 z3, Obj.row 52 a_2.ts] ∧ (a_2.bl.length ≤ 9223372036854775807 ∧ (0 : Int) ≤ a_2.i ∧ a_2.i ≤
 (↑(a_2.bl.length) : Int) ∧ List.length (a_2.ts ++ cG (List.drop a_2.i.toNat a_2.bl)) ≤ 100000) ∧ ag z2 158 8 = ag z2 158 8 ∧ ∃ (a : vz), sp 46 [(2, AV.ptr 2 0
 [] 0), (32, AV.a7 3 0 (List.length (a_2.ts ++ cG (List.drop a_2.i.toNat a_2.bl)))), (33, AV.int (↑(List.length (a_2.ts ++ cG (List.drop a_2.i.toNat a_2.bl))) :
 Int)), (34, AV.int 0)] [Obj.ext (some a_2.xs), Obj.box 41 (AV.agg [AV.agg [AV.str (a_2.r.rel), AV.ae 52 (a_2.r.hl)], AV.ae 55 (a_2.r.bl), AV.int (a_2.r.line)]),
 Obj.box 178 z3, Obj.row 52 (a_2.ts ++ cG (List.drop a_2.i.toNat a_2.bl))] = sp 46 [(2, AV.ptr 2 0 [] 0), (32, AV.a7 3 0 a.ts.length), (33, AV.int
 (↑(a.ts.length) : Int)), (34, AV.int a.i)] [Obj.ext (some a.xs), Obj.box 41 (AV.agg [AV.agg [AV.str (a.r.rel), AV.ae 52 (a.r.hl)], AV.ae 55 (a.r.bl), AV.int
 (a.r.line)]), Obj.box 178 z3, Obj.row 52 a.ts] ∧ (a.ts.length ≤ 9223372036854775807 ∧ (0 : Int) ≤ a.i ∧ a.i ≤ (↑(a.ts.length) : Int) ∧ aH (aa (List.drop
 a.i.toNat a.ts)) ≤ 100000 ∧ a.xs = fv 52 (List.drop a.i.toNat a.ts)) ∧ ∀ (y : Bool), True → ax y (K (AV.bR []) [Obj.ext (some []), Obj.box 41 (AV.agg [AV.agg
 [AV.str (a.r.rel), AV.ae 52 (a.r.hl)], AV.ae 55 (a.r.bl), AV.int (a.r.line)])]) (K (AV.bR []) [Obj.ext none, Obj.box 41 (AV.agg [AV.agg [AV.str (a.r.rel), AV.ae
 52 (a.r.hl)], AV.ae 55 (a.r.bl), AV.int (a.r.line)])])) ∧ aZ (decide ((0 + a.hl.length + 1) * 57 ≤ 70368744177664)) (ag z1 158 3 = ag z1 158 3 ∧ ∃ (a_1 : vz),
 sp 46 [(2, AV.ptr 2 0 [] 0), (3, AV.a7 3 0 (0 + a.hl.length)), (14, AV.ae 55 a.bl), (15, AV.int (↑(a.bl.length) : Int)), (16, AV.int 0)] [Obj.ext (some a.xs),
 Obj.box 41 (aF a), Obj.box 178 z3, Obj.row 52 ([] ++ a.hl)] = sp 46 [(2, AV.ptr 2 0 [] 0), (3, AV.a7 3 0 a_1.ts.length), (14, AV.ae 55 a_1.bl), (15, AV.int
 (↑(a_1.bl.length) : Int)), (16, AV.int a_1.i)] [Obj.ext (some a_1.xs), Obj.box 41 (AV.agg [AV.agg [AV.str (a_1.r.rel), AV.ae 52 (a_1.r.hl)], AV.ae 55
 (a_1.r.bl), AV.int (a_1.r.line)]), Obj.box 178 z3, Obj.row 52 a_1.ts] ∧ (a_1.bl.length ≤ 9223372036854775807 ∧ (0 : Int) ≤ a_1.i ∧ a_1.i ≤ (↑(a_1.bl.length) :
 Int) ∧ List.length (a_1.ts ++ cG (List.drop a_1.i.toNat a_1.bl)) ≤ 100000) ∧ ag z2 158 8 = ag z2 158 8 ∧ ∃ (a : vz), sp 46 [(2, AV.ptr 2 0 [] 0), (32, AV.a7 3 0
 (List.length (a_1.ts ++ cG (List.drop a_1.i.toNat a_1.bl)))), (33, AV.int (↑(List.length (a_1.ts ++ cG (List.drop a_1.i.toNat a_1.bl))) : Int)), (34, AV.int 0)]
 [Obj.ext (some a_1.xs), Obj.box 41 (AV.agg [AV.agg [AV.str (a_1.r.rel), AV.ae 52 (a_1.r.hl)], AV.ae 55 (a_1.r.bl), AV.int (a_1.r.line)]), Obj.box 178 z3,
 Obj.row 52 (a_1.ts ++ cG (List.drop a_1.i.toNat a_1.bl))] = sp 46 [(2, AV.ptr 2 0 [] 0), (32, AV.a7 3 0 a.ts.length), (33, AV.int (↑(a.ts.length) : Int)), (34,
 AV.int a.i)] [Obj.ext (some a.xs), Obj.box 41 (AV.agg [AV.agg [AV.str (a.r.rel), AV.ae 52 (a.r.hl)], AV.ae 55 (a.r.bl), AV.int (a.r.line)]), Obj.box 178 z3,
 Obj.row 52 a.ts] ∧ (a.ts.length ≤ 9223372036854775807 ∧ (0 : Int) ≤ a.i ∧ a.i ≤ (↑(a.ts.length) : Int) ∧ aH (aa (List.drop a.i.toNat a.ts)) ≤ 100000 ∧ a.xs = fv
 52 (List.drop a.i.toNat a.ts)) ∧ ∀ (y : Bool), True → ax y (K (AV.bR []) [Obj.ext (some []), Obj.box 41 (AV.agg [AV.agg [AV.str (a.r.rel), AV.ae 52 (a.r.hl)],
 AV.ae 55 (a.r.bl), AV.int (a.r.line)])]) (K (AV.bR []) [Obj.ext none, Obj.box 41 (AV.agg [AV.agg [AV.str (a.r.rel), AV.ae 52 (a.r.hl)], AV.ae 55 (a.r.bl),
 AV.int (a.r.line)])]))) := by kernel_rfl
def M3 (a : b5) : List AV × List Dn.Obj := ([.dv 0, .ptr 1 0 [] 0], [.ext (some (fv 52 (aX 52 a.hl a.bl))), .box 41 (aF a)])
def bZ (a : b5) : Prop := aH (aa (aX 52 a.hl a.bl)) ≤ 100000 ∧ a.bl.length ≤ 100000
def Ix (_ : b5) : Out (AV × List Dn.Obj) := .all (fun st' => Ar st') fun st' => .one (.bR [], st')
theorem YM (κ : Kp) : bJ (JC κ) 12 158 (a8 M3 bZ Ix) := by
 refine bh ?_
 rintro ⟨xs, more, rel, hl, bl, line, i⟩ K ⟨h1, h2⟩ ho
 have hn : ∀ b, K (.bR []) [.ext none, b] := fun b => ho _ trivial
 have h0 : ∀ b, K (.bR []) [.ext (some []), b] := fun b => ho _ trivial
 simp only at h1 h2
 have hl1 := dh (aa (aX 52 hl bl))
 rw [cL] at hl1
 have hle : hl.length ≤ 100000 := by
  have : (aX 52 hl bl).length = hl.length + (cG bl).length := by simp [aX, cG]
  omega
 refine Eq.mpr (X5 κ ⟨fv 52 (aX 52 hl bl), more, rel, hl, bl, line, i⟩ K) ?_
 have hz : ∀ ts : List AV, ts = hl → (ts ++ cG (List.drop (Int.toNat 0) bl)) = aX 52 hl bl := fun ts h => by subst h; rfl
 have fin : ∀ ts : List AV, ts = hl → ∃ a : vz, sp 46 [(2, .ptr 2 0 [] 0), (32, .a7 3 0 (ts ++ cG (List.drop (Int.toNat 0) bl)).length), (33, .int (ts ++ cG (List.drop (Int.toNat 0) bl)).length), (34, .int 0)] [.ext (some (fv 52 (aX 52 hl bl))), .box 41 (aF ⟨fv 52 (aX 52 hl bl), more, rel, hl, bl, line, i⟩), .box 178 (.dv 0), .row 52 (ts ++ cG (List.drop (Int.toNat 0) bl))] = Ep a ∧ yw a ∧ ∀ y : Bool, True → ax y (K (.bR []) [.ext (some []), .box 41 (aF a.r)]) (K (.bR []) [.ext none, .box 41 (aF a.r)]) := by
  intro ts h
  refine ⟨⟨_, [], ⟨fv 52 (aX 52 hl bl), more, rel, hl, bl, line, i⟩, bl, ts ++ cG (List.drop (Int.toNat 0) bl), 0⟩, rfl, ⟨?_, ?_, ?_, ?_, ?_⟩, fun y _ => ?_⟩
  ·simp only [hz ts h, aI]; omega
  ·simp only; omega
  ·simp only; omega
  ·show aH (aa (List.drop (Int.toNat 0) (ts ++ cG (List.drop (Int.toNat 0) bl)))) ≤ 100000
   rw [hz ts h]; exact h1
  ·rw [hz ts h]; rfl
  ·cases y
   ·exact hn _
   ·exact h0 _
 refine ⟨fun e => ?_, ?_⟩
 ·obtain rfl : hl = [] := by
   cases hl with
   | nil => rfl
   | cons => cases e
  refine ⟨rfl, ⟨_, [], ⟨fv 52 (aX 52 [] bl), more, rel, [], bl, line, i⟩, bl, [], 0⟩, rfl, ⟨by simp only; omega, by simp only; omega, by simp only; omega, ?_⟩, rfl, fin [] rfl⟩
  rw [hz [] rfl]; exact Nat.le_trans hl1 h1
 ·rw [aq, aa0]
  refine ⟨by simp only; omega, rfl, ⟨_, [], ⟨fv 52 (aX 52 hl bl), more, rel, hl, bl, line, i⟩, bl, [] ++ hl, 0⟩, ?_, ⟨by simp only; omega, by simp only; omega, by simp only; omega, ?_⟩, rfl, fin ([] ++ hl) rfl⟩
  ·rw [Nat.zero_add]; rfl
  ·rw [hz ([] ++ hl) rfl]; exact Nat.le_trans hl1 h1
set_option maxRecDepth 20000 in
noncomputable def L3 (κ : Kp) : Env := (JC κ).ar 158 (a8 M3 bZ Ix)
theorem Xl (κ : Kp) : aw (L3 κ) := (S1 κ).ar (P5 κ) (YM κ)
theorem TZ (κ : Kp) : ai (L3 κ) := (P5 κ).ar aJ
def aL (a : b5) : Rl := ⟨⟨a.rel, aa a.hl⟩, bn a.bl⟩
noncomputable abbrev QK (a : b5) (κ : Kp) (st : LoopState) (p : Option Code) : Dn.Obj :=
 .loop (oP (Pr κ).toProgram 97 6 st p (nZ (dc 31) [(0, aF a), (1, .ptr 0 0 [] 0), (2, .nil), (3, .ptr 1 0 [] 0), (4, .ptr 3 0 [] 0), (6, aF a), (7, .bool (aG (aL a))), (8, .bool false), (9, .mp 2), (10, aF a), (11, .dq 158 [.ptr 4 0 [] 0])]))
noncomputable abbrev oH (κ : Kp) (a : b5) : List Dn.Obj := [.box 41 (aF a), .box 60 .nil, .map 9 4 [], .box 113 (.mp 2), .box 41 (aF a), QK a κ .ready none]
theorem s12 (κ : Kp) (a : b5) (Q : List Dn.Obj → Prop) : (tidy (Pr κ).toProgram 6 (eC (oH κ a) (ec (oH κ a) [.ptr 4 0 [] 0])) Q) = (
 Q [Obj.box 41 (aF a), Obj.box 60 (AV.a7 6 0 0), Dn.Obj.map 9 4 [], Obj.box 113 (AV.mp 2), Obj.dead, Dn.Obj.loop (oP Tryz.prog 97 6 LoopState.ready none (nZ
 (dc 31) [(0, aF a), (1, AV.ptr 0 0 [] 0), (2, AV.nil), (3, AV.ptr 1 0 [] 0), (4, AV.ptr 3 0 [] 0), (6, aF a), (7, AV.bool (aG (aL a))), (8, AV.bool
 false), (9, AV.mp 2), (10, aF a), (11, AV.dq 158 [AV.ptr 4 0 [] 0])])), Obj.row 9 []]) := by kernel_rfl
noncomputable abbrev xQ (κ : Kp) (a : b5) (vs : List ByteArray) (es : List (Value × AV)) : List Dn.Obj := [.box 41 (aF a), .box 60 (.a7 6 0 vs.length), .map 9 4 es, .box 113 (.mp 2), .dead, QK a κ .ready none, .row 9 (strs vs)]
theorem r12 (κ : Kp) (a : b5) (vs : List ByteArray) (es : List (Value × AV)) (u : AV) (Q : List Dn.Obj → Prop) (K2 : List Dn.Obj → Prop) : (j7 (vc (L3 κ) 12) 5 [oM 52 u] (xQ κ a vs es) (fun r st'' => match r with | .lit (.bool true) => tidy (Pr κ).toProgram 6 st'' Q | .lit (.bool false) => K2 st'' | _ => False)) = (
 letI z1 := oP Tryz.prog 97 6 LoopState.ready none (nZ (dc 31) [(0, aF a), (1, AV.ptr 0 0 [] 0), (2, AV.nil), (3, AV.ptr 1 0 [] 0), (4, AV.ptr 3 0 [] 0), (6, aF
  a), (7, AV.bool (aG (aL a))), (8, AV.bool false), (9, AV.mp 2), (10, aF a), (11, AV.dq 158 [AV.ptr 4 0 [] 0])])
 letI z2 := Q [Obj.box 41 (aF a), Obj.box 60 (AV.a7 6 0 vs.length), Dn.Obj.map 9 4 es, Obj.box 113 (AV.mp 2), Obj.dead, Dn.Obj.loop z1, Obj.row 9 (strs vs)]
 letI z3 := Value.string (toStr (ad u 1))
 ax (toInt (ad u 0) != (1 : Int)) z2 (ax (Dn.toBool (eg es z3 (AV.bool false))) z2 (aZ (decide ((vs.length + 1 + 1) * 17 ≤ 70368744177664)) (Q [Obj.box 41 (aF
 a), Obj.box 60 (AV.a7 6 0 (vs.length + 1)), Dn.Obj.map 9 4 (ft es z3 (AV.bool true)), Obj.box 113 (AV.mp 2), Obj.dead, Dn.Obj.loop z1, Obj.row 9 (List.take
 vs.length (strs vs) ++ [AV.str (toStr (ad u 1))])])))) := by kernel_rfl
theorem Vv (κ : Kp) (a : b5) (xs : List AV) : (AV.dv 0 :: gB (my (ec (oH κ a) [.ptr 4 0 [] 0])) [.ptr 4 0 [] 0], Obj.ext (some xs) :: ic (my (ec (oH κ a) [.ptr 4 0 [] 0])) (iB (oH κ a) (ec (oH κ a) [.ptr 4 0 [] 0]))) = ([.dv 0, .ptr 1 0 [] 0], [.ext (some xs), .box 41 (aF a)]) := by kernel_rfl
theorem Z4 (κ : Kp) (a : b5) : vo (oH κ a) [.ptr 4 0 [] 0] = true := by kernel_rfl
noncomputable def IP (κ : Kp) : fN := fun caps st K => ∃ a : b5, (caps, st) = ([AV.ptr 4 0 [] 0], oH κ a) ∧ bZ a ∧ K (xQ κ a (gI [] (cQ (aL a))) (cv (gI [] (cQ (aL a)))))
theorem C7 (κ : Kp) : (IP κ).ot := by
 rintro caps st K K' hK ⟨a, h1, h2, h3⟩
 exact ⟨a, h1, h2, hK _ h3⟩
theorem call12 (κ : Kp) (args : List AV) (st : List Dn.Obj) (K : AV → List Dn.Obj → Prop) (h : a8 M3 bZ Ix args st K) : (L3 κ).call 158 args st K := h
theorem Sw (κ : Kp) : qc (L3 κ) 12 158 (IP κ) := by
 rintro caps st K ⟨a, h1, h3, h5⟩
 obtain ⟨rfl, rfl⟩ := Prod.mk.inj h1
 have hv := jh 52 a.rel a.hl a.bl
 rw [← rV 52] at hv
 have hb : (cQ (aL a)).length ≤ 100000 := by
  have h6 := cq (aa (aX 52 a.hl a.bl))
  rw [jh 52 a.rel a.hl a.bl] at h6
  exact Nat.le_trans h6 h3.1
 have hd := jV (cQ (aL a)) []
 refine ⟨fv 52 (aX 52 a.hl a.bl), fun items st' => ∃ vs, (∀ x, x ∈ items → rH 52 x) ∧ st' = xQ κ a vs (cv vs) ∧ vs ++ gI vs (items.flatMap tq) = gI [] (cQ (aL a)), ⟨Z4 κ a, ?_, ?_, ?_, ?_⟩⟩
 ·refine call12 κ _ _ _ ⟨a, ?_, h3, fun st' h => h⟩
  rw [Vv]; rfl
 ·rw [show (L3 κ).P = Pr κ from rfl, show (oH κ a).length = 6 from rfl, s12]
  exact ⟨[], AS _ _, rfl, by rw [hv]; rfl⟩
 ·rintro us rest st' ⟨vs, e1, rfl, e3⟩
  obtain ⟨u, hu⟩ := e1 (.bR us) (by simp)
  obtain rfl := AV.bR.inj hu
  rw [show (L3 κ).P = Pr κ from rfl, show (oH κ a).length = 6 from rfl]
  refine Eq.mpr (r12 κ a vs _ u _ _) ?_
  have e1' : ∀ x, x ∈ rest → rH 52 x := fun x hx => e1 x (by simp [hx])
  have hi : tq (.bR [oM 52 u]) = bif decide (toInt (ad u 0) = 1) then [toStr (ad u 1)] else [] := rfl
  rw [List.flatMap_cons, hi] at e3
  have hin : Dn.toBool (eg (cv vs) (.string (toStr (ad u 1))) (.lit (.bool false))) = vs.contains (toStr (ad u 1)) := pW _ _
  rw [hin]
  simp only [af, aq, bne_iff_ne, bne_eq_false_iff_eq, aa0]
  refine ⟨fun e => ⟨vs, e1', rfl, ?_⟩, fun e => ⟨fun e4 => ⟨vs, e1', rfl, ?_⟩, fun e4 => ⟨?_, vs ++ [toStr (ad u 1)], e1', ?_, ?_⟩⟩⟩
  ·rw [aa4 e] at e3; exact e3
  ·rw [aa6 e, aa7, List.singleton_append, gI, e4] at e3; exact e3
  ·have := congrArg List.length e3
   rw [ab9] at this; omega
  ·rw [Lv, ← aM vs, List.take_length]
   simp only [xQ, gn, aM, ab9, List.length_cons, List.length_nil]
   rfl
  ·rw [aa6 e, aa7, List.singleton_append, gI, e4, aa5] at e3
   simpa using e3
 ·rintro st' ⟨vs, _, rfl, e3⟩
  have e4 : vs = gI [] (cQ (aL a)) := by simpa [gI] using e3
  rw [e4]; exact h5
noncomputable def Iw (κ : Kp) : Env := ((L3 κ).addRange 97 6 158 (IP κ)).eZ (fun f => mw f M1)
theorem Re (κ : Kp) : aw (Iw κ) := ((Xl κ).addRange (TZ κ) (Sw κ)).eZ _
theorem Pe (κ : Kp) : ai (Iw κ) := ((TZ κ).addRange (C7 κ)).eZ _
theorem Wa (κ : Kp) (a : b5) (K : AV → List Dn.Obj → Prop) : (a9 (Iw κ) 12 97 [aF a] [] K) = (
 letI z1 := AV.agg [AV.agg [AV.str a.rel, AV.ae 52 a.hl], AV.ae 55 a.bl, AV.int a.line]
 aZ (decide (a.hl.length ≤ 9223372036854775807) && decide (a.bl.length ≤ 9223372036854775807)) (ax (!aG {head := { rel := a.rel, l := aa a.hl }, body := bn a.bl }) (K (AV.nil) []) (∃ (a_1 : b5), ([AV.ptr 4 0 [] 0], [Obj.box 41 z1, Obj.box 60 (AV.nil), Dn.Obj.map 9 4 [], Obj.box 113 (AV.mp 2), Obj.box 41 z1, Dn.Obj.loop (oP Tryz.prog 97 6 LoopState.ready none (nZ (dc 31) [(0, AV.agg [AV.agg [AV.str a.rel, AV.ae 52 a.hl], AV.ae 55 a.bl, AV.int a.line]), (1, AV.ptr 0 0 [] 0), (2, AV.nil), (3, AV.ptr 1 0 [] 0), (4, AV.ptr 3 0 [] 0), (6, AV.agg [AV.agg [AV.str a.rel, AV.ae 52 a.hl], AV.ae 55 a.bl, AV.int a.line]), (7, AV.lit (Value.bool (aG {head := { rel := a.rel, l := aa a.hl }, body := bn a.bl }))), (8, AV.bool false), (9, AV.mp 2), (10, AV.agg [AV.agg [AV.str a.rel, AV.ae 52 a.hl], AV.ae 55 a.bl, AV.int a.line]), (11, AV.dq 158 [AV.ptr 4 0 [] 0])]))]) = ([AV.ptr 4 0 [] 0], [Obj.box 41 (AV.agg [AV.agg [AV.str a_1.rel, AV.ae 52 a_1.hl], AV.ae 55 a_1.bl, AV.int a_1.line]), Obj.box 60 (AV.nil), Dn.Obj.map 9 4 [], Obj.box 113 (AV.mp 2), Obj.box 41 (AV.agg [AV.agg [AV.str a_1.rel, AV.ae 52 a_1.hl], AV.ae 55 a_1.bl, AV.int a_1.line]), Dn.Obj.loop (oP Tryz.prog 97 6 LoopState.ready none (nZ (dc 31) [(0, AV.agg [AV.agg [AV.str a_1.rel, AV.ae 52 a_1.hl], AV.ae 55 a_1.bl, AV.int a_1.line]), (1, AV.ptr 0 0 [] 0), (2, AV.nil), (3, AV.ptr 1 0 [] 0), (4, AV.ptr 3 0 [] 0), (6, AV.agg [AV.agg [AV.str a_1.rel, AV.ae 52 a_1.hl], AV.ae 55 a_1.bl, AV.int a_1.line]), (7, AV.bool (aG (aL a_1))), (8, AV.bool false), (9, AV.mp 2), (10, AV.agg [AV.agg [AV.str a_1.rel, AV.ae 52 a_1.hl], AV.ae 55 a_1.bl, AV.int a_1.line]), (11, AV.dq 158 [AV.ptr 4 0 [] 0])]))]) ∧ (aH (aa (aX 52 a_1.hl a_1.bl)) ≤ 100000 ∧ a_1.bl.length ≤ 100000) ∧ K (AV.a7 0 0 (List.length (gI [] (cQ (aL a_1))))) [Obj.row 9 (strs (gI [] (cQ (aL a_1))))]))) := by kernel_rfl
def PD (a : b5) : List AV × List Dn.Obj := ([aF a], [])
def II (a : b5) : Prop := aG (aL a) = true ∧ bZ a
def Hg (a : b5) : Out (AV × List Dn.Obj) := .one (.a7 0 0 (bq (aL a)).length, [.row 9 (strs (bq (aL a)))])
theorem c12 (κ : Kp) : bJ (Iw κ) 12 97 (a8 PD II Hg) := by
 refine bh ?_
 rintro ⟨xs, more, rel, hl, bl, line, i⟩ K ⟨h0, h1, h2⟩ ho
 refine Eq.mpr (Wa κ ⟨xs, more, rel, hl, bl, line, i⟩ K) ?_
 have hr : aG ⟨⟨rel, aa hl⟩, bn bl⟩ = true := h0
 simp only at h1 h2
 have hl1 := dh (aa (aX 52 hl bl))
 rw [cL] at hl1
 have hle : hl.length ≤ 100000 := by
  have : (aX 52 hl bl).length = hl.length + (cG bl).length := by simp [aX, cG]
  omega
 simp only [hr, aq, af, aa1, aa0]
 refine ⟨⟨by omega, by omega⟩, (fun e => nomatch e), fun _ => ⟨⟨xs, more, rel, hl, bl, line, i⟩, ?_, ⟨h1, h2⟩, ?_⟩⟩
 ·rw [show aG (aL ⟨xs, more, rel, hl, bl, line, i⟩) = true from h0]
 ·simp only [Hg, Out.run, bq, h0, aa7] at ho
  exact ho
set_option maxRecDepth 20000 in
noncomputable def HA (κ : Kp) : Env := (Iw κ).ar 97 (a8 PD II Hg)
theorem e12 (κ : Kp) : aw (HA κ) := (Re κ).ar (Pe κ) (c12 κ)
theorem Ue (κ : Kp) : ai (HA κ) := (Pe κ).ar aJ
theorem jf : ∀ l m : List Tm, aH (l ++ m) = aH l + aH m
 | [], m => by simp [aH]
 | t :: l, m => by simp only [List.cons_append, aH, jf l m]; omega
theorem kG {a : b5} (h : bZ a) : aH (aa a.hl) ≤ 100000 := by
 have := h.1
 unfold aX aa at this
 rw [List.map_append, jf] at this
 unfold aa; omega
theorem yz : ∀ (l : List AV) (x : AV), x ∈ l → dC (bz x) ≤ aH (aa (cG l))
 | [], _, h => by simp at h
 | y :: l, x, h => by
  have e : aH (aa (cG (y :: l))) = dC (bz y) + aH (aa (cG l)) := by
   unfold cG aa
   rw [List.flatMap_cons, List.map_append, jf, List.map_append, jf]
   simp only [dC, bz, Br, aa, ac2, ac3, ob]
  rw [e]
  rcases List.mem_cons.1 h with rfl | h
  ·omega
  ·have := yz l x h; omega
theorem fj {a : b5} (h : bZ a) {i : Nat} (hi : i < a.bl.length) : dC (bz (nth a.bl i)) ≤ 100000 := by
 have h1 := h.1
 have e : aX 52 a.hl a.bl = a.hl ++ cG a.bl := rfl
 rw [e] at h1
 unfold aa at h1
 rw [List.map_append, jf] at h1
 have := yz a.bl (nth a.bl i) (by rw [bx _ _ hi]; exact List.getElem_mem hi)
 unfold aa at this; omega
theorem fM (l : List AV) {i : Nat} (hi : i < l.length) : bj (bn l) i = bz (nth l i) := by
 unfold bj bn
 rw [List.getD_eq_getElem?_getD, List.getElem?_map, ab7 hi, bx l i hi]; rfl
def nf (x : AV) : LA := ⟨toInt (ad x 0), toStr (ad (ad x 1) 0), ah (ad (ad x 1) 1), toInt (ad (ad x 2) 0), toStr (ad (ad x 2) 1), toInt (ad (ad x 2) 2), ah (ad (ad x 2) 3), toInt (ad (ad x 3) 0), toStr (ad (ad x 3) 1), toInt (ad (ad x 3) 2), ah (ad (ad x 3) 3)⟩
theorem cM (x : AV) : (nf x).lt = bz x := by rw [lt_eq]; rfl
structure NO where
 a : b5
 k : Int
 i : Int
 vs : List ByteArray
abbrev LP (a : NO) : S := sp 53 [(1, .int a.k), (2, .ptr 0 0 [] 0), (5, .ptr 1 0 [] 0), (17, .ae 55 a.a.bl), (18, .int a.a.bl.length), (19, .int a.i)] [.box 41 (aF a.a), .box 114 (.mp 2), .map 9 4 (cv a.vs)]
theorem W3 (κ : Kp) (a : b5) (k i : Int) (es : List (Value × AV)) (I : Nat → S → Prop) (n : Nat) (K : Exit → S → Prop) : (vc (HA κ) 12 127 none 0 (ag (Pr κ).toProgram 127 4) (sp 53 [(1, .int k), (2, .ptr 0 0 [] 0), (5, .ptr 1 0 [] 0), (17, .ae 55 a.bl), (18, .int a.bl.length), (19, .int i)] [.box 41 (aF a), .box 114 (.mp 2), .map 9 4 es]) (bC (HA κ) 127 4 0 I n K)) = (
 letI z1 := nth a.bl i.toNat
 letI z2 := IntKind.wrap IntKind.i64 (i + (1 : Int))
 letI z3 := ad z1 2
 letI z4 := toInt (ad z3 0)
 letI z5 := toStr (ad z3 1)
 letI z6 := toInt (ad z3 2)
 letI z7 := ah (ad z3 3)
 letI z8 := ad z1 3
 letI z9 := Value × AV
 letI z10 := AV.mp 2
 ax (decide (i < (↑(a.bl.length) : Int))) (aZ (decide ((0 : Int) ≤ i) && decide (i < (↑(a.bl.length) : Int))) (ax (i == k) ((∃ (a_1 : List AV), ([AV.ae 52
 [AV.agg [AV.int z4, AV.str z5, AV.int z6, AV.ae 52 z7]]], az) = ([AV.ae 52 a_1], az) ∧ bu a_1 ∧ ∃ (a_2 : List AV × List z9), ([AV.mp 0, AV.ae 9 (List.take
 (List.length (an (aa a_1))) (List.drop 0 (strs (an (aa a_1)))))], [Dn.Obj.map 9 4 es]) = ([AV.mp 0, AV.ae 9 a_2.1], [Dn.Obj.map 9 4 a_2.2]) ∧ br a_2 ∧ ∃ (m :
 Nat), m < n ∧ I m (sp 53 [(1, AV.int k), (2, AV.ptr 0 0 [] 0), (5, AV.ptr 1 0 [] 0), (17, AV.ae 55 a.bl), (18, AV.int (↑(a.bl.length) : Int)), (19, AV.int z2)]
 [Obj.box 41 (aF a), Obj.box 114 z10, Dn.Obj.map 9 4 (gK a_2.2 a_2.1)])) ∧ (∃ (a_1 : List AV), ([AV.ae 52 [AV.agg [AV.int z4, AV.str z5, AV.int z6, AV.ae 52
 z7]]], az) = ([AV.ae 52 a_1], az) ∧ bu a_1 ∧ ∃ (a_2 : List AV × List z9), ([AV.mp 0, AV.ae 9 (List.take (List.length (an (aa a_1))) (List.drop 0 (strs (an (aa
 a_1)))))], [Dn.Obj.map 9 4 es]) = ([AV.mp 0, AV.ae 9 a_2.1], [Dn.Obj.map 9 4 a_2.2]) ∧ br a_2 ∧ ∃ (m : Nat), m < n ∧ I m (sp 53 [(1, AV.int k), (2, AV.ptr 0 0
 [] 0), (5, AV.ptr 1 0 [] 0), (17, AV.ae 55 a.bl), (18, AV.int (↑(a.bl.length) : Int)), (19, AV.int z2)] [Obj.box 41 (aF a), Obj.box 114 z10, Dn.Obj.map 9 4 (gK
 a_2.2 a_2.1)])) ∧ ∃ (a_1 : List AV), ([AV.ae 52 [AV.agg [AV.int z4, AV.str z5, AV.int z6, AV.ae 52 z7]]], az) = ([AV.ae 52 a_1], az) ∧ bu a_1 ∧ ∃ (a_2 : List AV
 × List z9), ([AV.mp 0, AV.ae 9 (List.take (List.length (an (aa a_1))) (List.drop 0 (strs (an (aa a_1)))))], [Dn.Obj.map 9 4 es]) = ([AV.mp 0, AV.ae 9 a_2.1],
 [Dn.Obj.map 9 4 a_2.2]) ∧ br a_2 ∧ ∃ (m : Nat), m < n ∧ I m (sp 53 [(1, AV.int k), (2, AV.ptr 0 0 [] 0), (5, AV.ptr 1 0 [] 0), (17, AV.ae 55 a.bl), (18, AV.int
 (↑(a.bl.length) : Int)), (19, AV.int z2)] [Obj.box 41 (aF a), Obj.box 114 z10, Dn.Obj.map 9 4 (gK a_2.2 a_2.1)])) ((∃ (a_1 : LA), ([AV.agg [AV.int (toInt (ad z1
 0)), AV.agg [AV.str (toStr (ad (ad z1 1) 0)), AV.ae 52 (ah (ad (ad z1 1) 1))], AV.agg [AV.int z4, AV.str z5, AV.int z6, AV.ae 52 z7], AV.agg [AV.int (toInt (ad
 z8 0)), AV.str (toStr (ad z8 1)), AV.int (toInt (ad z8 2)), AV.ae 52 (ah (ad z8 3))]]], az) = ([AV.agg [AV.int a_1.op, AV.agg [AV.str a_1.s, AV.ae 52 a_1.l],
 AV.agg [AV.int a_1.o1, AV.str a_1.s1, AV.int a_1.n1, AV.ae 52 a_1.l1], AV.agg [AV.int a_1.o2, AV.str a_1.s2, AV.int a_1.n2, AV.ae 52 a_1.l2]]], az) ∧ fP a_1 ∧ ∃
 (a_2 : List AV × List z9), ([AV.mp 0, AV.ae 9 (List.take (List.length (cx (LA.lt a_1))) (List.drop 0 (strs (cx (LA.lt a_1)))))], [Dn.Obj.map 9 4 es]) = ([AV.mp
 0, AV.ae 9 a_2.1], [Dn.Obj.map 9 4 a_2.2]) ∧ br a_2 ∧ ∃ (m : Nat), m < n ∧ I m (sp 53 [(1, AV.int k), (2, AV.ptr 0 0 [] 0), (5, AV.ptr 1 0 [] 0), (17, AV.ae 55
 a.bl), (18, AV.int (↑(a.bl.length) : Int)), (19, AV.int z2)] [Obj.box 41 (aF a), Obj.box 114 z10, Dn.Obj.map 9 4 (gK a_2.2 a_2.1)])) ∧ ∃ (a_1 : LA), ([AV.agg
 [AV.int (toInt (ad z1 0)), AV.agg [AV.str (toStr (ad (ad z1 1) 0)), AV.ae 52 (ah (ad (ad z1 1) 1))], AV.agg [AV.int z4, AV.str z5, AV.int z6, AV.ae 52 z7],
 AV.agg [AV.int (toInt (ad z8 0)), AV.str (toStr (ad z8 1)), AV.int (toInt (ad z8 2)), AV.ae 52 (ah (ad z8 3))]]], az) = ([AV.agg [AV.int a_1.op, AV.agg [AV.str
 a_1.s, AV.ae 52 a_1.l], AV.agg [AV.int a_1.o1, AV.str a_1.s1, AV.int a_1.n1, AV.ae 52 a_1.l1], AV.agg [AV.int a_1.o2, AV.str a_1.s2, AV.int a_1.n2, AV.ae 52
 a_1.l2]]], az) ∧ fP a_1 ∧ ∃ (a_2 : List AV × List z9), ([AV.mp 0, AV.ae 9 (List.take (List.length (cx (LA.lt a_1))) (List.drop 0 (strs (cx (LA.lt a_1)))))],
 [Dn.Obj.map 9 4 es]) = ([AV.mp 0, AV.ae 9 a_2.1], [Dn.Obj.map 9 4 a_2.2]) ∧ br a_2 ∧ ∃ (m : Nat), m < n ∧ I m (sp 53 [(1, AV.int k), (2, AV.ptr 0 0 [] 0), (5,
 AV.ptr 1 0 [] 0), (17, AV.ae 55 a.bl), (18, AV.int (↑(a.bl.length) : Int)), (19, AV.int z2)] [Obj.box 41 (aF a), Obj.box 114 z10, Dn.Obj.map 9 4 (gK a_2.2
 a_2.1)])))) (K (Exit.exit 0) (sp 53 [(1, AV.int k), (2, AV.ptr 0 0 [] 0), (5, AV.ptr 1 0 [] 0)] [Obj.box 41 (aF a), Obj.box 114 z10, Dn.Obj.map 9 4 es]))) := by kernel_rfl
def Fh (a : NO) : Prop := bZ a.a ∧ 0 ≤ a.k ∧ 0 ≤ a.i ∧ a.i ≤ a.a.bl.length
def mY (a : NO) : List ByteArray := a.vs ++ so a.k.toNat (bn (a.a.bl.drop a.i.toNat)) a.i.toNat
def uc (a : NO) : Out (Exit × S) := .one (.exit 0, sp 53 [(1, .int a.k), (2, .ptr 0 0 [] 0), (5, .ptr 1 0 [] 0)] [.box 41 (aF a.a), .box 114 (.mp 2), .map 9 4 (cv (mY a))])
theorem VH (κ : Kp) : bg (HA κ) 12 127 4 (aK 0 LP Fh uc) := by
 refine aO (fun a => a.a.bl.length - a.i.toNat) ?_
 rintro ⟨a, k, i, vs⟩ K ⟨h1, h2, h3, h4⟩ ho
 simp only at h1 h2 h3 h4
 rw [show (HA κ).P = Pr κ from rfl]
 refine Eq.mpr (W3 κ a k i (cv vs) _ _ K) ?_
 simp only [and_self]
 have hl := h1.2
 simp only [uc, mY, Out.run] at ho
 simp only [af, aq, aa0, aa2, aa1, beq_iff_eq, beq_eq_false_iff_ne]
 refine ⟨fun hi => ⟨⟨h3, hi⟩, ?_⟩, fun hi => ?_⟩
 ·have hlit := fj h1 (i := i.toNat) (by omega)
  rw [jd a.bl i.toNat (by omega), so] at ho
  rw [aU (n := i + 1) (by omega) (by omega)]
  refine ⟨fun e => ?_, fun e => ?_⟩
  ·subst e
   rw [Nat.beq_refl, aa7, ← List.append_assoc] at ho
   have ht : aa [oM 52 (ad (nth a.bl i.toNat) 2)] = [(bz (nth a.bl i.toNat)).x] := by
    simp only [aa, ac2, ac3, ob]; rfl
   have hc : aH [(bz (nth a.bl i.toNat)).x] ≤ 100000 := by
    have : dC (bz (nth a.bl i.toNat)) = aH [(bz (nth a.bl i.toNat)).x, (bz (nth a.bl i.toNat)).y] + aH (bz (nth a.bl i.toNat)).a.l := rfl
    simp only [aH] at this ⊢; omega
   have hv := cq [(bz (nth a.bl i.toNat)).x]
   refine ⟨[oM 52 (ad (nth a.bl i.toNat) 2)], rfl, by simp only [bu, ht]; exact hc, ⟨strs (an [(bz (nth a.bl i.toNat)).x]), cv vs⟩, ?_, ?_, _, ?_, ⟨a, i, i + 1, vs ++ an [(bz (nth a.bl i.toNat)).x]⟩, ?_, ⟨h1, h2, by simp only; omega, by simp only; omega⟩, rfl, ?_⟩
   ·simp only [ab0, cB, ht]
   ·simp only [br, aM, aI]; omega
   ·simp only; omega
   ·simp only [qK]
   ·simp only [uc, mY, Out.run, show (i + 1).toNat = i.toNat + 1 by omega]
    exact ho
  ·rw [pF (show i.toNat ≠ k.toNat by omega), aa5, ← List.append_assoc] at ho
   have hv := cq [(bz (nth a.bl i.toNat)).x, (bz (nth a.bl i.toNat)).y]
   have hv2 := cq (bz (nth a.bl i.toNat)).a.l
   have hlen : (cx (bz (nth a.bl i.toNat))).length ≤ 100000 := by
    simp only [cx, dC, ab9] at hlit ⊢; omega
   refine ⟨nf (nth a.bl i.toNat), rfl, by rw [fP, cM]; exact hlit, ⟨strs (cx (bz (nth a.bl i.toNat))), cv vs⟩, ?_, ?_, _, ?_, ⟨a, k, i + 1, vs ++ cx (bz (nth a.bl i.toNat))⟩, ?_, ⟨h1, h2, by simp only; omega, by simp only; omega⟩, rfl, ?_⟩
   ·simp only [ab0, cB, cM]
   ·simp only [br, aM, aI]; omega
   ·simp only; omega
   ·simp only [qK]
   ·simp only [uc, mY, Out.run, show (i + 1).toNat = i.toNat + 1 by omega]
    exact ho
 ·rw [aa8 (by omega)] at ho
  simpa [bn, so] using ho
noncomputable def vX (κ : Kp) : Env := (HA κ).aj 127 4 (aK 0 LP Fh uc)
theorem Pp (κ : Kp) : aw (vX κ) := (e12 κ).aj (Ue κ) (VH κ)
theorem Mv (κ : Kp) : ai (vX κ) := (Ue κ).aj aE
def de (fx : List (Value × AV)) (fA : List (Value × AV)) (s : ByteArray) : Bool := sV fx s && sV fA s
structure DO where
 vs : List ByteArray
 i : Int
 fx : List (Value × AV)
 fA : List (Value × AV)
abbrev Ac (R : List AV) (fx : List (Value × AV)) (fA : List (Value × AV)) : List Dn.Obj := [.row 9 R, .box 114 (.mp 2), .map 9 4 fx, .box 114 (.mp 4), .map 9 4 fA]
abbrev KE : AV := .dq 154 [.ptr 1 0 [] 0, .ptr 3 0 [] 0]
abbrev FK (a : DO) : S := sp 19 [(0, .a7 0 0 (strs a.vs).length), (1, KE), (7, .int (strs a.vs).length), (8, .int a.i)] (Ac (strs a.vs) a.fx a.fA)
theorem xFO (κ : Kp) (a : DO) (I : Nat → S → Prop) (n : Nat) (K : Exit → S → Prop) : (vc (vX κ) 12 155 none 5 (ag (Pr κ).toProgram 155 2) (FK a) (bC (vX κ) 155 2 5 I n K)) = (
 letI z4 := strs a.vs
 letI z1 := K Exit.ret (sp 19 [(4, AV.int a.i)] [Obj.row 9 z4, Obj.box 114 (AV.mp 2), Dn.Obj.map 9 4 a.fx, Obj.box 114 (AV.mp 4), Dn.Obj.map 9 4 a.fA])
 letI z2 := List.length z4
 letI z3 := Value.string (toStr (nth z4 (0 + a.i.toNat)))
 ax (decide (a.i < (↑z2 : Int))) (aZ (decide ((0 : Int) ≤ a.i) && decide (a.i < (↑z2 : Int))) (ax (!Dn.toBool (eg a.fx z3 (AV.bool false))) z1 (ax (!Dn.toBool
 (eg a.fA z3 (AV.bool false))) z1 (∃ (m : Nat), m < n ∧ I m (sp 19 [(0, AV.a7 0 0 z2), (1, AV.dq 154 [AV.ptr 1 0 [] 0, AV.ptr 3 0 [] 0]), (7, AV.int (↑z2 :
 Int)), (8, AV.int (IntKind.wrap IntKind.i64 (a.i + (1 : Int))))] [Obj.row 9 z4, Obj.box 114 (AV.mp 2), Dn.Obj.map 9 4 a.fx, Obj.box 114 (AV.mp 4), Dn.Obj.map 9
 4 a.fA]))))) (K (Exit.exit 0) (sp 19 [] [Obj.row 9 z4, Obj.box 114 (AV.mp 2), Dn.Obj.map 9 4 a.fx, Obj.box 114 (AV.mp 4), Dn.Obj.map 9 4 a.fA]))) := by kernel_rfl
def BN (a : DO) : Prop := a.vs.length ≤ aI ∧ 0 ≤ a.i ∧ a.i ≤ a.vs.length ∧ ∀ s, s ∈ a.vs.take a.i.toNat → de a.fx a.fA s = true
def Ak (a : DO) : Out (Exit × S) :=
 .ax (a.vs.all (de a.fx a.fA)) (.one (.exit 0, sp 19 [] (Ac (strs a.vs) a.fx a.fA)))
  (.all (fun j : Int => AG (de a.fx a.fA) a.vs j) fun j => .one (.ret, sp 19 [(4, .int j)] (Ac (strs a.vs) a.fx a.fA)))
theorem Vj (κ : Kp) : bg (vX κ) 12 155 2 (aK 5 FK BN Ak) := by
 refine aO (fun a => a.vs.length - a.i.toNat) ?_
 rintro ⟨vs, i, fx, fA⟩ K ⟨h1, h2, h3, h4⟩ ho
 simp only at h1 h2 h3 h4
 rw [show (vX κ).P = Pr κ from rfl]
 refine Eq.mpr (xFO κ ⟨vs, i, fx, fA⟩ _ _ K) ?_
 simp only [aI] at h1
 simp only [Ak, Out.run, af] at ho
 have hl := aM vs
 simp only [aM, Nat.zero_add]
 have fin : i < vs.length → ∀ (hi : i.toNat < vs.length), (de fx fA vs[i.toNat] = false → K .ret (sp 19 [(4, .int i)] (Ac (strs vs) fx fA))) ∧
   (de fx fA vs[i.toNat] = true → ∃ m, m < vs.length - i.toNat ∧ fp FK BN Ak (fun a => a.vs.length - a.i.toNat) K m (FK ⟨vs, i + 1, fx, fA⟩)) := by
  intro hi0 hi
  refine ⟨fun e => ho.2 ?_ i ⟨h2, hi, h4, e⟩, fun e => ⟨_, ?_, ⟨vs, i + 1, fx, fA⟩, rfl, ⟨by simpa [aI] using h1, by simp only; omega, by simp only; omega, ?_⟩, rfl, ?_⟩⟩
  ·rw [Bool.eq_false_iff]
   intro hall
   rw [List.all_eq_true.1 hall _ (List.getElem_mem hi)] at e
   cases e
  ·simp only; omega
  ·intro s hs
   simp only at hs
   rw [show (i + 1).toNat = i.toNat + 1 by omega, List.take_succ_eq_append_getElem hi, List.mem_append, List.mem_singleton] at hs
   rcases hs with hs | hs
   ·exact h4 s hs
   ·rw [hs]; exact e
  ·simp only [Ak, Out.run, af]
   exact ho
 simp only [af, aq, aa0, aa2, aa1, Bool.not_eq_true', ab2]
 refine ⟨fun hi => ⟨⟨h2, hi⟩, ?_⟩, fun hi => ?_⟩
 ·have hi' : i.toNat < vs.length := by omega
  have hn : toStr (nth (strs vs) i.toNat) = vs[i.toNat] := by rw [nU vs _ hi']; rfl
  rw [aU (n := i + 1) (by omega) (by omega), hn]
  have hf := fin hi hi'
  simp only [FK, aM] at hf
  exact ⟨fun e => hf.1 (by unfold de sV; rw [e]; rfl), fun e => ⟨fun e2 => hf.1 (by unfold de sV; rw [e, e2]; rfl), fun e2 => hf.2 (by unfold de sV; rw [e, e2]; rfl)⟩⟩
 ·refine ho.1 (List.all_eq_true.2 fun s hs => h4 s ?_)
  rw [List.take_of_length_le (by omega)]; exact hs
noncomputable def JV (κ : Kp) : Env := (vX κ).aj 155 2 (aK 5 FK BN Ak)
theorem Yx (κ : Kp) : aw (JV κ) := (Pp κ).aj (Mv κ) (Vj κ)
theorem T7 (κ : Kp) : ai (JV κ) := (Mv κ).aj aE
structure GO where
 R : List AV
 i : Int
 j : Int
 fx : List (Value × AV)
 fA : List (Value × AV)
 P : List ByteArray
 ws : List ByteArray
abbrev Bq (a : GO) : S := sp 42 [(0, .a7 0 0 a.R.length), (1, KE), (5, .int a.i), (6, .int a.j)] (Ac a.R a.fx a.fA)
theorem YR (κ : Kp) (a : GO) (I : Nat → S → Prop) (n : Nat) (K : Exit → S → Prop) : (vc (JV κ) 12 153 none 5 (ag (Pr κ).toProgram 153 5) (Bq a) (bC (JV κ) 153 5 5 I n K)) = (
 letI z2 := toStr (nth a.R (0 + a.j.toNat))
 letI z3 := IntKind.wrap IntKind.i64 (a.j + (1 : Int))
 letI z1 := sp 42 [(0, AV.a7 0 0 a.R.length), (1, AV.dq 154 [AV.ptr 1 0 [] 0, AV.ptr 3 0 [] 0]), (5, AV.int a.i), (6, AV.int z3)] [Obj.row 9 a.R, Obj.box 114
  (AV.mp 2), Dn.Obj.map 9 4 a.fx, Obj.box 114 (AV.mp 4), Dn.Obj.map 9 4 a.fA]
 ax (decide (a.j < (↑(a.R.length) : Int))) (aZ (decide ((0 : Int) ≤ a.j) && decide (a.j < (↑(a.R.length) : Int))) (ax (!Dn.toBool (eg a.fx (Value.string z2)
 (AV.bool false))) (∃ (m : Nat), m < n ∧ I m z1) (ax (!!Dn.toBool (eg a.fA (Value.string z2) (AV.bool false))) (aZ (decide ((0 : Int) ≤ a.i) && decide (a.i <
 (↑(a.R.length) : Int))) (∃ (m : Nat), m < n ∧ I m (sp 42 [(0, AV.a7 0 0 a.R.length), (1, AV.dq 154 [AV.ptr 1 0 [] 0, AV.ptr 3 0 [] 0]), (5, AV.int (IntKind.wrap
 IntKind.i64 (a.i + (1 : Int)))), (6, AV.int z3)] [Obj.row 9 (cC a.R (0 + a.i.toNat) (AV.str z2)), Obj.box 114 (AV.mp 2), Dn.Obj.map 9 4 a.fx, Obj.box 114 (AV.mp
 4), Dn.Obj.map 9 4 a.fA]))) (∃ (m : Nat), m < n ∧ I m z1)))) (K (Exit.exit 0) (sp 42 [(0, AV.a7 0 0 a.R.length), (5, AV.int a.i)] [Obj.row 9 a.R, Obj.box 114
 (AV.mp 2), Dn.Obj.map 9 4 a.fx, Obj.box 114 (AV.mp 4), Dn.Obj.map 9 4 a.fA]))) := by kernel_rfl
def zq (a : GO) : Prop := a.R.length ≤ aI ∧ 0 ≤ a.i ∧ a.i < a.j ∧ a.j ≤ a.R.length ∧ a.R.take a.i.toNat = strs a.P ∧ a.R.drop a.j.toNat = strs a.ws
def zP (a : GO) : Out (Exit × S) := .all (fun R : List AV => R.length = a.R.length ∧ R.take (a.P ++ a.ws.filter (de a.fx a.fA)).length = strs (a.P ++ a.ws.filter (de a.fx a.fA)))
 fun R => .one (.exit 0, sp 42 [(0, .a7 0 0 a.R.length), (5, .int (a.P ++ a.ws.filter (de a.fx a.fA)).length)] (Ac R a.fx a.fA))
theorem Yl (κ : Kp) : bg (JV κ) 12 153 5 (aK 5 Bq zq zP) := by
 refine aO (fun a => a.R.length - a.j.toNat) ?_
 rintro ⟨R, i, j, fx, fA, P, ws⟩ K ⟨h1, h2, h3, h4, h5, h6⟩ ho
 simp only at h1 h2 h3 h4 h5 h6
 rw [show (JV κ).P = Pr κ from rfl]
 refine Eq.mpr (YR κ ⟨R, i, j, fx, fA, P, ws⟩ _ _ K) ?_
 simp only [aI] at h1
 simp only [zP, Out.run] at ho
 simp only [Nat.zero_add]
 have hP : P.length = i.toNat := by
  have := congrArg List.length h5
  rw [List.length_take, aM] at this; omega
 have fin : ∀ (s : ByteArray) (l : List ByteArray), ws = s :: l → j < R.length → nth R j.toNat = .lit (.string s) →
   (de fx fA s = false → ∃ m, m < R.length - j.toNat ∧ fp Bq zq zP (fun a => a.R.length - a.j.toNat) K m (Bq ⟨R, i, j + 1, fx, fA, P, l⟩)) ∧
   (de fx fA s = true → ∃ m, m < R.length - j.toNat ∧ fp Bq zq zP (fun a => a.R.length - a.j.toNat) K m (Bq ⟨cC R i.toNat (.lit (.string s)), i + 1, j + 1, fx, fA, P ++ [s], l⟩)) := by
  rintro s l rfl hj hn
  obtain ⟨_, _, h7⟩ := oT (l := strs l) h6
  refine ⟨fun e => ⟨_, ?_, _, rfl, ⟨by simpa [aI] using h1, h2, by simp only; omega, by simp only; omega, h5, ?_⟩, rfl, ?_⟩, fun e => ⟨_, ?_, _, rfl, ⟨by simpa [aI, ld] using h1, by simp only; omega, by simp only; omega, by simp only [ld]; omega, ?_, ?_⟩, rfl, ?_⟩⟩
  ·simp only; omega
  ·simp only [show (j + 1).toNat = j.toNat + 1 by omega]; exact h7
  ·intro y hy
   have := ho y
   simp only [List.filter_cons, e, Bool.false_eq_true, if_false] at hy this ⊢
   exact this hy
  ·simp only [ld]; omega
  ·simp only [show (i + 1).toNat = i.toNat + 1 by omega]
   rw [w9 _ _ _ (by omega), h5, gn]; rfl
  ·simp only [show (j + 1).toNat = j.toNat + 1 by omega]
   rw [wZ _ _ _ _ (by omega)]; exact h7
  ·intro y hy
   have := ho y
   simp only [List.filter_cons, e, if_true, ld, List.append_assoc, List.singleton_append] at hy this ⊢
   exact this hy
 simp only [af, aq, aa0, aa2, aa1, Bool.not_eq_true', ab2]
 refine ⟨fun hj => ⟨⟨by omega, hj⟩, ?_⟩, fun hj => ?_⟩
 ·cases ws with
  | nil =>
   have := congrArg List.length h6
   rw [List.length_drop, aM] at this
   simp at this; omega
  | cons s l =>
   obtain ⟨_, hn, _⟩ := oT (l := strs l) h6
   have hn' : toStr (nth R j.toNat) = s := by rw [hn]; rfl
   have hf := fin s l rfl hj hn
   simp only [Bq, ld] at hf
   rw [aU (n := i + 1) (by omega) (by omega), aU (n := j + 1) (by omega) (by omega), hn']
   exact ⟨fun e => hf.1 (by unfold de sV; rw [e]; rfl), fun e => ⟨fun e2 => ⟨⟨by omega, by omega⟩, hf.2 (by unfold de sV; rw [e, e2]; rfl)⟩, fun e2 => hf.1 (by unfold de sV; rw [e, e2]; rfl)⟩⟩
 ·have hw : ws = [] := by
   have := congrArg List.length h6
   rw [List.length_drop, aM] at this
   cases ws with
   | nil => rfl
   | cons => simp at this; omega
  subst hw
  have := ho R ⟨rfl, by simp only [List.filter_nil, List.append_nil, hP]; exact h5⟩
  simp only [List.filter_nil, List.append_nil, hP, Int.toNat_of_nonneg h2] at this
  exact this
noncomputable def QL (κ : Kp) : Env := (JV κ).aj 153 5 (aK 5 Bq zq zP)
theorem Zv (κ : Kp) : aw (QL κ) := (Yx κ).aj (T7 κ) (Yl κ)
theorem mGO (κ : Kp) : ai (QL κ) := (T7 κ).aj aE
theorem Ys (κ : Kp) (a : DO) (K : AV → List Dn.Obj → Prop) : (a9 (QL κ) 12 153 [.a7 0 0 (strs a.vs).length, KE] (Ac (strs a.vs) a.fx a.fA) K) = (
 letI z1 := List.length (strs a.vs)
 letI z2 := AV.mp 2
 letI z3 := AV.mp 4
 letI z4 := Pg.toProgram (Env.P (vX κ))
 letI z5 := Pg.toProgram (Env.P (JV κ))
 ag z4 155 2 = ag z4 155 2 ∧ ∃ (a_1 : DO), sp 19 [(0, AV.a7 0 0 z1), (1, AV.dq 154 [AV.ptr 1 0 [] 0, AV.ptr 3 0 [] 0]), (7, AV.int (↑z1 : Int)), (8, AV.int 0)] [Obj.row 9 (strs a.vs), Obj.box 114 z2, Dn.Obj.map 9 4 a.fx, Obj.box 114 z3, Dn.Obj.map 9 4 a.fA] = sp 19 [(0, AV.a7 0 0 (List.length (strs a_1.vs))), (1, AV.dq 154 [AV.ptr 1 0 [] 0, AV.ptr 3 0 [] 0]), (7, AV.int (↑(List.length (strs a_1.vs)) : Int)), (8, AV.int a_1.i)] [Obj.row 9 (strs a_1.vs), Obj.box 114 z2, Dn.Obj.map 9 4 a_1.fx, Obj.box 114 z3, Dn.Obj.map 9 4 a_1.fA] ∧ (a_1.vs.length ≤ 9223372036854775807 ∧ (0 : Int) ≤ a_1.i ∧ a_1.i ≤ (↑(a_1.vs.length) : Int) ∧ ∀ (s : ByteArray), List.Mem s (List.take a_1.i.toNat a_1.vs) → de a_1.fx a_1.fA s = true) ∧ ax (List.all a_1.vs (de a_1.fx a_1.fA)) (K (AV.ae 9 (List.take z1 (List.drop 0 (strs a_1.vs)))) [Obj.ow 9 (strs a_1.vs), Obj.box 114 z2, Dn.Obj.map 9 4 a_1.fx, Obj.box 114 z3, Dn.Obj.map 9 4 a_1.fA]) (∀ (y : Int), ((0 : Int) ≤ y ∧ ∃ (h : y.toNat < a_1.vs.length), (∀ (s : ByteArray), List.Mem s (List.take y.toNat a_1.vs) → de a_1.fx a_1.fA s = true) ∧ de a_1.fx a_1.fA a_1.vs[y.toNat] = false) → ax (y == (-1 : Int)) (K (AV.ae 9 (List.take z1 (List.drop 0 (strs a_1.vs)))) [Obj.ow 9 (strs a_1.vs), Obj.box 114 z2, Dn.Obj.map 9 4 a_1.fx, Obj.box 114 z3, Dn.Obj.map 9 4 a_1.fA]) (ag z5 153 5 = ag z5 153 5 ∧ ∃ (a_3 : GO), sp 42 [(0, AV.a7 0 0 z1), (1, AV.dq 154 [AV.ptr 1 0 [] 0, AV.ptr 3 0 [] 0]), (5, AV.int y), (6, AV.int (IntKind.wrap IntKind.i64 (y + (1 : Int))))] [Obj.row 9 (strs a_1.vs), Obj.box 114 z2, Dn.Obj.map 9 4 a_1.fx, Obj.box 114 z3, Dn.Obj.map 9 4 a_1.fA] = sp 42 [(0, AV.a7 0 0 a_3.R.length), (1, AV.dq 154 [AV.ptr 1 0 [] 0, AV.ptr 3 0 [] 0]), (5, AV.int a_3.i), (6, AV.int a_3.j)] [Obj.row 9 a_3.R, Obj.box 114 z2, Dn.Obj.map 9 4 a_3.fx, Obj.box 114 z3, Dn.Obj.map 9 4 a_3.fA] ∧ (a_3.R.length ≤ 9223372036854775807 ∧ (0 : Int) ≤ a_3.i ∧ a_3.i < a_3.j ∧ a_3.j ≤ (↑(a_3.R.length) : Int) ∧ List.take a_3.i.toNat a_3.R = strs a_3.P ∧ List.drop a_3.j.toNat a_3.R = strs a_3.ws) ∧ ∀ (y : List AV), y.length = a_3.R.length ∧ List.take (List.length (a_3.P ++ List.filter (de a_3.fx a_3.fA) a_3.ws)) y = strs (a_3.P ++ List.filter (de a_3.fx a_3.fA) a_3.ws) → aZ (true && decide ((↑(List.length (a_3.P ++ List.filter (de a_3.fx a_3.fA) a_3.ws)) : Int) ≤ (↑(a_3.R.length) : Int)) && decide ((↑(a_3.R.length) : Int) ≤ (↑(a_3.R.length) : Int))) (aZ (true && decide ((↑(List.length (a_3.P ++ List.filter (de a_3.fx a_3.fA) a_3.ws)) : Int) ≤ (↑(a_3.R.length) : Int))) (K (AV.ae 9 (List.take (Int.toNat ((↑(List.length (a_3.P ++ List.filter (de a_3.fx a_3.fA) a_3.ws)) : Int) - (0 : Int))) (List.drop 0 (dP y (0 + Int.toNat (↑(List.length (a_3.P ++ List.filter (de a_3.fx a_3.fA) a_3.ws)) : Int)) (Int.toNat ((↑(a_3.R.length) : Int) - (↑(List.length (a_3.P ++ List.filter (de a_3.fx a_3.fA) a_3.ws)) : Int))) (AV.str { data := #[] }))))) [Obj.ow 9 (dP y (0 + Int.toNat (↑(List.length (a_3.P ++ List.filter (de a_3.fx a_3.fA) a_3.ws)) : Int)) (Int.toNat ((↑(a_3.R.length) : Int) - (↑(List.length (a_3.P ++ List.filter (de a_3.fx a_3.fA) a_3.ws)) : Int))) (AV.str { data := #[] })), Obj.box 114 z2, Dn.Obj.map 9 4 a_3.fx, Obj.box 114 z3, Dn.Obj.map 9 4 a_3.fA]))))) := by kernel_rfl
def DA (a : DO) : List AV × List Dn.Obj := ([.a7 0 0 a.vs.length, KE], Ac (strs a.vs) a.fx a.fA)
def jM (a : DO) : Prop := a.vs.length ≤ aI
def Cx (a : DO) : Out (AV × List Dn.Obj) := .all (fun _ : List AV => True) fun R => .one (.ae 9 (strs (a.vs.filter (de a.fx a.fA))), [.ow 9 R, .box 114 (.mp 2), .map 9 4 a.fx, .box 114 (.mp 4), .map 9 4 a.fA])
theorem SL (κ : Kp) : bJ (QL κ) 12 153 (a8 DA jM Cx) := by
 refine bh ?_
 rintro ⟨vs, i, fx, fA⟩ K h1 ho
 simp only [jM] at h1
 simp only [DA]
 rw [← aM vs]
 refine Eq.mpr (Ys κ ⟨vs, i, fx, fA⟩ K) ?_
 refine ⟨rfl, ⟨vs, 0, fx, fA⟩, rfl, ⟨h1, by simp only; omega, by simp only; omega, fun s hs => nomatch hs⟩, ?_⟩
 rw [af]
 refine ⟨fun e => ?_, fun e y hy => ?_⟩
 ·have hf : vs.filter (de fx fA) = vs := List.filter_eq_self.2 (List.all_eq_true.1 e)
  have := ho (strs vs) trivial
  simp only [hf] at this
  rw [ab0, List.take_length]
  exact this
 ·have hF := yY hy
  obtain ⟨h0, h2, h3, h4⟩ := hy
  simp only at h0 h2
  simp only [aI] at h1
  rw [af, beq_iff_eq, beq_eq_false_iff_ne]
  refine ⟨fun e2 => by omega, fun _ => ⟨rfl, ⟨strs vs, y, y + 1, fx, fA, vs.take y.toNat, vs.drop (y.toNat + 1)⟩, ?_, ⟨by simp only [aM]; omega, h0, by simp only; omega, by simp only [aM]; omega, ?_, ?_⟩, ?_⟩⟩
  ·rw [aU (n := y + 1) (by omega) (by omega)]
  ·simp only [strs, List.map_take]
  ·simp only [strs, List.map_drop, show (y + 1).toNat = y.toNat + 1 by omega]
  ·rintro R ⟨r1, r2⟩
   simp only at r1 r2
   rw [← hF] at r2 ⊢
   have hle : (vs.filter (de fx fA)).length ≤ vs.length := List.length_filter_le _ _
   rw [aq, aq]
   refine ⟨by simp [aM, hle], by simp [aM, hle], ?_⟩
   have := ho (dP R (0 + Int.toNat ((vs.filter (de fx fA)).length : Int)) (Int.toNat (((strs vs).length : Int) - ((vs.filter (de fx fA)).length : Int))) (.lit (.string (ByteArray.mk #[])))) trivial
   simp only [Int.toNat_natCast, Nat.zero_add, Int.sub_zero, ab0, sd, r2] at this ⊢
   exact this
theorem Sq (κ : Kp) : ∀ args st K, a8 DA jM Cx args st K → dz (Pr κ) 153 args st K := fun args st K h => jR (Zv κ) (mGO κ) (SL κ args st K h)
noncomputable def GU (κ : Kp) : Env := (vX κ).ar 153 (a8 DA jM Cx)
theorem SQ (κ : Kp) : aw (GU κ) := (Pp κ).iN (Sq κ)
theorem Qc (κ : Kp) : ai (GU κ) := (Mv κ).ar aJ
theorem Wf (κ : Kp) (a : b5) (k : Int) (K : AV → List Dn.Obj → Prop) : (a9 (GU κ) 12 127 [aF a, .int k] [] K) = (
 letI z1 := Pg.toProgram (Env.P (HA κ))
 letI z2 := AV.mp 2
 letI z3 := Value × AV
 letI z4 := AV.mp 4
 letI z5 := (0 : Int)
 (∃ (a_1 : List AV), ([AV.ae 52 a.hl], az) = ([AV.ae 52 a_1], az) ∧ bu a_1 ∧ ∃ (a_2 : List AV × List z3), ([AV.mp 0, AV.ae 9 (List.take (List.length (an (aa
 a_1))) (List.drop 0 (strs (an (aa a_1)))))], [Dn.Obj.map 9 4 []]) = ([AV.mp 0, AV.ae 9 a_2.1], [Dn.Obj.map 9 4 a_2.2]) ∧ br a_2 ∧ ag z1 127 4 = ag z1 127 4 ∧ ∃
 (a_3 : NO), sp 53 [(1, AV.int k), (2, AV.ptr 0 0 [] 0), (5, AV.ptr 1 0 [] 0), (17, AV.ae 55 a.bl), (18, AV.int (↑(a.bl.length) : Int)), (19, AV.int 0)] [Obj.box
 41 (aF a), Obj.box 114 z2, Dn.Obj.map 9 4 (gK a_2.2 a_2.1)] = sp 53 [(1, AV.int a_3.k), (2, AV.ptr 0 0 [] 0), (5, AV.ptr 1 0 [] 0), (17, AV.ae 55 (a_3.a.bl)),
 (18, AV.int (↑(List.length (a_3.a.bl)) : Int)), (19, AV.int a_3.i)] [Obj.box 41 (AV.agg [AV.agg [AV.str (a_3.a.rel), AV.ae 52 (a_3.a.hl)], AV.ae 55 (a_3.a.bl),
 AV.int (a_3.a.line)]), Obj.box 114 z2, Dn.Obj.map 9 4 (cv a_3.vs)] ∧ ((aH (aa (aX 52 (a_3.a.hl) (a_3.a.bl))) ≤ 100000 ∧ List.length (a_3.a.bl) ≤ 100000) ∧ z5 ≤
 a_3.k ∧ z5 ≤ a_3.i ∧ a_3.i ≤ (↑(List.length (a_3.a.bl)) : Int)) ∧ aZ (decide (z5 ≤ a_3.k) && decide (a_3.k < (↑(List.length (a_3.a.bl)) : Int))) ((∃ (a : List
 AV), ([AV.ae 52 (ah (ad (ad (nth (a_3.a.bl) a_3.k.toNat) 1) 1))], az) = ([AV.ae 52 a], az) ∧ bu a ∧ ∃ (a_4 : List AV × List z3), ([AV.mp 0, AV.ae 9 (List.take
 (List.length (an (aa a))) (List.drop 0 (strs (an (aa a)))))], [Dn.Obj.map 9 4 []]) = ([AV.mp 0, AV.ae 9 a_4.1], [Dn.Obj.map 9 4 a_4.2]) ∧ br a_4 ∧ ∃ (a : b5),
 ([AV.agg [AV.agg [AV.str (a_3.a.rel), AV.ae 52 (a_3.a.hl)], AV.ae 55 (a_3.a.bl), AV.int (a_3.a.line)]], az) = ([aF a], az) ∧ (aG (aL a) = true ∧ aH (aa (aX 52
 a.hl a.bl)) ≤ 100000 ∧ a.bl.length ≤ 100000) ∧ ∃ (a_5 : DO), ([AV.a7 0 0 (List.length (bq (aL a))), AV.dq 154 [AV.ptr 1 0 [] 0, AV.ptr 3 0 [] 0]], [Obj.row 9
 (strs (bq (aL a))), Obj.box 114 z2, Dn.Obj.map 9 4 (gK a_4.2 a_4.1), Obj.box 114 z4, Dn.Obj.map 9 4 (cv (mY a_3))]) = ([AV.a7 0 0 a_5.vs.length, AV.dq 154
 [AV.ptr 1 0 [] 0, AV.ptr 3 0 [] 0]], [Obj.row 9 (strs a_5.vs), Obj.box 114 z2, Dn.Obj.map 9 4 a_5.fx, Obj.box 114 z4, Dn.Obj.map 9 4 a_5.fA]) ∧ jM a_5 ∧ ∀ (y :
 List AV), True → K (AV.ae 9 (strs (List.filter (de a_5.fx a_5.fA) a_5.vs))) []) ∧ ∃ (a : List AV), ([AV.ae 52 (ah (ad (ad (nth (a_3.a.bl) a_3.k.toNat) 1) 1))],
 az) = ([AV.ae 52 a], az) ∧ bu a ∧ ∃ (a_4 : List AV × List z3), ([AV.mp 0, AV.ae 9 (List.take (List.length (an (aa a))) (List.drop 0 (strs (an (aa a)))))],
 [Dn.Obj.map 9 4 []]) = ([AV.mp 0, AV.ae 9 a_4.1], [Dn.Obj.map 9 4 a_4.2]) ∧ br a_4 ∧ ∃ (a : b5), ([AV.agg [AV.agg [AV.str (a_3.a.rel), AV.ae 52 (a_3.a.hl)],
 AV.ae 55 (a_3.a.bl), AV.int (a_3.a.line)]], az) = ([aF a], az) ∧ (aG (aL a) = true ∧ aH (aa (aX 52 a.hl a.bl)) ≤ 100000 ∧ a.bl.length ≤ 100000) ∧ ∃ (a_5 : DO),
 ([AV.a7 0 0 (List.length (bq (aL a))), AV.dq 154 [AV.ptr 1 0 [] 0, AV.ptr 3 0 [] 0]], [Obj.row 9 (strs (bq (aL a))), Obj.box 114 z2, Dn.Obj.map 9 4 (gK a_4.2
 a_4.1), Obj.box 114 z4, Dn.Obj.map 9 4 (cv (mY a_3))]) = ([AV.a7 0 0 a_5.vs.length, AV.dq 154 [AV.ptr 1 0 [] 0, AV.ptr 3 0 [] 0]], [Obj.row 9 (strs a_5.vs),
 Obj.box 114 z2, Dn.Obj.map 9 4 a_5.fx, Obj.box 114 z4, Dn.Obj.map 9 4 a_5.fA]) ∧ jM a_5 ∧ ∀ (y : List AV), True → K (AV.ae 9 (strs (List.filter (de a_5.fx
 a_5.fA) a_5.vs))) [])) ∧ ∃ (a_1 : List AV), ([AV.ae 52 a.hl], az) = ([AV.ae 52 a_1], az) ∧ bu a_1 ∧ ∃ (a_2 : List AV × List z3), ([AV.mp 0, AV.ae 9 (List.take
 (List.length (an (aa a_1))) (List.drop 0 (strs (an (aa a_1)))))], [Dn.Obj.map 9 4 []]) = ([AV.mp 0, AV.ae 9 a_2.1], [Dn.Obj.map 9 4 a_2.2]) ∧ br a_2 ∧ ag z1 127
 4 = ag z1 127 4 ∧ ∃ (a_3 : NO), sp 53 [(1, AV.int k), (2, AV.ptr 0 0 [] 0), (5, AV.ptr 1 0 [] 0), (17, AV.ae 55 a.bl), (18, AV.int (↑(a.bl.length) : Int)), (19,
 AV.int 0)] [Obj.box 41 (aF a), Obj.box 114 z2, Dn.Obj.map 9 4 (gK a_2.2 a_2.1)] = sp 53 [(1, AV.int a_3.k), (2, AV.ptr 0 0 [] 0), (5, AV.ptr 1 0 [] 0), (17,
 AV.ae 55 (a_3.a.bl)), (18, AV.int (↑(List.length (a_3.a.bl)) : Int)), (19, AV.int a_3.i)] [Obj.box 41 (AV.agg [AV.agg [AV.str (a_3.a.rel), AV.ae 52 (a_3.a.hl)],
 AV.ae 55 (a_3.a.bl), AV.int (a_3.a.line)]), Obj.box 114 z2, Dn.Obj.map 9 4 (cv a_3.vs)] ∧ ((aH (aa (aX 52 (a_3.a.hl) (a_3.a.bl))) ≤ 100000 ∧ List.length
 (a_3.a.bl) ≤ 100000) ∧ z5 ≤ a_3.k ∧ z5 ≤ a_3.i ∧ a_3.i ≤ (↑(List.length (a_3.a.bl)) : Int)) ∧ aZ (decide (z5 ≤ a_3.k) && decide (a_3.k < (↑(List.length
 (a_3.a.bl)) : Int))) ((∃ (a : List AV), ([AV.ae 52 (ah (ad (ad (nth (a_3.a.bl) a_3.k.toNat) 1) 1))], az) = ([AV.ae 52 a], az) ∧ bu a ∧ ∃ (a_4 : List AV × List
 z3), ([AV.mp 0, AV.ae 9 (List.take (List.length (an (aa a))) (List.drop 0 (strs (an (aa a)))))], [Dn.Obj.map 9 4 []]) = ([AV.mp 0, AV.ae 9 a_4.1], [Dn.Obj.map 9
 4 a_4.2]) ∧ br a_4 ∧ ∃ (a : b5), ([AV.agg [AV.agg [AV.str (a_3.a.rel), AV.ae 52 (a_3.a.hl)], AV.ae 55 (a_3.a.bl), AV.int (a_3.a.line)]], az) = ([aF a], az) ∧
 (aG (aL a) = true ∧ aH (aa (aX 52 a.hl a.bl)) ≤ 100000 ∧ a.bl.length ≤ 100000) ∧ ∃ (a_5 : DO), ([AV.a7 0 0 (List.length (bq (aL a))), AV.dq 154 [AV.ptr 1 0 []
 0, AV.ptr 3 0 [] 0]], [Obj.row 9 (strs (bq (aL a))), Obj.box 114 z2, Dn.Obj.map 9 4 (gK a_4.2 a_4.1), Obj.box 114 z4, Dn.Obj.map 9 4 (cv (mY a_3))]) = ([AV.a7 0
 0 a_5.vs.length, AV.dq 154 [AV.ptr 1 0 [] 0, AV.ptr 3 0 [] 0]], [Obj.row 9 (strs a_5.vs), Obj.box 114 z2, Dn.Obj.map 9 4 a_5.fx, Obj.box 114 z4, Dn.Obj.map 9 4
 a_5.fA]) ∧ jM a_5 ∧ ∀ (y : List AV), True → K (AV.ae 9 (strs (List.filter (de a_5.fx a_5.fA) a_5.vs))) []) ∧ ∃ (a : List AV), ([AV.ae 52 (ah (ad (ad (nth
 (a_3.a.bl) a_3.k.toNat) 1) 1))], az) = ([AV.ae 52 a], az) ∧ bu a ∧ ∃ (a_4 : List AV × List z3), ([AV.mp 0, AV.ae 9 (List.take (List.length (an (aa a)))
 (List.drop 0 (strs (an (aa a)))))], [Dn.Obj.map 9 4 []]) = ([AV.mp 0, AV.ae 9 a_4.1], [Dn.Obj.map 9 4 a_4.2]) ∧ br a_4 ∧ ∃ (a : b5), ([AV.agg [AV.agg [AV.str
 (a_3.a.rel), AV.ae 52 (a_3.a.hl)], AV.ae 55 (a_3.a.bl), AV.int (a_3.a.line)]], az) = ([aF a], az) ∧ (aG (aL a) = true ∧ aH (aa (aX 52 a.hl a.bl)) ≤ 100000 ∧
 a.bl.length ≤ 100000) ∧ ∃ (a_5 : DO), ([AV.a7 0 0 (List.length (bq (aL a))), AV.dq 154 [AV.ptr 1 0 [] 0, AV.ptr 3 0 [] 0]], [Obj.row 9 (strs (bq (aL a))),
 Obj.box 114 z2, Dn.Obj.map 9 4 (gK a_4.2 a_4.1), Obj.box 114 z4, Dn.Obj.map 9 4 (cv (mY a_3))]) = ([AV.a7 0 0 a_5.vs.length, AV.dq 154 [AV.ptr 1 0 [] 0, AV.ptr
 3 0 [] 0]], [Obj.row 9 (strs a_5.vs), Obj.box 114 z2, Dn.Obj.map 9 4 a_5.fx, Obj.box 114 z4, Dn.Obj.map 9 4 a_5.fA]) ∧ jM a_5 ∧ ∀ (y : List AV), True → K (AV.ae
 9 (strs (List.filter (de a_5.fx a_5.fA) a_5.vs))) [])) := by kernel_rfl
def JY (a : b5 × Int) : List AV × List Dn.Obj := ([aF a.1, .int a.2], [])
def x8 (a : b5 × Int) : Prop := aG (aL a.1) = true ∧ bZ a.1 ∧ 0 ≤ a.2 ∧ a.2 < a.1.bl.length
def L2 (a : b5 × Int) : Out (AV × List Dn.Obj) := .one (.ae 9 (strs (dj (aL a.1) a.2.toNat)), [])
theorem Y6 (κ : Kp) : bJ (GU κ) 12 127 (a8 JY x8 L2) := by
 refine bh ?_
 rintro ⟨a, k⟩ K ⟨h1, h2, h3, h4⟩ ho
 refine Eq.mpr (Wf κ a k K) ?_
 simp only at h1 h2 h3 h4
 have hc := kG h2
 have hv := cq (aa a.hl)
 have hk : k.toNat < a.bl.length := by omega
 have hlit := fj h2 hk
 simp only [and_self]
 refine ⟨a.hl, rfl, hc, ⟨strs (an (aa a.hl)), []⟩, ?_, ?_, trivial, ⟨a, k, 0, an (aa a.hl)⟩, rfl, ⟨h2, h3, by simp only; omega, by simp only; omega⟩, ?_⟩
 ·simp only [ab0, cB]
 ·simp only [br, aM, aI]; omega
 rw [aq, aa1, aa0, aa0]
 have hin : an (aa (ah (ad (ad (nth a.bl k.toNat) 1) 1))) = an (bj (aL a).body k.toNat).a.l := by
  rw [show (aL a).body = bn a.bl from rfl, fM _ hk, lt_eq]
 have hcl : aH (aa (ah (ad (ad (nth a.bl k.toNat) 1) 1))) ≤ 100000 := by
  rw [lt_eq] at hlit
  simp only [dC] at hlit; omega
 have hvl := cq (aa (ah (ad (ad (nth a.bl k.toNat) 1) 1)))
 refine ⟨⟨h3, h4⟩, _, rfl, hcl, ⟨strs (an (aa (ah (ad (ad (nth a.bl k.toNat) 1) 1)))), []⟩, ?_, ?_, a, rfl, ⟨h1, h2⟩, ⟨bq (aL a), 0, gK [] (strs (an (aa (ah (ad (ad (nth a.bl k.toNat) 1) 1))))), cv (mY ⟨a, k, 0, an (aa a.hl)⟩)⟩, rfl, ?_, ?_⟩
 ·simp only [ab0, cB]
 ·simp only [br, aM, aI]; omega
 ·have h5 : (cQ (aL a)).length ≤ 100000 := by
   have h6 := cq (aa (aX 52 a.hl a.bl))
   rw [jh 52 a.rel a.hl a.bl] at h6
   exact Nat.le_trans h6 h2.1
  have h7 := jV (cQ (aL a)) []
  simp only [jM, bq, h1, aa7, aI]; omega
 ·intro R _
  have hk2 : (fun s => de (gK [] (strs (an (aa (ah (ad (ad (nth a.bl k.toNat) 1) 1)))))) (cv (mY ⟨a, k, 0, an (aa a.hl)⟩)) s) = fun v => (an (bj (aL a).body k.toNat).a.l).contains v && (ED (aL a) k.toNat).contains v := by
   funext s
   unfold de
   rw [pW, hin]
   congr 1
   exact pW _ s
  have hk3 : List.filter (de (gK [] (strs (an (aa (ah (ad (ad (nth a.bl k.toNat) 1) 1)))))) (cv (mY ⟨a, k, 0, an (aa a.hl)⟩))) (bq (aL a)) = dj (aL a) k.toNat := by
   unfold dj
   exact congrFun (congrArg _ hk2) _
  simp only [hk3]
  exact ho
noncomputable def LH (κ : Kp) : Env := (GU κ).ar 127 (a8 JY x8 L2)
theorem Yv (κ : Kp) : aw (LH κ) := (SQ κ).ar (Qc κ) (Y6 κ)
theorem S6 (κ : Kp) : ai (LH κ) := (Qc κ).ar aJ
end Go.Proofs.YtdpmikfheebicaaGreatDoor
