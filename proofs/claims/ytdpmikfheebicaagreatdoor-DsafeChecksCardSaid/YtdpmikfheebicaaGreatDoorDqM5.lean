import Derived.Test.YtdpmikfheebicaaGreatDoorDqM4
import Derived.Test.YtdpmikfheebicaaGreatDoorDqM1
namespace Go.Proofs.YtdpmikfheebicaaGreatDoor
open Go Go.Dn Go.Rl Go.Proofs
attribute [local irreducible] a9 vc
set_option maxRecDepth 20000
noncomputable abbrev E8 (κ : Kp) : Env := RC κ
theorem e8 (κ : Kp) : aw (E8 κ) := Q1 κ
theorem m8 (κ : Kp) : ai (E8 κ) := m10 κ
def Mp : List AV → Option (Bool × AV)
 | [.agg [.lit (.int .i64 op), .lit (.string s), .lit (.int .i64 n), .ae 52 l], .lit (.int .i64 left)] => some (decide (0 ≤ left) && decide (left ≤ 100000), .int ((Tm.mk op s n (aa l)).size left))
 | _ => none
def C8 : List AV → Nat
 | [.agg [_, _, _, .ae _ l], _] => aH (aa l)
 | _ => 0
noncomputable def y5 (κ : Kp) (n : Nat) : Env := (E8 κ).au 58 (below Mp C8 n)
structure Oz where
 op : Int
 s : ByteArray
 n : Int
 l : List AV
 left : Int
 i : Int
abbrev Hq (a : Oz) : S := sp 31 [(1, .int a.left), (2, .ptr 0 0 [] 0), (5, .int a.i)] [.box 52 (.agg [.int a.op, .lit (.string a.s), .int a.n, .ae 52 a.l])]
theorem Wi (κ : Kp) (r : Nat) (a : Oz) (I : Nat → S → Prop) (n : Nat) (K : Exit → S → Prop) : (vc (y5 κ r) 12 58 none 0 (ag (Pr κ).toProgram 58 5) (Hq a) (bC (y5 κ r) 58 5 0 I n K)) = (
 letI z1 := nth a.l a.i.toNat
 letI z2 := K (Exit.exit 0) (sp 31 [(1, AV.int a.left)] [])
 ax (decide (a.i < (↑(a.l.length) : Int))) (ax (decide (a.left ≥ (0 : Int))) (aZ (decide ((0 : Int) ≤ a.i) && decide (a.i < (↑(a.l.length) : Int))) (aZ (decide
 ((0 : Int) ≤ a.left) && decide (a.left ≤ (100000 : Int)) && Nat.blt (C8 [AV.agg [AV.int (toInt (ad z1 0)), AV.str (toStr (ad z1 1)), AV.int (toInt (ad z1 2)),
 AV.ae 52 (ah (ad z1 3))], AV.int a.left]) r) (∃ (m : Nat), m < n ∧ I m (sp 31 [(1, AV.int (Tm.size (Tm.mk (toInt (ad z1 0)) (toStr (ad z1 1)) (toInt (ad z1 2))
 (aa (ah (ad z1 3)))) a.left)), (2, AV.ptr 0 0 [] 0), (5, AV.int (IntKind.wrap IntKind.i64 (a.i + (1 : Int))))] [Obj.box 52 (AV.agg [AV.int a.op, AV.str a.s,
 AV.int a.n, AV.ae 52 a.l])])))) z2) z2) := by kernel_rfl
def Ei (r : Nat) (a : Oz) : Prop := -1 ≤ a.left ∧ a.i + a.left ≤ 100000 ∧ 0 ≤ a.i ∧ a.i ≤ a.l.length ∧ aH (aa (a.l.drop a.i.toNat)) ≤ r
def zi (a : Oz) : Out (Exit × S) := .one (.exit 0, sp 31 [(1, .int (im (aa (a.l.drop a.i.toNat)) a.left))] [])
theorem l54 (κ : Kp) (r : Nat) : bg (y5 κ r) 12 58 5 (aK 0 Hq (Ei r) zi) := by
 refine aO (fun a => a.l.length - a.i.toNat) ?_
 rintro ⟨op, s, n, l, left, i⟩ K ⟨h1, h2, h3, h4, h5⟩ ho
 simp only at h1 h2 h3 h4 h5
 rw [show (y5 κ r).P = Pr κ from rfl]
 refine Eq.mpr (Wi κ r ⟨op, s, n, l, left, i⟩ _ _ K) ?_
 simp only [zi, Out.run] at ho
 simp only [af, aq, aa0, aa2, aa1, Nat.blt_eq, ← bX]
 refine ⟨fun hi => ⟨fun hl => ⟨⟨h3, hi⟩, ?_⟩, fun hl => ?_⟩, fun hi => ?_⟩
 ·have hc := ur l i.toNat (by omega)
  have hz := Tm.size_le (bI (nth l i.toNat)) left hl
  have hp : (bI (nth l i.toNat)).gF = 1 + aH (aa (ah (ad (nth l i.toNat) 3))) := by rw [bX, Tm.gF]
  rw [cy l i.toNat (by omega), im, aa6 hl, aa7] at ho
  rw [aU (n := i + 1) (by omega) (by omega)]
  refine ⟨⟨⟨hl, by omega⟩, by simp only [C8]; omega⟩, _, ?_, ⟨op, s, n, l, (bI (nth l i.toNat)).size left, i + 1⟩, rfl, ⟨by simp only; omega, by simp only; omega, by simp only; omega, by simp only; omega, ?_⟩, rfl, ?_⟩
  ·simp only; omega
  ·simp only [show (i + 1).toNat = i.toNat + 1 by omega]; omega
  ·simp only [zi, Out.run, show (i + 1).toNat = i.toNat + 1 by omega]
   exact ho
 ·rw [cy l i.toNat (by omega), im, aa4 (show ¬ 0 ≤ left from hl), aa5] at ho
  exact ho
 ·rw [aa8 (by omega)] at ho
  exact ho
noncomputable def F2 (κ : Kp) (r : Nat) : Env := (y5 κ r).aj 58 5 (aK 0 Hq (Ei r) zi)
theorem y54 (κ : Kp) (r : Nat) (op : Int) (s : ByteArray) (n : Int) (l : List AV) (left : Int) (K : AV → List Dn.Obj → Prop) : (a9 (F2 κ r) 12 58 [.agg [.int op, .lit (.string s), .int n, .ae 52 l], .int left] [] K) = (
 letI z1 := Pg.toProgram (Env.P (y5 κ r))
 ax (decide ((↑(ByteArray.size s) : Int) > (1000 : Int))) (K (AV.int (-1)) []) (ag z1 58 5 = ag z1 58 5 ∧ ∃ (a : Oz), sp 31 [(1, AV.int (IntKind.wrap IntKind.i64
 (left - (1 : Int)))), (2, AV.ptr 0 0 [] 0), (5, AV.int 0)] [Obj.box 52 (AV.agg [AV.int op, AV.str s, AV.int n, AV.ae 52 l])] = sp 31 [(1, AV.int a.left), (2,
 AV.ptr 0 0 [] 0), (5, AV.int a.i)] [Obj.box 52 (AV.agg [AV.int a.op, AV.str a.s, AV.int a.n, AV.ae 52 a.l])] ∧ ((-1 : Int) ≤ a.left ∧ a.i + a.left ≤ (100000 :
 Int) ∧ (0 : Int) ≤ a.i ∧ a.i ≤ (↑(a.l.length) : Int) ∧ aH (aa (List.drop a.i.toNat a.l)) ≤ r) ∧ K (AV.int (im (aa (List.drop a.i.toNat a.l)) a.left)) [])) := by kernel_rfl
theorem R7 (κ : Kp) (r : Nat) (hp : fe (Pr κ) 58 (below Mp C8 r)) : aw (F2 κ r) ∧ ai (F2 κ r) ∧ (F2 κ r).P = Pr κ :=
 have h : aw (y5 κ r) := (e8 κ).dp hp
 have hm : ai (y5 κ r) := (m8 κ).au
 ⟨h.aj hm (l54 κ r), hm.aj aE, rfl⟩
theorem WM (κ : Kp) (r : Nat) : bM (F2 κ r) 12 58 (fun xs => bif Nat.beq (C8 xs) r then Mp xs else none) := by
 intro args x hh
 cases hb : Nat.beq (C8 args) r with
 | false => simp only [hb] at hh; cases hh
 | true =>
  simp only [hb, aa7] at hh
  unfold Mp at hh
  split at hh
  ·rename_i op s n l left
   simp only [aa3, aa9, aa1, aa0] at hh
   obtain ⟨⟨h1, h2⟩, rfl⟩ := hh
   have hr : aH (aa l) = r := Nat.eq_of_beq_eq_true hb
   refine ⟨_, rfl, rfl, ?_⟩
   refine Eq.mpr (y54 κ r op s n l left _) ?_
   rw [af, aa0, aa2]
   refine ⟨fun e => ?_, fun e => ?_⟩
   ·unfold Tm.size; rw [aa6 (show (1000 : Int) < s.size from e)]; rfl
   ·rw [aU (n := left - 1) (by omega) (by omega)]
    refine ⟨rfl, ⟨op, s, n, l, left - 1, 0⟩, rfl, ⟨by simp only; omega, by simp only; omega, by simp only; omega, by simp only; omega, ?_⟩, ?_⟩
    ·simp only [ab8, ab0]; omega
    ·unfold Tm.size; rw [aa4 (show ¬ (1000 : Int) < s.size from e)]; rfl
  ·cases hh
theorem VN (κ : Kp) : fe (Pr κ) 58 Mp := aw.me Mp C8 (F2 κ) (R7 κ) (WM κ)
noncomputable def J5 (κ : Kp) : Env := (E8 κ).au 58 Mp
theorem WG (κ : Kp) : aw (J5 κ) := (e8 κ).dp (VN κ)
theorem Tv (κ : Kp) : ai (J5 κ) := (m8 κ).au
structure On where
 s : ByteArray
 l : List AV
 left : Int
 i : Int
abbrev G5 (a : On) : S := sp 29 [(1, .int a.left), (2, .ptr 0 0 [] 0), (5, .int a.i)] [.box 38 (.agg [.lit (.string a.s), .ae 52 a.l])]
theorem x53 (κ : Kp) (a : On) (I : Nat → S → Prop) (n : Nat) (K : Exit → S → Prop) : (vc (J5 κ) 12 57 none 0 (ag (Pr κ).toProgram 57 4) (G5 a) (bC (J5 κ) 57 4 0 I n K)) = (
 letI z1 := nth a.l a.i.toNat
 letI z2 := K (Exit.exit 0) (sp 29 [(1, AV.int a.left)] [])
 ax (decide (a.i < (↑(a.l.length) : Int))) (ax (decide (a.left ≥ (0 : Int))) (aZ (decide ((0 : Int) ≤ a.i) && decide (a.i < (↑(a.l.length) : Int))) (aZ (decide
 ((0 : Int) ≤ a.left) && decide (a.left ≤ (100000 : Int))) (∃ (m : Nat), m < n ∧ I m (sp 29 [(1, AV.int (Tm.size (Tm.mk (toInt (ad z1 0)) (toStr (ad z1 1))
 (toInt (ad z1 2)) (aa (ah (ad z1 3)))) a.left)), (2, AV.ptr 0 0 [] 0), (5, AV.int (IntKind.wrap IntKind.i64 (a.i + (1 : Int))))] [Obj.box 38 (AV.agg [AV.str
 a.s, AV.ae 52 a.l])])))) z2) z2) := by kernel_rfl
def Fk (a : On) : Prop := -1 ≤ a.left ∧ a.i + a.left ≤ 100000 ∧ 0 ≤ a.i ∧ a.i ≤ a.l.length
def ym (a : On) : Out (Exit × S) := .one (.exit 0, sp 29 [(1, .int (im (aa (a.l.drop a.i.toNat)) a.left))] [])
theorem ZR (κ : Kp) : bg (J5 κ) 12 57 4 (aK 0 G5 Fk ym) := by
 refine aO (fun a => a.l.length - a.i.toNat) ?_
 rintro ⟨s, l, left, i⟩ K ⟨h1, h2, h3, h4⟩ ho
 simp only at h1 h2 h3 h4
 rw [show (J5 κ).P = Pr κ from rfl]
 refine Eq.mpr (x53 κ ⟨s, l, left, i⟩ _ _ K) ?_
 simp only [ym, Out.run] at ho
 simp only [af, aq, aa0, aa2, aa1, ← bX]
 refine ⟨fun hi => ⟨fun hl => ⟨⟨h3, hi⟩, ?_⟩, fun hl => ?_⟩, fun hi => ?_⟩
 ·have hz := Tm.size_le (bI (nth l i.toNat)) left hl
  rw [cy l i.toNat (by omega), im, aa6 hl, aa7] at ho
  rw [aU (n := i + 1) (by omega) (by omega)]
  refine ⟨⟨hl, by omega⟩, _, ?_, ⟨s, l, (bI (nth l i.toNat)).size left, i + 1⟩, rfl, ⟨by simp only; omega, by simp only; omega, by simp only; omega, by simp only; omega⟩, rfl, ?_⟩
  ·simp only; omega
  ·simp only [ym, Out.run, show (i + 1).toNat = i.toNat + 1 by omega]
   exact ho
 ·rw [cy l i.toNat (by omega), im, aa4 (show ¬ 0 ≤ left from hl), aa5] at ho
  exact ho
 ·rw [aa8 (by omega)] at ho
  exact ho
noncomputable def HU (κ : Kp) : Env := (J5 κ).aj 57 4 (aK 0 G5 Fk ym)
theorem RD (κ : Kp) : aw (HU κ) := (WG κ).aj (Tv κ) (ZR κ)
theorem PU (κ : Kp) : ai (HU κ) := (Tv κ).aj aE
theorem Xs (κ : Kp) (s : ByteArray) (l : List AV) (left : Int) (K : AV → List Dn.Obj → Prop) : (a9 (HU κ) 12 57 [.agg [.lit (.string s), .ae 52 l], .int left] [] K) = (
 letI z1 := Pg.toProgram (Env.P (J5 κ))
 ax (decide ((↑(ByteArray.size s) : Int) > (1000 : Int))) (K (AV.int (-1)) []) (ag z1 57 4 = ag z1 57 4 ∧ ∃ (a : On), sp 29 [(1, AV.int left), (2, AV.ptr 0 0 []
 0), (5, AV.int 0)] [Obj.box 38 (AV.agg [AV.str s, AV.ae 52 l])] = sp 29 [(1, AV.int a.left), (2, AV.ptr 0 0 [] 0), (5, AV.int a.i)] [Obj.box 38 (AV.agg [AV.str
 a.s, AV.ae 52 a.l])] ∧ ((-1 : Int) ≤ a.left ∧ a.i + a.left ≤ (100000 : Int) ∧ (0 : Int) ≤ a.i ∧ a.i ≤ (↑(a.l.length) : Int)) ∧ K (AV.int (im (aa (List.drop
 a.i.toNat a.l)) a.left)) [])) := by kernel_rfl
def Ry : List AV → Option (Bool × AV)
 | [.agg [.lit (.string s), .ae 52 l], .lit (.int .i64 left)] => some (decide (-1 ≤ left) && decide (left ≤ 100000), .int (dg ⟨s, aa l⟩ left))
 | _ => none
theorem WX (κ : Kp) : bM (HU κ) 12 57 Ry := by
 intro args x hh
 unfold Ry at hh
 split at hh
 ·rename_i s l left
  simp only [aa3, aa9, aa1, aa0] at hh
  obtain ⟨⟨h1, h2⟩, rfl⟩ := hh
  refine ⟨_, rfl, rfl, ?_⟩
  refine Eq.mpr (Xs κ s l left _) ?_
  rw [af, aa0, aa2]
  refine ⟨fun e => ?_, fun e => ?_⟩
  ·unfold dg; rw [aa6 (show (1000 : Int) < s.size from e)]; rfl
  ·refine ⟨rfl, ⟨s, l, left, 0⟩, rfl, ⟨h1, by simp only; omega, by simp only; omega, by simp only; omega⟩, ?_⟩
   unfold dg; rw [aa4 (show ¬ (1000 : Int) < s.size from e)]; rfl
 ·cases hh
noncomputable def Ku (κ : Kp) : Env := (HU κ).au 57 Ry
theorem e53 (κ : Kp) : aw (Ku κ) := (RD κ).au (PU κ) (WX κ)
theorem Ub (κ : Kp) : ai (Ku κ) := (PU κ).au
structure OM where
 a : b5
 left : Int
 i : Int
abbrev Ad (a : OM) : S := sp 52 [(1, .int a.left), (2, .ptr 0 0 [] 0), (5, .int a.i)] [.box 41 (aF a.a)]
theorem YF (κ : Kp) (a : OM) (I : Nat → S → Prop) (n : Nat) (K : Exit → S → Prop) : (vc (Ku κ) 12 30 none 0 (ag (Pr κ).toProgram 30 3) (Ad a) (bC (Ku κ) 30 3 0 I n K)) = (
 letI z1 := nth (a.a.bl) a.i.toNat
 letI z3 := Tm.mk (toInt (ad (ad z1 2) 0)) (toStr (ad (ad z1 2) 1)) (toInt (ad (ad z1 2) 2)) (aa (ah (ad (ad z1 2) 3)))
 letI z4 := AV.agg [AV.agg [AV.str (a.a.rel), AV.ae 52 (a.a.hl)], AV.ae 55 (a.a.bl), AV.int (a.a.line)]
 letI z6 := ah (ad (ad z1 1) 1)
 letI z7 := ad (ad z1 1) 0
 letI z8 := IntKind.wrap IntKind.i64 (a.i + (1 : Int))
 letI z10 := Tm.mk (toInt (ad (ad z1 3) 0)) (toStr (ad (ad z1 3) 1)) (toInt (ad (ad z1 3) 2)) (aa (ah (ad (ad z1 3) 3)))
 letI z12 := K (Exit.exit 0) (sp 52 [(1, AV.int a.left)] [])
 letI z13 := (0 : Int)
 letI z5 := decide (z13 ≤ a.i) && decide (a.i < (↑(List.length (a.a.bl)) : Int))
 letI z14 := a.left - (1 : Int)
 letI z2 := IntKind.wrap IntKind.i64 z14
 letI z9 := dg { rel := toStr z7, l := aa z6 } z2
 letI z11 := dg {rel := toStr z7, l := aa z6 } z2
 letI z15 := (100000 : Int)
 ax (decide (a.i < (↑(List.length (a.a.bl)) : Int))) (ax (decide (a.left ≥ z13)) (aZ z5 (aZ (decide ((-1 : Int) ≤ IntKind.wrap IntKind.i64 z14) && decide (IntKind.wrap IntKind.i64 z14 ≤ z15)) (ax (decide (dg { rel := toStr z7, l := aa z6 } z2 ≥ z13)) (aZ z5 (aZ (decide (z13 ≤ dg { rel := toStr z7, l := aa z6 } z2) && decide (dg { rel := toStr z7, l := aa z6 } z2 ≤ z15)) (ax (decide (Tm.size z3 z11 ≥ z13)) (aZ z5 (aZ (decide (z13 ≤ Tm.size z3 z9) && decide (Tm.size z3 z11 ≤ z15)) (∃ (m : Nat), m < n ∧ I m (sp 52 [(1, AV.lit (Value.int IntKind.i64 (Tm.size z10 (Tm.size z3 z11)))), (2, AV.ptr 0 0 [] 0), (5, AV.int z8)] [Obj.box 41 z4])))) (∃ (m : Nat), m < n ∧ I m (sp 52 [(1, AV.lit (Value.int IntKind.i64 (Tm.size z3 z9))), (2, AV.ptr 0 0 [] 0), (5, AV.int z8)] [Obj.box 41 z4]))))) (ax (decide (dg {rel := toStr z7, l := aa z6 } z2 ≥ z13)) (aZ z5 (aZ (decide (z13 ≤ dg {rel := toStr z7, l := aa z6 } z2) && decide (dg { rel := toStr z7, l := aa z6 } z2 ≤ z15)) (∃ (m : Nat), m < n ∧ I m (sp 52 [(1, AV.lit (Value.int IntKind.i64 (Tm.size z10 z9))), (2, AV.ptr 0 0 [] 0), (5, AV.int z8)] [Obj.box 41 z4])))) (∃ (m : Nat), m < n ∧ I m (sp 52 [(1, AV.lit (Value.int IntKind.i64 z9)), (2, AV.ptr 0 0 [] 0), (5, AV.int z8)] [Obj.box 41 z4])))))) z12) z12) := by kernel_rfl
def yB (a : OM) : Prop := -1 ≤ a.left ∧ a.i + a.left ≤ 100000 ∧ 0 ≤ a.i ∧ a.i ≤ a.a.bl.length
def uz (a : OM) : Out (Exit × S) := .one (.exit 0, sp 52 [(1, .int (kx (bn (a.a.bl.drop a.i.toNat)) a.left))] [])
theorem l38 (κ : Kp) : bg (Ku κ) 12 30 3 (aK 0 Ad yB uz) := by
 refine aO (fun a => a.a.bl.length - a.i.toNat) ?_
 rintro ⟨a, left, i⟩ K ⟨h1, h2, h3, h4⟩ ho
 simp only at h1 h2 h3 h4
 rw [show (Ku κ).P = Pr κ from rfl]
 refine Eq.mpr (YF κ ⟨a, left, i⟩ _ _ K) ?_
 simp only [uz, Out.run] at ho
 by_cases hi : i < a.bl.length
 ·by_cases hl : left ≥ 0
  ·have hk : i.toNat < a.bl.length := by omega
   rw [jd a.bl i.toNat hk, kx, aa6 hl, aa7] at ho
   have hA : (⟨toStr (ad (ad (nth a.bl i.toNat) 1) 0), aa (ah (ad (ad (nth a.bl i.toNat) 1) 1))⟩ : At) = (bz (nth a.bl i.toNat)).a := rfl
   have hX : bI (ad (nth a.bl i.toNat) 2) = (bz (nth a.bl i.toNat)).x := rfl
   have hY : bI (ad (nth a.bl i.toNat) 3) = (bz (nth a.bl i.toNat)).y := rfl
   have hz := rz (bz (nth a.bl i.toNat)) left hl
   have hz1 := lC (bz (nth a.bl i.toNat)).a (left - 1) (by omega)
   have hz2 := Tm.size_le (bz (nth a.bl i.toNat)).x (dg (bz (nth a.bl i.toNat)).a (left - 1))
   have go : ∀ z, sizeLt (bz (nth a.bl i.toNat)) left = z → ∃ m, m < a.bl.length - i.toNat ∧ fp Ad yB uz (fun a => a.a.bl.length - a.i.toNat) K m (Ad ⟨a, z, i + 1⟩) := by
    rintro z rfl
    refine ⟨_, ?_, ⟨a, sizeLt (bz (nth a.bl i.toNat)) left, i + 1⟩, rfl, ⟨by simp only; omega, by simp only; omega, by simp only; omega, by simp only; omega⟩, rfl, ?_⟩
    ·simp only; omega
    ·simp only [uz, Out.run, show (i + 1).toNat = i.toNat + 1 by omega]
     exact ho
   simp only [aU (n := i + 1) (by omega) (by omega), aU (n := left - 1) (by omega) (by omega), hA, ← bX, hX, hY]
   simp only [af, aq, aa0, aa2, aa1]
   refine ⟨fun _ => ⟨fun _ => ⟨⟨h3, hi⟩, ⟨by omega, by omega⟩, fun e1 => ⟨⟨h3, hi⟩, ⟨e1, by omega⟩, fun e2 => ⟨⟨h3, hi⟩, ⟨e2, by have := hz2 e1; omega⟩, go _ ?_⟩, fun e2 => go _ ?_⟩, fun e1 => ⟨fun e => absurd e e1, fun _ => go _ ?_⟩⟩, fun e => absurd hl e⟩, fun e => absurd hi e⟩
   ·unfold sizeLt; rw [aa6 (show 0 ≤ dg (bz (nth a.bl i.toNat)).a (left - 1) from e1), aa7, aa6 (show 0 ≤ (bz (nth a.bl i.toNat)).x.size _ from e2), aa7]
   ·unfold sizeLt; rw [aa6 (show 0 ≤ dg (bz (nth a.bl i.toNat)).a (left - 1) from e1), aa7, aa4 (show ¬ 0 ≤ (bz (nth a.bl i.toNat)).x.size _ from e2), aa5]
   ·unfold sizeLt; rw [aa4 (show ¬ 0 ≤ dg (bz (nth a.bl i.toNat)).a (left - 1) from e1), aa5]; rfl
  ·rw [jd a.bl i.toNat (by omega), kx, aa4 (show ¬ 0 ≤ left from hl), aa5] at ho
   rw [aa6 (show i < (a.bl.length : Int) from hi), aa4 hl]
   exact ho
 ·rw [aa8 (by omega)] at ho
  rw [aa4 (show ¬ i < (a.bl.length : Int) from hi)]
  exact ho
noncomputable def HY (κ : Kp) : Env := (Ku κ).aj 30 3 (aK 0 Ad yB uz)
theorem Se (κ : Kp) : aw (HY κ) := (e53 κ).aj (Ub κ) (l38 κ)
theorem Qf (κ : Kp) : ai (HY κ) := (Ub κ).aj aE
theorem Zc (κ : Kp) (a : b5) (left : Int) (K : AV → List Dn.Obj → Prop) : (a9 (HY κ) 12 30 [aF a, .int left] [] K) = (
 letI z1 := left - (1 : Int)
 letI z2 := Pg.toProgram (Env.P (Ku κ))
 aZ (decide ((-1 : Int) ≤ IntKind.wrap IntKind.i64 z1) && decide (IntKind.wrap IntKind.i64 z1 ≤ (100000 : Int))) (ag z2 30 3 = ag z2 30 3 ∧ ∃ (a_1 : OM), sp 52 [(1, AV.lit (Value.int IntKind.i64 (dg {rel := a.rel, l := aa a.hl } (IntKind.wrap IntKind.i64 z1)))), (2, AV.ptr 0 0 [] 0), (5, AV.int 0)] [Obj.box 41 (AV.agg [AV.agg [AV.str a.rel, AV.ae 52 a.hl], AV.ae 55 a.bl, AV.int a.line])] = sp 52 [(1, AV.int a_1.left), (2, AV.ptr 0 0 [] 0), (5, AV.int a_1.i)] [Obj.box 41 (AV.agg [AV.agg [AV.str (a_1.a.rel), AV.ae 52 (a_1.a.hl)], AV.ae 55 (a_1.a.bl), AV.int (a_1.a.line)])] ∧ ((-1 : Int) ≤ a_1.left ∧ a_1.i + a_1.left ≤ (100000 : Int) ∧ (0 : Int) ≤ a_1.i ∧ a_1.i ≤ (↑(List.length (a_1.a.bl)) : Int)) ∧ K (AV.lit (Value.int IntKind.i64 (kx (bn (List.drop a_1.i.toNat (a_1.a.bl))) a_1.left))) [])) := by kernel_rfl
def R6 : List AV → Option (Bool × AV)
 | [.agg [.agg [.lit (.string rel), .ae 52 hl], .ae 55 bl, .lit (.int .i64 _)], .lit (.int .i64 left)] => some (decide (0 ≤ left) && decide (left ≤ 100000), .int (lA ⟨⟨rel, aa hl⟩, bn bl⟩ left))
 | _ => none
theorem Wc (κ : Kp) : bM (HY κ) 12 30 R6 := by
 intro args x hh
 unfold R6 at hh
 split at hh
 ·rename_i rel hl bl line left
  simp only [aa3, aa9, aa1, aa0] at hh
  obtain ⟨⟨h1, h2⟩, rfl⟩ := hh
  refine ⟨_, rfl, rfl, ?_⟩
  refine Eq.mpr (Zc κ ⟨[], [], rel, hl, bl, line, 0⟩ left _) ?_
  have hz1 := lC ⟨rel, aa hl⟩ (left - 1) (by omega)
  simp only [aU (n := left - 1) (by omega) (by omega)]
  rw [aq, aa1, aa0, aa0]
  exact ⟨⟨by omega, by omega⟩, trivial, ⟨⟨[], [], rel, hl, bl, line, 0⟩, dg ⟨rel, aa hl⟩ (left - 1), 0⟩, rfl, ⟨by simp only; omega, by simp only; omega, by simp only; omega, by simp only; omega⟩, rfl⟩
 ·cases hh
noncomputable def Kz (κ : Kp) : Env := (HY κ).au 30 R6
theorem ZO (κ : Kp) : aw (Kz κ) := (Se κ).au (Qf κ) (Wc κ)
theorem Ul (κ : Kp) : ai (Kz κ) := (Qf κ).au
abbrev Ir (a : List AV × Int) : S := sp 16 [(0, .ae 9 a.1), (3, .int a.2)] []
theorem x37 (κ : Kp) (l : List AV) (i : Int) (I : Nat → S → Prop) (n : Nat) (K : Exit → S → Prop) : (vc (Kz κ) 12 29 none 0 (ag (Pr κ).toProgram 29 2) (Ir (l, i)) (bC (Kz κ) 29 2 0 I n K)) = (
 ax (decide (i < (↑(l.length) : Int))) (aZ (decide ((0 : Int) ≤ i) && decide (i < (↑(l.length) : Int))) (ax (decide ((↑(ByteArray.size (toStr (nth l i.toNat)))
 : Int) > (1000 : Int))) (K Exit.ret (sp 16 [(2, AV.bool true)] [])) (∃ (m : Nat), m < n ∧ I m (sp 16 [(0, AV.ae 9 l), (3, AV.int (IntKind.wrap IntKind.i64 (i
 + (1 : Int))))] [])))) (K (Exit.exit 0) (sp 16 [] []))) := by kernel_rfl
def Ef (a : List AV × Int) : Prop := a.1.length ≤ aI ∧ 0 ≤ a.2 ∧ a.2 ≤ a.1.length
def yR (a : List AV × Int) : Out (Exit × S) := .ax (rQ (a.1.drop a.2.toNat)) (.one (.ret, sp 16 [(2, .bool true)] [])) (.one (.exit 0, sp 16 [] []))
theorem l37 (κ : Kp) : bg (Kz κ) 12 29 2 (aK 0 Ir Ef yR) := by
 refine aO (fun a => a.1.length - a.2.toNat) ?_
 rintro ⟨l, i⟩ K ⟨h1, h2, h3⟩ ho
 simp only at h1 h2 h3
 rw [show (Kz κ).P = Pr κ from rfl]
 refine Eq.mpr (x37 κ l i _ _ K) ?_
 simp only [aI] at h1
 simp only [yR, Out.run, af] at ho
 simp only [af, aq, aa0, aa2, aa1]
 refine ⟨fun hi => ⟨⟨h2, hi⟩, ?_⟩, fun hi => ?_⟩
 ·rw [ab1 (show i.toNat < l.length by omega), ← bx l i.toNat (by omega)] at ho
  simp only [rQ, List.any_cons] at ho
  refine ⟨fun e => ho.1 (by rw [aa6 (show (1000 : Int) < _ from e)]; rfl), fun e => ?_⟩
  rw [aa4 (show ¬ (1000 : Int) < _ from e), Bool.false_or] at ho
  rw [aU (n := i + 1) (by omega) (by omega)]
  refine ⟨_, ?_, (l, i + 1), rfl, ⟨by simpa [aI] using h1, by simp only; omega, by simp only; omega⟩, rfl, ?_⟩
  ·simp only; omega
  ·simp only [yR, Out.run, af, show (i + 1).toNat = i.toNat + 1 by omega]
   exact ho
 ·rw [aa8 (by omega)] at ho
  exact ho.2 rfl
noncomputable def HW (κ : Kp) : Env := (Kz κ).aj 29 2 (aK 0 Ir Ef yR)
theorem Rw (κ : Kp) : aw (HW κ) := (ZO κ).aj (Ul κ) (l37 κ)
theorem Ph (κ : Kp) : ai (HW κ) := (Ul κ).aj aE
theorem y37 (κ : Kp) (l : List AV) (K : AV → List Dn.Obj → Prop) : (a9 (HW κ) 12 29 [.ae 9 l] [] K) = (
 letI z1 := Pg.toProgram (Env.P (Kz κ))
 ag z1 29 2 = ag z1 29 2 ∧ ∃ (a : List AV × Int), sp 16 [(0, AV.ae 9 l), (3, AV.int 0)] [] = sp 16 [(0, AV.ae 9 a.1), (3, AV.int a.2)] [] ∧ (a.1.length ≤
 9223372036854775807 ∧ (0 : Int) ≤ a.2 ∧ a.2 ≤ (↑(a.1.length) : Int)) ∧ ax (rQ (List.drop a.2.toNat a.1)) (K (AV.bool true) []) (K (AV.bool false) [])) := by kernel_rfl
def SC : List AV → Option (Bool × AV)
 | [.ae 9 l] => some (decide (l.length ≤ aI), .bool (rQ l))
 | _ => none
theorem Z6 (κ : Kp) : bM (HW κ) 12 29 SC := by
 intro args x hh
 unfold SC at hh
 split at hh
 ·rename_i l
  simp only [aa3, aa9, aa0] at hh
  obtain ⟨h1, rfl⟩ := hh
  refine ⟨_, rfl, rfl, ?_⟩
  refine Eq.mpr (y37 κ l _) ?_
  refine ⟨rfl, (l, 0), rfl, ⟨h1, by simp only; omega, by simp only; omega⟩, ?_⟩
  rw [af]
  exact ⟨fun e => by rw [show rQ l = true from e], fun e => by rw [show rQ l = false from e]⟩
 ·cases hh
noncomputable def Ke (κ : Kp) : Env := (HW κ).au 29 SC
theorem Za (κ : Kp) : aw (Ke κ) := (Rw κ).au (Ph κ) (Z6 κ)
theorem UB (κ : Kp) : ai (Ke κ) := (Ph κ).au
structure Jw where
 ds : List AV
 rs : List AV
 left : Int
 i : Int
abbrev Ga (a : Jw) : AV := .agg [.ae 62 a.ds, .ae 41 a.rs]
abbrev Ej (a : Jw) : S := sp 62 [(1, .ptr 0 0 [] 0), (3, .int a.left), (4, .int a.i)] [.box 25 (Ga a)]
theorem Rp (κ : Kp) (a : Jw) (I : Nat → S → Prop) (n : Nat) (K : Exit → S → Prop) : (vc (Ke κ) 12 11 none 0 (ag (Pr κ).toProgram 11 3) (Ej a) (bC (Ke κ) 11 3 0 I n K)) = (
 letI z1 := decide ((0 : Int) ≤ a.i) && decide (a.i < (↑(a.ds.length) : Int))
 letI z2 := K Exit.ret (sp 62 [(2, AV.int 0)] [])
 letI z3 := AV.agg [AV.ae 62 a.ds, AV.ae 41 a.rs]
 letI z4 := nth a.ds a.i.toNat
 ax (decide (a.i < (↑(a.ds.length) : Int))) (aZ z1 (ax (decide ((↑(ByteArray.size (toStr (ad z4 0))) : Int) > (1000 : Int))) z2 (aZ z1 (aZ (decide (List.length
 (ah (ad z4 1)) ≤ 9223372036854775807)) (ax (rQ (ah (ad z4 1))) z2 (∃ (m : Nat), m < n ∧ I m (sp 62 [(1, AV.ptr 0 0 [] 0), (3, AV.int a.left), (4, AV.int
 (IntKind.wrap IntKind.i64 (a.i + (1 : Int))))] [Obj.box 25 z3]))))))) (K (Exit.exit 0) (sp 62 [(1, AV.ptr 0 0 [] 0), (3, AV.int a.left)] [Obj.box 25 z3]))) := by kernel_rfl
def yr (a : Jw) : Prop := a.ds.length ≤ aI ∧ (∀ d, d ∈ a.ds → (ah (ad d 1)).length ≤ aI) ∧ 0 ≤ a.i ∧ a.i ≤ a.ds.length
def vl (a : Jw) : Out (Exit × S) := .ax ((a.ds.drop a.i.toNat).any FD) (.one (.ret, sp 62 [(2, .int 0)] [])) (.one (.exit 0, sp 62 [(1, .ptr 0 0 [] 0), (3, .int a.left)] [.box 25 (Ga a)]))
theorem Sz (κ : Kp) : bg (Ke κ) 12 11 3 (aK 0 Ej yr vl) := by
 refine aO (fun a => a.ds.length - a.i.toNat) ?_
 rintro ⟨ds, rs, left, i⟩ K ⟨h1, h1', h2, h3⟩ ho
 simp only at h1 h1' h2 h3
 rw [show (Ke κ).P = Pr κ from rfl]
 refine Eq.mpr (Rp κ ⟨ds, rs, left, i⟩ _ _ K) ?_
 simp only [aI] at h1
 simp only [vl, Out.run, af] at ho
 simp only [af, aq, aa1, aa0, aa2]
 refine ⟨fun hi => ⟨⟨h2, hi⟩, ?_⟩, fun hi => ?_⟩
 ·have hi' : i.toNat < ds.length := by omega
  have hm : nth ds i.toNat ∈ ds := by rw [bx ds _ hi']; exact List.getElem_mem _
  rw [ab1 hi', ← bx ds i.toNat hi'] at ho
  simp only [List.any_cons, FD] at ho
  have go : (∀ h : ((ds.drop (i.toNat + 1)).any FD = true → K .ret (sp 62 [(2, .int 0)] [])) ∧ ((ds.drop (i.toNat + 1)).any FD = false → K (.exit 0) (sp 62 [(1, .ptr 0 0 [] 0), (3, .int left)] [.box 25 (Ga ⟨ds, rs, left, i⟩)])), ∃ m, m < ds.length - i.toNat ∧ fp Ej yr vl (fun a => a.ds.length - a.i.toNat) K m (sp 62 [(1, .ptr 0 0 [] 0), (3, .int left), (4, .int (IntKind.wrap .i64 (i + 1)))] [.box 25 (Ga ⟨ds, rs, left, i⟩)])) := by
   intro h
   rw [aU (n := i + 1) (by omega) (by omega)]
   refine ⟨_, ?_, ⟨ds, rs, left, i + 1⟩, rfl, ⟨by simpa [aI] using h1, h1', by simp only; omega, by simp only; omega⟩, rfl, ?_⟩
   ·simp only; omega
   ·simp only [vl, Out.run, af, show (i + 1).toNat = i.toNat + 1 by omega]
    exact h
  refine ⟨fun e1 => ho.1 (by rw [aa6 (show (1000 : Int) < _ from e1)]; rfl), fun e1 => ⟨⟨h2, hi⟩, h1' _ hm, fun e2 => ho.1 (by rw [e2]; simp), fun e2 => go ?_⟩⟩
  rw [aa4 (show ¬ (1000 : Int) < _ from e1), e2] at ho
  exact ho
 ·rw [aa8 (by omega)] at ho
  exact ho.2 rfl
noncomputable def zt (κ : Kp) : Env := (Ke κ).aj 11 3 (aK 0 Ej yr vl)
theorem RR (κ : Kp) : aw (zt κ) := (Za κ).aj (UB κ) (Sz κ)
theorem Od (κ : Kp) : ai (zt κ) := (UB κ).aj aE
abbrev Jl (a : Jw) : S := sp 62 [(1, .ptr 0 0 [] 0), (3, .int a.left), (5, .int a.i)] [.box 25 (Ga a)]
theorem R3 (κ : Kp) (a : Jw) (I : Nat → S → Prop) (n : Nat) (K : Exit → S → Prop) : (vc (zt κ) 12 11 none 0 (ag (Pr κ).toProgram 11 8) (Jl a) (bC (zt κ) 11 8 0 I n K)) = (
 letI z2 := AV.agg [AV.ae 62 a.ds, AV.ae 41 a.rs]
 letI z1 := K (Exit.exit 2) (sp 62 [(1, AV.ptr 0 0 [] 0), (3, AV.int a.left)] [Obj.box 25 z2])
 letI z3 := nth a.rs a.i.toNat
 ax (decide (a.i < (↑(a.rs.length) : Int))) (ax (decide (a.left ≥ (0 : Int))) (aZ (decide ((0 : Int) ≤ a.i) && decide (a.i < (↑(a.rs.length) : Int))) (aZ (decide ((0 : Int) ≤ a.left) && decide (a.left ≤ (100000 : Int))) (∃ (m : Nat), m < n ∧ I m (sp 62 [(1, AV.ptr 0 0 [] 0), (3, AV.lit (Value.int IntKind.i64 (lA {head := { rel := toStr (ad (ad z3 0) 0), l := aa (ah (ad (ad z3 0) 1)) }, body := bn (ah (ad z3 1)) } a.left))), (5, AV.int (IntKind.wrap IntKind.i64 (a.i + (1 : Int))))] [Obj.box 25 z2])))) z1) z1) := by kernel_rfl
def Dj (a : Jw) : Prop := -1 ≤ a.left ∧ a.i + a.left ≤ 100000 ∧ 0 ≤ a.i ∧ a.i ≤ a.rs.length
def zj (a : Jw) : Out (Exit × S) := .one (.exit 2, sp 62 [(1, .ptr 0 0 [] 0), (3, .int (lF ((a.rs.drop a.i.toNat).map uM) a.left))] [.box 25 (Ga a)])
theorem R4 (κ : Kp) : bg (zt κ) 12 11 8 (aK 0 Jl Dj zj) := by
 refine aO (fun a => a.rs.length - a.i.toNat) ?_
 rintro ⟨ds, rs, left, i⟩ K ⟨h1, h2, h3, h4⟩ ho
 simp only at h1 h2 h3 h4
 rw [show (zt κ).P = Pr κ from rfl]
 refine Eq.mpr (R3 κ ⟨ds, rs, left, i⟩ _ _ K) ?_
 simp only [zj, Out.run] at ho
 by_cases hi : i < rs.length
 ·have hi' : i.toNat < rs.length := by omega
  rw [ab1 hi', ← bx rs i.toNat hi', ac2, lF] at ho
  by_cases hl : left ≥ 0
  ·have hz := tD (uM (nth rs i.toNat)) left hl
   rw [aa6 (show 0 ≤ left from hl), aa7] at ho
   rw [aa6 (show i < (rs.length : Int) from hi), aa6 hl, aU (n := i + 1) (by omega) (by omega)]
   simp only [ax, aq, aa1, aa0]
   refine ⟨⟨h3, trivial⟩, ⟨trivial, by omega⟩, _, ?_, ⟨ds, rs, lA (uM (nth rs i.toNat)) left, i + 1⟩, rfl, ⟨by simp only; omega, by simp only; omega, by simp only; omega, by simp only; omega⟩, rfl, ?_⟩
   ·simp only; omega
   ·simp only [zj, Out.run, show (i + 1).toNat = i.toNat + 1 by omega]
    exact ho
  ·rw [aa4 (show ¬ 0 ≤ left from hl), aa5] at ho
   rw [aa6 (show i < (rs.length : Int) from hi), aa4 hl]
   exact ho
 ·rw [aa8 (by omega)] at ho
  rw [aa4 (show ¬ i < (rs.length : Int) from hi)]
  exact ho
noncomputable def Jf (κ : Kp) : Env := (zt κ).aj 11 8 (aK 0 Jl Dj zj)
theorem Sp (κ : Kp) : aw (Jf κ) := (RR κ).aj (Od κ) (R4 κ)
theorem O9 (κ : Kp) : ai (Jf κ) := (Od κ).aj aE
theorem ZY (κ : Kp) (ds rs : List AV) (K : AV → List Dn.Obj → Prop) : (a9 (Jf κ) 12 11 [.agg [.ae 62 ds, .ae 41 rs]] [] K) = (
 letI z1 := K (AV.int 0) []
 letI z2 := Pg.toProgram (Env.P (Ke κ))
 letI z3 := Pg.toProgram (Env.P (zt κ))
 ag z2 11 3 = ag z2 11 3 ∧ ∃ (a : Jw), sp 62 [(1, AV.ptr 0 0 [] 0), (3, AV.int 2000), (4, AV.int 0)] [Obj.box 25 (AV.agg [AV.ae 62 ds, AV.ae 41 rs])] = sp 62
 [(1, AV.ptr 0 0 [] 0), (3, AV.int a.left), (4, AV.int a.i)] [Obj.box 25 (AV.agg [AV.ae 62 a.ds, AV.ae 41 a.rs])] ∧ (a.ds.length ≤ 9223372036854775807 ∧ (∀ (d :
 AV), List.Mem d a.ds → List.length (ah (ad d 1)) ≤ 9223372036854775807) ∧ (0 : Int) ≤ a.i ∧ a.i ≤ (↑(a.ds.length) : Int)) ∧ ax (List.any (List.drop a.i.toNat
 a.ds) FD) z1 (ag z3 11 8 = ag z3 11 8 ∧ ∃ (a_1 : Jw), sp 62 [(1, AV.ptr 0 0 [] 0), (3, AV.int a.left), (5, AV.int 0)] [Obj.box 25 (AV.agg [AV.ae 62 a.ds, AV.ae
 41 a.rs])] = sp 62 [(1, AV.ptr 0 0 [] 0), (3, AV.int a_1.left), (5, AV.int a_1.i)] [Obj.box 25 (AV.agg [AV.ae 62 a_1.ds, AV.ae 41 a_1.rs])] ∧ ((-1 : Int) ≤
 a_1.left ∧ a_1.i + a_1.left ≤ (100000 : Int) ∧ (0 : Int) ≤ a_1.i ∧ a_1.i ≤ (↑(a_1.rs.length) : Int)) ∧ ax (decide (lF (List.map uM (List.drop a_1.i.toNat
 a_1.rs)) a_1.left < (0 : Int))) z1 (ax (decide ((↑(a_1.ds.length) : Int) > (100 : Int))) z1 (ax (decide ((↑(a_1.rs.length) : Int) > (300 : Int))) z1 (K (AV.int
 1) []))))) := by kernel_rfl
def Si : List AV → Option (Bool × AV)
 | [.agg [.ae 62 ds, .ae 41 rs]] => some (decide (ds.length ≤ aI) && ds.all (fun d => decide ((ah (ad d 1)).length ≤ aI)), .int (bif kL ds rs then 1 else 0))
 | _ => none
theorem p22 (κ : Kp) : bM (Jf κ) 12 11 Si := by
 intro args x hh
 unfold Si at hh
 split at hh
 ·rename_i ds rs
  simp only [aa3, aa9, aa1, aa0, List.all_eq_true] at hh
  obtain ⟨⟨h1, h2⟩, rfl⟩ := hh
  refine ⟨_, rfl, rfl, ?_⟩
  refine Eq.mpr (ZY κ ds rs _) ?_
  refine ⟨rfl, ⟨ds, rs, 2000, 0⟩, rfl, ⟨h1, h2, by simp only; omega, by simp only; omega⟩, ?_⟩
  simp only [ab8, ab0, af]
  refine ⟨fun e => ?_, fun e => ⟨trivial, ⟨ds, rs, 2000, 0⟩, rfl, ⟨by simp only; omega, by simp only; omega, by simp only; omega, by simp only; omega⟩, ?_⟩⟩
  ·unfold kL; rw [e]; rfl
  ·simp only [ab8, ab0, aa0, aa2]
   refine ⟨fun e1 => ?_, fun e1 => ⟨fun e2 => ?_, fun e2 => ⟨fun e3 => ?_, fun e3 => ?_⟩⟩⟩
   ·unfold kL; rw [e, aa4 (show ¬ 0 ≤ lF (rs.map uM) 2000 by omega)]; rfl
   ·unfold kL; rw [aa4 (show ¬ ds.length ≤ 100 by omega)]; simp
   ·unfold kL; rw [aa4 (show ¬ rs.length ≤ 300 by omega)]; simp
   ·unfold kL; rw [e, aa6 (show 0 ≤ lF (rs.map uM) 2000 by omega), aa6 (show ds.length ≤ 100 by omega), aa6 (show rs.length ≤ 300 by omega)]; rfl
 ·cases hh
noncomputable def Sj (κ : Kp) : Env := (Jf κ).au 11 Si
theorem WJ (κ : Kp) : aw (Sj κ) := (Sp κ).au (O9 κ) (p22 κ)
theorem m22 (κ : Kp) : ai (Sj κ) := (O9 κ).au
noncomputable abbrev E9 (κ : Kp) : Env := Sj κ
theorem e9 (κ : Kp) : aw (E9 κ) := WJ κ
theorem m9 (κ : Kp) : ai (E9 κ) := m22 κ
abbrev JP (s : ByteArray) : AV := .agg [.int 1, .lit (.string s), .int 0, .ae 52 []]
theorem Yb (κ : Kp) (s : ByteArray) (K : AV → List Dn.Obj → Prop) : (a9 (E9 κ) 12 25 [.lit (.string s)] [] K) = (
 K (AV.agg [AV.int 1, AV.str s, AV.int 0, AV.ae 52 []]) []) := by kernel_rfl
def RF : List AV → Option (Bool × AV)
 | [.lit (.string s)] => some (true, JP s)
 | _ => none
theorem c13 (κ : Kp) : yP (E9 κ) 12 25 RF := by
 intro args x hh
 unfold RF at hh
 split at hh
 ·rename_i s
  simp only [aa3, aa9, true_and] at hh
  subst hh
  exact ⟨rfl, Eq.mpr (Yb κ s _) rfl⟩
 ·cases hh
noncomputable def OQ (κ : Kp) : Env := (E9 κ).ga 25 RF
theorem e13 (κ : Kp) : aw (OQ κ) := (e9 κ).ga (m9 κ) (c13 κ)
theorem UJ (κ : Kp) : ai (OQ κ) := (m9 κ).ga
theorem y14 (κ : Kp) (r s : ByteArray) (K : AV → List Dn.Obj → Prop) : (a9 (OQ κ) 12 26 [.lit (.string r), .lit (.string s)] [] K) = (
 K (AV.agg [AV.str r, AV.ae 52 [AV.agg [AV.int 1, AV.str s, AV.int 0, AV.ae 52 []]]]) []) := by kernel_rfl
def R0 : List AV → Option (Bool × AV)
 | [.lit (.string r), .lit (.string s)] => some (true, .agg [.lit (.string r), .ae 52 [JP s]])
 | _ => none
theorem c14 (κ : Kp) : yP (OQ κ) 12 26 R0 := by
 intro args x hh
 unfold R0 at hh
 split at hh
 ·rename_i r s
  simp only [aa3, aa9, true_and] at hh
  subst hh
  exact ⟨rfl, Eq.mpr (y14 κ r s _) rfl⟩
 ·cases hh
noncomputable def KR (κ : Kp) : Env := (OQ κ).ga 26 R0
theorem e14 (κ : Kp) : aw (KR κ) := (e13 κ).ga (UJ κ) (c14 κ)
theorem TE (κ : Kp) : ai (KR κ) := (UJ κ).ga
theorem Yo (κ : Kp) (l m : List AV) (i : Int) (I : Nat → S → Prop) (n : Nat) (K : Exit → S → Prop) : (vc (KR κ) 12 28 none 0 (ag (Pr κ).toProgram 28 4) (sp 26 [(0, .ae 3 l), (1, .ae 3 m), (5, .int i)] []) (bC (KR κ) 28 4 0 I n K)) = (
 ax (decide (i < (↑(l.length) : Int))) (aZ (decide ((0 : Int) ≤ i) && decide (i < (↑(l.length) : Int))) (aZ (decide ((0 : Int) ≤ i) && decide (i < (↑(m.length)
 : Int))) (ax (toInt (nth l i.toNat) != toInt (nth m i.toNat)) (K Exit.ret (sp 26 [(4, AV.bool false)] [])) (∃ (m_1 : Nat), m_1 < n ∧ I m_1 (sp 26 [(0, AV.ae
 3 l), (1, AV.ae 3 m), (5, AV.int (IntKind.wrap IntKind.i64 (i + (1 : Int))))] []))))) (K (Exit.exit 0) (sp 26 [] []))) := by kernel_rfl
def rZ (l m : List AV) : Bool := decide (l.map toInt = m.map toInt)
abbrev LY (a : List AV × List AV × Int) : S := sp 26 [(0, .ae 3 a.1), (1, .ae 3 a.2.1), (5, .int a.2.2)] []
def DM (a : List AV × List AV × Int) : Prop := a.1.length = a.2.1.length ∧ a.1.length ≤ aI ∧ 0 ≤ a.2.2 ∧ a.2.2 ≤ a.1.length
def xU (a : List AV × List AV × Int) : Out (Exit × S) := .ax (rZ (a.1.drop a.2.2.toNat) (a.2.1.drop a.2.2.toNat)) (.one (.exit 0, sp 26 [] [])) (.one (.ret, sp 26 [(4, .bool false)] []))
theorem ZU (κ : Kp) : bg (KR κ) 12 28 4 (aK 0 LY DM xU) := by
 refine aO (fun a => a.1.length - a.2.2.toNat) ?_
 rintro ⟨l, m, i⟩ K ⟨h1, h2, h3, h4⟩ ho
 simp only at h1 h2 h3 h4
 rw [show (KR κ).P = Pr κ from rfl]
 refine Eq.mpr (Yo κ l m i _ _ K) ?_
 simp only [aI] at h2
 simp only [xU, Out.run, af] at ho
 simp only [af, aq, aa0, aa2, aa1, bne_iff_ne, bne_eq_false_iff_eq]
 refine ⟨fun hi => ⟨⟨h3, hi⟩, ⟨h3, by omega⟩, ?_⟩, fun hi => ?_⟩
 ·rw [ab1 (show i.toNat < l.length by omega), ← bx l i.toNat (by omega), ab1 (show i.toNat < m.length by omega), ← bx m i.toNat (by omega)] at ho
  simp only [rZ, ac2, List.cons.injEq] at ho
  refine ⟨fun e => ho.2 (by simp [e]), fun e => ?_⟩
  rw [aU (n := i + 1) (by omega) (by omega)]
  refine ⟨_, ?_, (l, m, i + 1), rfl, ⟨h1, by simpa [aI] using h2, by simp only; omega, by simp only; omega⟩, rfl, ?_⟩
  ·simp only; omega
  ·simp only [xU, Out.run, af, show (i + 1).toNat = i.toNat + 1 by omega, rZ]
   simpa [e] using ho
 ·rw [aa8 (by omega), aa8 (by omega)] at ho
  exact ho.1 rfl
noncomputable def H7 (κ : Kp) : Env := (KR κ).aj 28 4 (aK 0 LY DM xU)
theorem SM (κ : Kp) : aw (H7 κ) := (e14 κ).aj (TE κ) (ZU κ)
theorem Qt (κ : Kp) : ai (H7 κ) := (TE κ).aj aE
theorem Vi (κ : Kp) (l m : List AV) (K : AV → List Dn.Obj → Prop) : (a9 (H7 κ) 12 28 [.ae 3 l, .ae 3 m] [] K) = (
 letI z1 := Pg.toProgram (Env.P (KR κ))
 ax ((↑(l.length) : Int) != (↑(m.length) : Int)) (K (AV.bool false) []) (ag z1 28 4 = ag z1 28 4 ∧ ∃ (a : List AV × List AV × Int), sp 26 [(0, AV.ae 3 l), (1,
 AV.ae 3 m), (5, AV.int 0)] [] = sp 26 [(0, AV.ae 3 a.1), (1, AV.ae 3 a.2.1), (5, AV.int (a.2.2))] [] ∧ (a.1.length = a.2.1.length ∧ a.1.length ≤
 9223372036854775807 ∧ (0 : Int) ≤ a.2.2 ∧ a.2.2 ≤ (↑(a.1.length) : Int)) ∧ ax (rZ (List.drop (Int.toNat (a.2.2)) a.1) (List.drop (Int.toNat (a.2.2)) a.2.1)) (K
 (AV.bool true) []) (K (AV.bool false) []))) := by kernel_rfl
def RM : List AV → Option (Bool × AV)
 | [.ae 3 l, .ae 3 m] => some (decide (l.length ≤ aI), .bool (rZ l m))
 | _ => none
theorem Ye (κ : Kp) : bM (H7 κ) 12 28 RM := by
 intro args x hh
 unfold RM at hh
 split at hh
 ·rename_i l m
  simp only [aa3, aa9, aa0] at hh
  obtain ⟨h1, rfl⟩ := hh
  refine ⟨_, rfl, rfl, ?_⟩
  refine Eq.mpr (Vi κ l m _) ?_
  simp only [af, bne_iff_ne, bne_eq_false_iff_eq]
  refine ⟨fun e => ?_, fun e => ⟨trivial, (l, m, 0), rfl, ⟨by simp only; omega, h1, by simp only; omega, by simp only; omega⟩, ?_⟩⟩
  ·have : rZ l m = false := by
    unfold rZ
    rw [aa4]
    intro h
    have := congrArg List.length h
    simp at this; omega
   rw [this]
  ·simp only [ab8, ab0]
   exact ⟨fun e => by rw [e], fun e => by rw [e]⟩
 ·cases hh
noncomputable def Ps (κ : Kp) : Env := (H7 κ).au 28 RM
theorem Zp (κ : Kp) : aw (Ps κ) := (SM κ).au (Qt κ) (Ye κ)
theorem Ur (κ : Kp) : ai (Ps κ) := (Qt κ).au
theorem y6 (κ : Kp) (K : AV → List Dn.Obj → Prop) : (a9 (Ps κ) 12 10 [] [] K) = (
 letI z1 := K (AV.bool false) []
 ∃ (a : b5), ([AV.agg [AV.agg [AV.str { data := #[OfNat.ofNat 112] }, AV.ae 52 [AV.agg [AV.int 1, AV.str { data := #[OfNat.ofNat 120] }, AV.int 0, AV.ae 52 []]]], AV.ae 55 [AV.agg [AV.int 3, AV.agg [AV.str { data := #[] }, AV.nil], AV.agg [AV.int 1, AV.str { data := #[OfNat.ofNat 121] }, AV.int 0, AV.ae 52 []], AV.agg [AV.int 5, AV.str { data := #[] }, AV.int 0, AV.ae 52 [AV.agg [AV.int 1, AV.str { data := #[OfNat.ofNat 120] }, AV.int 0, AV.ae 52 []], AV.agg [AV.int 2, AV.str { data := #[] }, AV.int 1, AV.nil]]]], AV.agg [AV.int 1, AV.agg [AV.str { data := #[OfNat.ofNat 113] }, AV.ae 52 [AV.agg [AV.int 1, AV.str {data := #[OfNat.ofNat 120] }, AV.int 0, AV.ae 52 []]]], AV.agg [AV.int 0, AV.str { data := #[] }, AV.int 0, AV.nil], AV.agg [AV.int 0, AV.str {data := #[] }, AV.int 0, AV.nil]], AV.agg [AV.int 5, AV.agg [AV.str { data := #[] }, AV.nil], AV.agg [AV.int 1, AV.str { data := #[OfNat.ofNat 121] }, AV.int 0, AV.ae 52 []], AV.agg [AV.int 2, AV.str { data := #[] }, AV.int 3, AV.nil]]], AV.int 0]], az) = ([AV.agg [AV.agg [AV.str a.rel, AV.ae 52 a.hl], AV.ae 55 a.bl, AV.int a.line]], az) ∧ (aH (aa (aX 52 a.hl a.bl)) ≤ 100000 ∧ a.bl.length ≤ 100000) ∧ ax (aG (aL a)) (ax (iw (aL a)) (∃ (a_1 : b5), ([AV.agg [AV.agg [AV.str { data := #[OfNat.ofNat 112] }, AV.ae 52 [AV.agg [AV.int 1, AV.str { data := #[OfNat.ofNat 120] }, AV.int 0, AV.ae 52 []]]], AV.ae 55 [AV.agg [AV.int 2, AV.agg [AV.str { data := #[OfNat.ofNat 113] }, AV.ae 52 [AV.agg [AV.int 1, AV.str { data := #[OfNat.ofNat 120] }, AV.int 0, AV.ae 52 []]]], AV.agg [AV.int 0, AV.str { data := #[] }, AV.int 0, AV.nil], AV.agg [AV.int 0, AV.str { data := #[] }, AV.int 0, AV.nil]]], AV.int 0]], az) = ([AV.agg [AV.agg [AV.str a_1.rel, AV.ae 52 a_1.hl], AV.ae 55 a_1.bl, AV.int a_1.line]], az) ∧ (aH (aa (aX 52 a_1.hl a_1.bl)) ≤ 100000 ∧ a_1.bl.length ≤ 100000) ∧ ax (aG (aL a_1)) (ax (iw (aL a_1)) z1 (aZ (decide (List.length (List.take (List.length (gw (aL a))) (List.drop 0 (ints (gw (aL a))))) ≤ 9223372036854775807)) (K (AV.lit (Value.bool (rZ (List.take (List.length (gw (aL a))) (List.drop 0 (ints (gw (aL a))))) [AV.int 1, AV.int 0, AV.int 2]))) []))) z1) (∃ (a : b5), ([AV.agg [AV.agg [AV.str { data := #[OfNat.ofNat 112] }, AV.ae 52 [AV.agg [AV.int 1, AV.str { data := #[OfNat.ofNat 120] }, AV.int 0, AV.ae 52 []]]], AV.ae 55 [AV.agg [AV.int 2, AV.agg [AV.str { data := #[OfNat.ofNat 113] }, AV.ae 52 [AV.agg [AV.int 1, AV.str { data := #[OfNat.ofNat 120] }, AV.int 0, AV.ae 52 []]]], AV.agg [AV.int 0, AV.str { data := #[] }, AV.int 0, AV.nil], AV.agg [AV.int 0, AV.str { data := #[] }, AV.int 0, AV.nil]]], AV.int 0]], az) = ([AV.agg [AV.agg [AV.str a.rel, AV.ae 52 a.hl], AV.ae 55 a.bl, AV.int a.line]], az) ∧ (aH (aa (aX 52 a.hl a.bl)) ≤ 100000 ∧ a.bl.length ≤ 100000) ∧ ax (aG (aL a)) (ax (iw (aL a)) z1 z1) z1)) (∃ (a : b5), ([AV.agg [AV.agg [AV.str { data := #[OfNat.ofNat 112] }, AV.ae 52 [AV.agg [AV.int 1, AV.str {data := #[OfNat.ofNat 120] }, AV.int 0, AV.ae 52 []]]], AV.ae 55 [AV.agg [AV.int 2, AV.agg [AV.str { data := #[OfNat.ofNat 113] }, AV.ae 52 [AV.agg [AV.int 1, AV.str { data := #[OfNat.ofNat 120] }, AV.int 0, AV.ae 52 []]]], AV.agg [AV.int 0, AV.str { data := #[] }, AV.int 0, AV.nil], AV.agg [AV.int 0, AV.str { data := #[] }, AV.int 0, AV.nil]]], AV.int 0]], az) = ([AV.agg [AV.agg [AV.str a.rel, AV.ae 52 a.hl], AV.ae 55 a.bl, AV.int a.line]], az) ∧ (aH (aa (aX 52 a.hl a.bl)) ≤ 100000 ∧ a.bl.length ≤ 100000) ∧ ax (aG (aL a)) (ax (iw (aL a)) z1 z1) z1)) := by kernel_rfl
abbrev Ox : AV := .agg [.int 0, .lit (.string s0), .int 0, .nil]
abbrev T6 : AV := .agg [.lit (.string s0), .nil]
abbrev Tp (r s : ByteArray) : AV := .agg [.lit (.string r), .ae 52 [JP s]]
abbrev Q7 (n : Int) : AV := .agg [.int 2, .lit (.string s0), .int n, .nil]
def aA : b5 := ⟨[], [], Nu, [JP sx], [.agg [.int 3, T6, JP sy, .agg [.int 5, .lit (.string s0), .int 0, .ae 52 [JP sx, Q7 1]]], .agg [.int 1, Tp sq sx, Ox, Ox], .agg [.int 5, T6, JP sy, Q7 3]], 0, 0⟩
def aB : b5 := ⟨[], [], Nu, [JP sx], [.agg [.int 2, Tp sq sx, Ox, Ox]], 0, 0⟩
theorem Hi (s : ByteArray) : bI (JP s) = tv s := by rw [kU]; rfl
theorem L4 (n : Int) : bI (Q7 n) = ti n := by rw [bX]; rfl
theorem Qi : bI Ox = t0 := by rw [bX]; rfl
theorem I1 : aL aA = xD := by
 have e5 : bI (.agg [.int 5, .lit (.string s0), .int 0, .ae 52 [JP sx, Q7 1]]) = .mk 5 s0 0 [tv sx, ti 1] := by
  rw [kU]; simp only [aa, ac2, ac3, Hi, L4]
 simp only [aL, aA, xD, aa, bn, ac2, ac3, Hi, bz, Br, ad, nth, Qi, L4, e5, ah, toInt, toStr]
 rfl
theorem HT : aL aB = Bf := by
 simp only [aL, aB, Bf, aa, bn, ac2, ac3, Hi, bz, Br, ad, nth, Qi, ah, toInt, toStr]
theorem Lx : bZ aA := by
 refine ⟨?_, by simp [aA]⟩
 have := pG 52 aA.rel aA.hl aA.bl
 rw [show (⟨⟨aA.rel, aa aA.hl⟩, bn aA.bl⟩ : Rl) = aL aA from rfl, I1] at this
 rw [this]; decide
theorem Kr : bZ aB := by
 refine ⟨?_, by simp [aB]⟩
 have := pG 52 aB.rel aB.hl aB.bl
 rw [show (⟨⟨aB.rel, aa aB.hl⟩, bn aB.bl⟩ : Rl) = aL aB from rfl, HT] at this
 rw [this]; decide
def g6 : List AV → Option (Bool × AV)
 | [] => some (true, .bool true)
 | _ => none
theorem p6 (κ : Kp) : bM (Ps κ) 12 10 g6 := by
 intro args x hh
 unfold g6 at hh
 split at hh
 ·simp only [aa3, aa9, true_and] at hh
  subst hh
  refine ⟨_, rfl, rfl, ?_⟩
  refine Eq.mpr (y6 κ _) ?_
  refine ⟨aA, rfl, Lx, ?_⟩
  rw [I1, K6, MX, Mu]
  refine ⟨aB, rfl, Kr, ?_⟩
  rw [HT, Km, MY]
  rfl
 ·cases hh
noncomputable def E6 (κ : Kp) : Env := (Ps κ).au 10 g6
theorem e6 (κ : Kp) : aw (E6 κ) := (Zp κ).au (Ur κ) (p6 κ)
theorem m6 (κ : Kp) : ai (E6 κ) := (Ur κ).au
theorem Z0 (κ : Kp) (l : List AV) (s : ByteArray) (i : Int) (I : Nat → S → Prop) (n : Nat) (K : Exit → S → Prop) : (vc (E6 κ) 12 147 none 0 (ag (Pr κ).toProgram 147 2) (sp 19 [(0, .ae 9 l), (1, .lit (.string s)), (5, .int i)] []) (bC (E6 κ) 147 2 0 I n K)) = (
 ax (decide (i < (↑(l.length) : Int))) (aZ (decide ((0 : Int) ≤ i) && decide (i < (↑(l.length) : Int))) (ax (ByteArray.toList (toStr (nth l i.toNat)) ==
 ByteArray.toList s) (K Exit.ret (sp 19 [(4, AV.int i)] [])) (∃ (m : Nat), m < n ∧ I m (sp 19 [(0, AV.ae 9 l), (1, AV.str s), (5, AV.int (IntKind.wrap
 IntKind.i64 (i + (1 : Int))))] [])))) (K (Exit.exit 0) (sp 19 [] []))) := by kernel_rfl
abbrev OI (a : List AV × ByteArray × Int) : S := sp 19 [(0, .ae 9 a.1), (1, .lit (.string a.2.1)), (5, .int a.2.2)] []
def Eb (a : List AV × ByteArray × Int) : Out (Exit × S) := .ax (decide (bm a.2.1 (a.1.drop a.2.2.toNat) a.2.2 ≥ 0)) (.one (.ret, sp 19 [(4, .int (bm a.2.1 (a.1.drop a.2.2.toNat) a.2.2))] [])) (.one (.exit 0, sp 19 [] []))
theorem zQ (a b : ByteArray) : gC a b = gC b a := by
 rw [zc, zc, Bool.eq_iff_iff, beq_iff_eq, beq_iff_eq]
 exact ⟨fun h => h.symm, fun h => h.symm⟩
theorem VD (κ : Kp) : bg (E6 κ) 12 147 2 (aK 0 OI zw Eb) := by
 refine aO (fun a => a.1.length - a.2.2.toNat) ?_
 rintro ⟨l, s, i⟩ K ⟨h1, h2, h3⟩ ho
 simp only at h1 h2 h3
 rw [show (E6 κ).P = Pr κ from rfl]
 refine Eq.mpr (Z0 κ l s i _ _ K) ?_
 simp only [aI] at h1
 simp only [Eb, Out.run, af] at ho
 simp only [af, aq, aa0, aa2, aa1]
 refine ⟨fun hi => ⟨⟨h2, hi⟩, fun e => ?_, fun e => ?_⟩, fun hi => ?_⟩
 ·rw [ab1 (show i.toNat < l.length by omega), ← bx l i.toNat (by omega), bm, zQ, show gC (toStr (nth l i.toNat)) s = true from e, aa7, aa6 (show i ≥ 0 from h2)] at ho
  exact ho.1 rfl
 ·rw [aU (n := i + 1) (by omega) (by omega)]
  refine ⟨_, ?_, (l, s, i + 1), rfl, ⟨by simpa [aI] using h1, by simp only; omega, by simp only; omega⟩, rfl, ?_⟩
  ·simp only; omega
  ·rw [ab1 (show i.toNat < l.length by omega), ← bx l i.toNat (by omega), bm, zQ, show gC (toStr (nth l i.toNat)) s = false from e, aa5] at ho
   simp only [Eb, Out.run, af, show (i + 1).toNat = i.toNat + 1 by omega]
   exact ho
 ·rw [aa8 (by omega)] at ho
  exact ho.2 rfl
noncomputable def Jm (κ : Kp) : Env := (E6 κ).aj 147 2 (aK 0 OI zw Eb)
theorem Sc (κ : Kp) : aw (Jm κ) := (e6 κ).aj (m6 κ) (VD κ)
theorem OB (κ : Kp) : ai (Jm κ) := (m6 κ).aj aE
theorem Xm (κ : Kp) (l : List AV) (s : ByteArray) (K : AV → List Dn.Obj → Prop) : (a9 (Jm κ) 12 147 [.ae 9 l, .lit (.string s)] [] K) = (
 letI z1 := Pg.toProgram (Env.P (E6 κ))
 ag z1 147 2 = ag z1 147 2 ∧ ∃ (a : List AV × ByteArray × Int), sp 19 [(0, AV.ae 9 l), (1, AV.str s), (5, AV.int 0)] [] = sp 19 [(0, AV.ae 9 a.1), (1, AV.str
 a.2.1), (5, AV.int (a.2.2))] [] ∧ (a.1.length ≤ 9223372036854775807 ∧ (0 : Int) ≤ a.2.2 ∧ a.2.2 ≤ (↑(a.1.length) : Int)) ∧ ax (decide (bm a.2.1 (List.drop
 (Int.toNat (a.2.2)) a.1) (a.2.2) ≥ (0 : Int))) (K (AV.int (bm a.2.1 (List.drop (Int.toNat (a.2.2)) a.1) (a.2.2))) []) (K (AV.int (-1)) [])) := by kernel_rfl
theorem YB (κ : Kp) : bM (Jm κ) 12 147 Ka := by
 intro args x hh
 unfold Ka at hh
 split at hh
 ·rename_i l s
  simp only [aa3, aa9, aa0] at hh
  obtain ⟨h1, rfl⟩ := hh
  refine ⟨_, rfl, rfl, ?_⟩
  refine Eq.mpr (Xm κ l s _) ?_
  refine ⟨rfl, (l, s, 0), rfl, ⟨h1, by simp only; omega, by simp only; omega⟩, ?_⟩
  simp only [ab8, ab0, af, aa0, aa2]
  exact ⟨fun _ => trivial, fun e => by rw [pz s l 0 e (by omega)]⟩
 ·cases hh
noncomputable def Qj (κ : Kp) : Env := (Jm κ).au 147 Ka
theorem VM (κ : Kp) : aw (Qj κ) := (Sc κ).au (OB κ) (YB κ)
theorem UK (κ : Kp) : ai (Qj κ) := (OB κ).au
theorem Wh (κ : Kp) (l : List AV) (s : ByteArray) (K : AV → List Dn.Obj → Prop) : (a9 (Qj κ) 12 110 [.ae 9 l, .lit (.string s)] [] K) = (
 aZ (decide (l.length ≤ 9223372036854775807)) (K (AV.int (bm s l (0 : Int))) [])) := by kernel_rfl
theorem p11 (κ : Kp) : bM (Qj κ) 12 110 Ka := by
 intro args x hh
 unfold Ka at hh
 split at hh
 ·rename_i l s
  simp only [aa3, aa9, aa0] at hh
  obtain ⟨h1, rfl⟩ := hh
  refine ⟨_, rfl, rfl, ?_⟩
  refine Eq.mpr (Wh κ l s _) ?_
  rw [aq, aa0]
  exact ⟨h1, rfl⟩
 ·cases hh
noncomputable def PK (κ : Kp) : Env := (Qj κ).au 110 Ka
theorem WE (κ : Kp) : aw (PK κ) := (VM κ).au (UK κ) (p11 κ)
theorem Tk (κ : Kp) : ai (PK κ) := (UK κ).au
end Go.Proofs.YtdpmikfheebicaaGreatDoor
