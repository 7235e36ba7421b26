import Derived.Test.YtdpmikfheebicaaGreatDoorDqM6
namespace Go.Proofs.YtdpmikfheebicaaGreatDoor
open Go Go.Dn Go.Rl Go.Proofs
attribute [local irreducible] a9 vc
set_option maxRecDepth 20000
abbrev AA := ByteArray × List AV
abbrev C6 (a : AA) : AV := .agg [.lit (.string a.1), .ae 52 a.2]
def AA.at (a : AA) : At := ⟨a.1, aa a.2⟩
theorem xAV (κ : Kp) (a : AA) (o : List AV) (i : Int) (I : Nat → S → Prop) (n : Nat) (K : Exit → S → Prop) : (vc (ET κ) 12 68 none 0 (ag (Pr κ).toProgram 68 3) (sp 21 [(1, .ptr 0 0 [] 0), (3, .ae 9 o), (4, .int i)] [.box 38 (C6 a)]) (bC (ET κ) 68 3 0 I n K)) = (
 letI z1 := nth a.2 i.toNat
 ax (decide (i < (↑(a.2.length) : Int))) (aZ (decide ((0 : Int) ≤ i) && decide (i < (↑(a.2.length) : Int))) (∃ (a_1 : AT), ([AV.agg [AV.int (toInt (ad z1 0)),
 AV.str (toStr (ad z1 1)), AV.int (toInt (ad z1 2)), AV.ae 52 (ah (ad z1 3))]], az) = ([AV.agg [AV.int a_1.op, AV.str a_1.s, AV.int a_1.n, AV.ae 52 a_1.l]], az)
 ∧ gG a_1 ∧ ∃ (a_2 : List ByteArray × List ByteArray), ([AV.ae 9 o, AV.ae 9 (strs (Tm.rv (AT.tm a_1)))], az) = ([AV.ae 9 (strs a_2.1), AV.ae 9 (strs a_2.2)], az)
 ∧ (a_2.1.length ≤ 1000000 ∧ a_2.2.length ≤ 1000000) ∧ ∃ (m : Nat), m < n ∧ I m (sp 21 [(1, AV.ptr 0 0 [] 0), (3, AV.ae 9 (strs (bH a_2.1 a_2.2))), (4, AV.int
 (IntKind.wrap IntKind.i64 (i + (1 : Int))))] [Obj.box 38 (AV.agg [AV.str a.1, AV.ae 52 a.2])]))) (K (Exit.exit 0) (sp 21 [(3, AV.ae 9 o)] []))) := by kernel_rfl
abbrev NA := AA × List ByteArray × Int
abbrev PO (a : NA) : S := sp 21 [(1, .ptr 0 0 [] 0), (3, .ae 9 (strs a.2.1)), (4, .int a.2.2)] [.box 38 (C6 a.1)]
def yI (a : NA) : Prop := a.1.2.length ≤ aI ∧ 0 ≤ a.2.2 ∧ a.2.2 ≤ a.1.2.length ∧ a.2.1.length + aH (aa (a.1.2.drop a.2.2.toNat)) ≤ 100000
def EF (a : NA) : Out (Exit × S) := .one (.exit 0, sp 21 [(3, .ae 9 (strs (sz (aa (a.1.2.drop a.2.2.toNat)) a.2.1)))] [])
theorem WH (κ : Kp) : bg (ET κ) 12 68 3 (aK 0 PO yI EF) := by
 refine aO (fun a => a.1.2.length - a.2.2.toNat) ?_
 rintro ⟨⟨rel, l⟩, o, i⟩ K ⟨h1, h2, h3, h5⟩ ho
 simp only at h1 h2 h3 h5
 rw [show (ET κ).P = Pr κ from rfl]
 refine Eq.mpr (xAV κ (rel, l) (strs o) i _ _ K) ?_
 simp only [aI] at h1
 simp only [EF, Out.run] at ho
 simp only [af, aq, aa0, aa2, aa1]
 refine ⟨fun hi => ?_, fun hi => ?_⟩
 ·have hk : i.toNat < l.length := by omega
  have e := cy l i.toNat hk
  rw [e, aH] at h5
  rw [e, sz] at ho
  have hl := Tm.jv (bI (nth l i.toNat))
  have hw := dK o (bI (nth l i.toNat)).rv
  rw [aU (n := i + 1) (by omega) (by omega)]
  refine ⟨⟨h2, hi⟩, kp (nth l i.toNat), rfl, by rw [gG, fm]; omega, (o, (bI (nth l i.toNat)).rv), by rw [fm], ⟨by simp only; omega, by simp only; omega⟩, _, ?_, ((rel, l), bH o (bI (nth l i.toNat)).rv, i + 1), rfl, ⟨by simpa [aI] using h1, by simp only; omega, by simp only; omega, ?_⟩, rfl, ?_⟩
  ·simp only; omega
  ·simp only [show (i + 1).toNat = i.toNat + 1 by omega]; omega
  ·simp only [EF, Out.run, show (i + 1).toNat = i.toNat + 1 by omega]
   exact ho
 ·rw [aa8 (by omega)] at ho
  exact ho
noncomputable def PY (κ : Kp) : Env := (ET κ).aj 68 3 (aK 0 PO yI EF)
theorem YJ (κ : Kp) : aw (PY κ) := (eT κ).aj (mT κ) (WH κ)
theorem Tj (κ : Kp) : ai (PY κ) := (mT κ).aj aE
theorem yAV (κ : Kp) (a : AA) (K : AV → List Dn.Obj → Prop) : (a9 (PY κ) 12 68 [C6 a] [] K) = (
 letI z1 := Pg.toProgram (Env.P (ET κ))
 ag z1 68 3 = ag z1 68 3 ∧ ∃ (a_1 : NA), sp 21 [(1, AV.ptr 0 0 [] 0), (3, AV.ae 9 []), (4, AV.int 0)] [Obj.box 38 (AV.agg [AV.str a.1, AV.ae 52 a.2])] = sp 21
 [(1, AV.ptr 0 0 [] 0), (3, AV.ae 9 (strs a_1.2.1)), (4, AV.int (a_1.2.2))] [Obj.box 38 (AV.agg [AV.str (a_1.1.1), AV.ae 52 a_1.1.2])] ∧ (a_1.1.2.length ≤
 9223372036854775807 ∧ (0 : Int) ≤ a_1.2.2 ∧ a_1.2.2 ≤ (↑(a_1.1.2.length) : Int) ∧ a_1.2.1.length + aH (aa (List.drop (Int.toNat (a_1.2.2)) a_1.1.2)) ≤ 100000) ∧
 K (AV.ae 9 (strs (sz (aa (List.drop (Int.toNat (a_1.2.2)) a_1.1.2)) a_1.2.1))) []) := by kernel_rfl
def Li (a : AA) : List AV × List Dn.Obj := ([C6 a], [])
def fQ (a : AA) : Prop := aH (aa a.2) ≤ 100000
def L0 (a : AA) : Out (AV × List Dn.Obj) := .one (.ae 9 (strs (dx a.at)), [])
theorem Vl (κ : Kp) : bJ (PY κ) 12 68 (a8 Li fQ L0) := by
 refine bh ?_
 rintro a K h1 ho
 refine Eq.mpr (yAV κ a K) ?_
 have ho' : K (.ae 9 (strs (sz (aa a.2) []))) [] := ho
 have hl := dh (aa a.2)
 rw [cL] at hl
 unfold fQ at h1
 refine ⟨rfl, (a, [], 0), rfl, ⟨by simp only; omega, by simp only; omega, by simp only; omega, ?_⟩, ?_⟩
 ·simp only [ab8, ab0, List.length_nil]; omega
 ·simp only [ab8, ab0]
  exact ho'
noncomputable def EA (κ : Kp) : Env := (PY κ).ar 68 (a8 Li fQ L0)
theorem eA (κ : Kp) : aw (EA κ) := (YJ κ).ar (Tj κ) (Vl κ)
theorem mA (κ : Kp) : ai (EA κ) := (Tj κ).ar aJ
theorem yLV (κ : Kp) (a : LA) (K : AV → List Dn.Obj → Prop) : (a9 (EA κ) 12 137 [a.av] [] K) = (
 (∃ (a_1 : AT), ([AV.agg [AV.int a.o1, AV.str a.s1, AV.int a.n1, AV.ae 52 a.l1]], az) = ([AV.agg [AV.int a_1.op, AV.str a_1.s, AV.int a_1.n, AV.ae 52 a_1.l]],
 az) ∧ gG a_1 ∧ ∃ (a_2 : AT), ([AV.agg [AV.int a.o2, AV.str a.s2, AV.int a.n2, AV.ae 52 a.l2]], az) = ([AV.agg [AV.int a_2.op, AV.str a_2.s, AV.int
 a_2.n, AV.ae 52 a_2.l]], az) ∧ gG a_2 ∧ ∃ (a_3 : List ByteArray × List ByteArray), ([AV.ae 9 (strs (Tm.rv (AT.tm a_1))), AV.ae 9 (strs (Tm.rv (AT.tm
 a_2)))], az) = ([AV.ae 9 (strs a_3.1), AV.ae 9 (strs a_3.2)], az) ∧ (a_3.1.length ≤ 1000000 ∧ a_3.2.length ≤ 1000000) ∧ ∃ (a_4 : AA), ([AV.agg [AV.str
 a.s, AV.ae 52 a.l]], az) = ([AV.agg [AV.str a_4.1, AV.ae 52 a_4.2]], az) ∧ fQ a_4 ∧ ∃ (a : List ByteArray × List ByteArray), ([AV.ae 9 (strs (bH
 a_3.1 a_3.2)), AV.ae 9 (strs (dx (AA.at a_4)))], az) = ([AV.ae 9 (strs a.1), AV.ae 9 (strs a.2)], az) ∧ (a.1.length ≤ 1000000 ∧ a.2.length ≤ 1000000)
 ∧ K (AV.ae 9 (strs (bH a.1 a.2))) []) ∧ (∃ (a_1 : AT), ([AV.agg [AV.int a.o1, AV.str a.s1, AV.int a.n1, AV.ae 52 a.l1]], az) = ([AV.agg [AV.int a_1.op,
 AV.str a_1.s, AV.int a_1.n, AV.ae 52 a_1.l]], az) ∧ gG a_1 ∧ ∃ (a_2 : AT), ([AV.agg [AV.int a.o2, AV.str a.s2, AV.int a.n2, AV.ae 52 a.l2]], az) =
 ([AV.agg [AV.int a_2.op, AV.str a_2.s, AV.int a_2.n, AV.ae 52 a_2.l]], az) ∧ gG a_2 ∧ ∃ (a_3 : List ByteArray × List ByteArray), ([AV.ae 9 (strs (Tm.rv
 (AT.tm a_1))), AV.ae 9 (strs (Tm.rv (AT.tm a_2)))], az) = ([AV.ae 9 (strs a_3.1), AV.ae 9 (strs a_3.2)], az) ∧ (a_3.1.length ≤ 1000000 ∧ a_3.2.length ≤
 1000000) ∧ ∃ (a_4 : AA), ([AV.agg [AV.str a.s, AV.ae 52 a.l]], az) = ([AV.agg [AV.str a_4.1, AV.ae 52 a_4.2]], az) ∧ fQ a_4 ∧ ∃ (a : List ByteArray ×
 List ByteArray), ([AV.ae 9 (strs (bH a_3.1 a_3.2)), AV.ae 9 (strs (dx (AA.at a_4)))], az) = ([AV.ae 9 (strs a.1), AV.ae 9 (strs a.2)], az) ∧
 (a.1.length ≤ 1000000 ∧ a.2.length ≤ 1000000) ∧ K (AV.ae 9 (strs (bH a.1 a.2))) []) ∧ ∃ (a_1 : AT), ([AV.agg [AV.int a.o1, AV.str a.s1, AV.int a.n1, AV.ae
 52 a.l1]], az) = ([AV.agg [AV.int a_1.op, AV.str a_1.s, AV.int a_1.n, AV.ae 52 a_1.l]], az) ∧ gG a_1 ∧ ∃ (a_2 : AT), ([AV.agg [AV.int a.o2, AV.str
 a.s2, AV.int a.n2, AV.ae 52 a.l2]], az) = ([AV.agg [AV.int a_2.op, AV.str a_2.s, AV.int a_2.n, AV.ae 52 a_2.l]], az) ∧ gG a_2 ∧ ∃ (a_3 : List
 ByteArray × List ByteArray), ([AV.ae 9 (strs (Tm.rv (AT.tm a_1))), AV.ae 9 (strs (Tm.rv (AT.tm a_2)))], az) = ([AV.ae 9 (strs a_3.1), AV.ae 9 (strs
 a_3.2)], az) ∧ (a_3.1.length ≤ 1000000 ∧ a_3.2.length ≤ 1000000) ∧ ∃ (a_4 : AA), ([AV.agg [AV.str a.s, AV.ae 52 a.l]], az) = ([AV.agg [AV.str a_4.1,
 AV.ae 52 a_4.2]], az) ∧ fQ a_4 ∧ ∃ (a : List ByteArray × List ByteArray), ([AV.ae 9 (strs (bH a_3.1 a_3.2)), AV.ae 9 (strs (dx (AA.at a_4)))],
 az) = ([AV.ae 9 (strs a.1), AV.ae 9 (strs a.2)], az) ∧ (a.1.length ≤ 1000000 ∧ a.2.length ≤ 1000000) ∧ K (AV.ae 9 (strs (bH a.1 a.2))) []) := by kernel_rfl
def P8 (a : LA) : List AV × List Dn.Obj := ([a.av], [])
def js (a : LA) : Prop := dC a.lt ≤ 100000
def GI (a : LA) : Out (AV × List Dn.Obj) := .one (.ae 9 (strs (fg a.lt)), [])
theorem cLV (κ : Kp) : bJ (EA κ) 12 137 (a8 P8 js GI) := by
 refine bh ?_
 rintro a K h1 ho
 refine Eq.mpr (yLV κ a K) ?_
 simp only [GI, Out.run] at ho
 obtain ⟨op, s, l, o1, s1, n1, l1, o2, s2, n2, l2⟩ := a
 have h1' : aH [.mk o1 s1 n1 (aa l1), .mk o2 s2 n2 (aa l2)] + aH (aa l) ≤ 100000 := h1
 simp only [aH] at h1'
 have k1 := Tm.jv (.mk o1 s1 n1 (aa l1))
 have k2 := Tm.jv (.mk o2 s2 n2 (aa l2))
 have k3 := dK (Tm.rv (.mk o1 s1 n1 (aa l1))) (Tm.rv (.mk o2 s2 n2 (aa l2)))
 have k4 := iv (aa l) []
 simp only [List.length_nil] at k4
 simp only [and_self]
 refine ⟨⟨o1, s1, n1, l1⟩, rfl, ?_, ⟨o2, s2, n2, l2⟩, rfl, ?_, (Tm.rv (.mk o1 s1 n1 (aa l1)), Tm.rv (.mk o2 s2 n2 (aa l2))), rfl, ⟨by simp only; omega, by simp only; omega⟩, (s, l), rfl, ?_, (bH (Tm.rv (.mk o1 s1 n1 (aa l1))) (Tm.rv (.mk o2 s2 n2 (aa l2))), dx ⟨s, aa l⟩), rfl, ⟨by simp only; omega, ?_⟩, ho⟩
 ·show (Tm.mk o1 s1 n1 (aa l1)).gF ≤ 100000; omega
 ·show (Tm.mk o2 s2 n2 (aa l2)).gF ≤ 100000; omega
 ·show aH (aa l) ≤ 100000; omega
 ·show (sz (aa l) []).length ≤ 1000000; omega
noncomputable def EL (κ : Kp) : Env := (EA κ).ar 137 (a8 P8 js GI)
theorem eL (κ : Kp) : aw (EL κ) := (eA κ).ar (mA κ) (cLV κ)
theorem mL (κ : Kp) : ai (EL κ) := (mA κ).ar aJ
abbrev QO := b5 × List ByteArray × Int
theorem xVs (κ : Kp) (a : b5) (o : List AV) (i : Int) (I : Nat → S → Prop) (n : Nat) (K : Exit → S → Prop) : (vc (EL κ) 12 100 none 0 (ag (Pr κ).toProgram 100 6) (sp 29 [(1, .ptr 0 0 [] 0), (4, .ae 9 o), (5, .int i)] [.box 41 (aF a)]) (bC (EL κ) 100 6 0 I n K)) = (
 letI z1 := nth a.bl i.toNat
 ax (decide (i < (↑(a.bl.length) : Int))) (aZ (decide ((0 : Int) ≤ i) && decide (i < (↑(a.bl.length) : Int))) (∃ (a_1 : LA), ([AV.agg [AV.int (toInt (ad z1 0)),
 AV.agg [AV.str (toStr (ad (ad z1 1) 0)), AV.ae 52 (ah (ad (ad z1 1) 1))], AV.agg [AV.int (toInt (ad (ad z1 2) 0)), AV.str (toStr (ad (ad z1 2) 1)), AV.int
 (toInt (ad (ad z1 2) 2)), AV.ae 52 (ah (ad (ad z1 2) 3))], AV.agg [AV.int (toInt (ad (ad z1 3) 0)), AV.str (toStr (ad (ad z1 3) 1)), AV.int (toInt (ad (ad z1 3)
 2)), AV.ae 52 (ah (ad (ad z1 3) 3))]]], az) = ([AV.agg [AV.int a_1.op, AV.agg [AV.str a_1.s, AV.ae 52 a_1.l], AV.agg [AV.int a_1.o1, AV.str a_1.s1, AV.int
 a_1.n1, AV.ae 52 a_1.l1], AV.agg [AV.int a_1.o2, AV.str a_1.s2, AV.int a_1.n2, AV.ae 52 a_1.l2]]], az) ∧ js a_1 ∧ ∃ (a_2 : List ByteArray × List ByteArray),
 ([AV.ae 9 o, AV.ae 9 (strs (fg (LA.lt a_1)))], az) = ([AV.ae 9 (strs a_2.1), AV.ae 9 (strs a_2.2)], az) ∧ (a_2.1.length ≤ 1000000 ∧ a_2.2.length ≤ 1000000) ∧ ∃
 (m : Nat), m < n ∧ I m (sp 29 [(1, AV.ptr 0 0 [] 0), (4, AV.ae 9 (strs (bH a_2.1 a_2.2))), (5, AV.int (IntKind.wrap IntKind.i64 (i + (1 : Int))))] [Obj.box 41
 (aF a)]))) (K (Exit.exit 0) (sp 29 [(4, AV.ae 9 o)] []))) := by kernel_rfl
abbrev PX (a : QO) : S := sp 29 [(1, .ptr 0 0 [] 0), (4, .ae 9 (strs a.2.1)), (5, .int a.2.2)] [.box 41 (aF a.1)]
def HL (a : QO) : Prop := bZ a.1 ∧ 0 ≤ a.2.2 ∧ a.2.2 ≤ a.1.bl.length ∧ a.2.1.length + ((bn (a.1.bl.drop a.2.2.toNat)).map dC).sum ≤ 200000
def DR (a : QO) : Out (Exit × S) := .one (.exit 0, sp 29 [(4, .ae 9 (strs (nD (bn (a.1.bl.drop a.2.2.toNat)) a.2.1)))] [])
theorem lVs (κ : Kp) : bg (EL κ) 12 100 6 (aK 0 PX HL DR) := by
 refine aO (fun a => a.1.bl.length - a.2.2.toNat) ?_
 rintro ⟨a, o, i⟩ K ⟨h1, h2, h3, h5⟩ ho
 simp only at h1 h2 h3 h5
 rw [show (EL κ).P = Pr κ from rfl]
 refine Eq.mpr (xVs κ a (strs o) i _ _ K) ?_
 have hl := h1.2
 simp only [DR, Out.run] at ho
 simp only [af, aq, aa0, aa2, aa1]
 refine ⟨fun hi => ?_, fun hi => ?_⟩
 ·have hk : i.toNat < a.bl.length := by omega
  have e := jd a.bl i.toNat hk
  rw [e, ac2, List.sum_cons] at h5
  rw [e, nD] at ho
  have hlit := fj h1 hk
  have hw := dK o (fg (bz (nth a.bl i.toNat)))
  have hr := jj (bz (nth a.bl i.toNat))
  rw [aU (n := i + 1) (by omega) (by omega)]
  refine ⟨⟨h2, hi⟩, nf (nth a.bl i.toNat), rfl, by rw [js, cM]; exact hlit, (o, fg (bz (nth a.bl i.toNat))), by rw [cM], ⟨by simp only; omega, by simp only; omega⟩, _, ?_, (a, bH o (fg (bz (nth a.bl i.toNat))), i + 1), rfl, ⟨h1, by simp only; omega, by simp only; omega, ?_⟩, rfl, ?_⟩
  ·simp only; omega
  ·simp only [show (i + 1).toNat = i.toNat + 1 by omega]; omega
  ·simp only [DR, Out.run, show (i + 1).toNat = i.toNat + 1 by omega]
   exact ho
 ·rw [aa8 (by omega)] at ho
  exact ho
noncomputable def PT (κ : Kp) : Env := (EL κ).aj 100 6 (aK 0 PX HL DR)
theorem eVl (κ : Kp) : aw (PT κ) := (eL κ).aj (mL κ) (lVs κ)
theorem TS (κ : Kp) : ai (PT κ) := (mL κ).aj aE
theorem Yc (κ : Kp) (a : b5) (K : AV → List Dn.Obj → Prop) : (a9 (PT κ) 12 100 [aF a] [] K) = (
 letI z1 := Pg.toProgram (Env.P (EL κ))
 aZ (decide (a.hl.length ≤ 9223372036854775807) && decide (a.bl.length ≤ 9223372036854775807) && vH a.bl) (ax (!aG {head := { rel := a.rel, l := aa a.hl }, body := bn a.bl }) (K (AV.ae 9 []) []) (∃ (a_1 : AA), ([AV.agg [AV.str a.rel, AV.ae 52 a.hl]], az) = ([AV.agg [AV.str a_1.1, AV.ae 52 a_1.2]], az) ∧ fQ a_1 ∧ ag z1 100 6 = ag z1 100 6 ∧ ∃ (a_2 : QO), sp 29 [(1, AV.ptr 0 0 [] 0), (4, AV.ae 9 (strs (dx (AA.at a_1)))), (5, AV.int 0)] [Obj.box 41 (AV.agg [AV.agg [AV.str a.rel, AV.ae 52 a.hl], AV.ae 55 a.bl, AV.int a.line])] = sp 29 [(1, AV.ptr 0 0 [] 0), (4, AV.ae 9 (strs a_2.2.1)), (5, AV.int (a_2.2.2))] [Obj.box 41 (AV.agg [AV.agg [AV.str a_2.1.rel, AV.ae 52 a_2.1.hl], AV.ae 55 a_2.1.bl, AV.int a_2.1.line])] ∧ ((aH (aa (aX 52 a_2.1.hl a_2.1.bl)) ≤ 100000 ∧ a_2.1.bl.length ≤ 100000) ∧ (0 : Int) ≤ a_2.2.2 ∧ a_2.2.2 ≤ (↑(a_2.1.bl.length) : Int) ∧ a_2.2.1.length + List.sum (List.map dC (bn (List.drop (Int.toNat (a_2.2.2)) a_2.1.bl))) ≤ 200000) ∧ K (AV.ae 9 (strs (nD (bn (List.drop (Int.toNat (a_2.2.2)) a_2.1.bl)) a_2.2.1))) []))) := by kernel_rfl
theorem iV {a : b5} (h : bZ a) : aH (aa a.hl) + aH (aa (cG a.bl)) ≤ 100000 := by
 have h1 := h.1
 have e : aX 52 a.hl a.bl = a.hl ++ cG a.bl := rfl
 rw [e] at h1
 unfold aa at h1
 rw [List.map_append, jf] at h1
 exact h1
theorem lb : ∀ l : List AV, aH (aa (cG l)) = ((bn l).map dC).sum
 | [] => rfl
 | y :: l => by
  have e : aH (aa (cG (y :: l))) = dC (bz y) + aH (aa (cG l)) := by
   unfold cG aa
   rw [List.flatMap_cons, List.map_append, jf, List.map_append, jf]
   simp only [dC, bz, Br, aa, ac2, ac3, ob]
  rw [e, lb l]; rfl
theorem vv {a : b5} (h : bZ a) : vH a.bl = true := vt.2 fun x hx => by
 have h1 := yz a.bl x hx
 have h2 := iV h
 have h3 := dh (aa (ah (ad (ad x 1) 1)))
 rw [cL] at h3
 have h4 : dC (bz x) = aH [bI (ad x 2), bI (ad x 3)] + aH (aa (ah (ad (ad x 1) 1))) := rfl
 simp only [aI]; omega
theorem xt {a : b5} (h : bZ a) : a.hl.length ≤ 100000 := by
 have h2 := iV h
 have h3 := dh (aa a.hl)
 rw [cL] at h3; omega
def P2 (a : b5) : List AV × List Dn.Obj := ([aF a], [])
def HS (a : b5) : Out (AV × List Dn.Obj) := .one (.ae 9 (strs (cr (aL a))), [])
theorem ZF (κ : Kp) : bJ (PT κ) 12 100 (a8 P2 bZ HS) := by
 refine bh ?_
 rintro a K h1 ho
 refine Eq.mpr (Yc κ a K) ?_
 simp only [HS, Out.run, cr] at ho
 have hr : aG ⟨⟨a.rel, aa a.hl⟩, bn a.bl⟩ = aG (aL a) := rfl
 rw [hr, aq]
 have hp := iV h1
 have hh := xt h1
 have hl := h1.2
 simp only [aa1, aa0]
 refine ⟨⟨⟨by omega, by omega⟩, vv h1⟩, ?_⟩
 cases e : aG (aL a) with
 | false => rw [e] at ho; exact ho
 | true =>
  rw [e] at ho
  have k4 := iv (aa a.hl) []
  simp only [List.length_nil] at k4
  have k5 := lb a.bl
  refine ⟨(a.rel, a.hl), rfl, by show aH (aa a.hl) ≤ 100000; omega, trivial, (a, dx ⟨a.rel, aa a.hl⟩, 0), rfl, ⟨h1, by simp only; omega, by simp only; omega, ?_⟩, ?_⟩
  ·simp only [ab8, ab0]
   show (sz (aa a.hl) []).length + _ ≤ 200000
   omega
  ·simp only [ab8, ab0]
   exact ho
noncomputable def EV (κ : Kp) : Env := (PT κ).ar 100 (a8 P2 bZ HS)
theorem eV (κ : Kp) : aw (EV κ) := (eVl κ).ar (TS κ) (ZF κ)
theorem mV (κ : Kp) : ai (EV κ) := (TS κ).ar aJ
noncomputable abbrev ES (κ : Kp) : Env := EV κ
theorem eS (κ : Kp) : aw (ES κ) := eV κ
theorem mS (κ : Kp) : ai (ES κ) := mV κ
theorem Y5 (κ : Kp) (l m : List AV) (i : Int) (I : Nat → S → Prop) (n : Nat) (K : Exit → S → Prop) : (vc (ES κ) 12 67 none 0 (ag (Pr κ).toProgram 67 2) (sp 19 [(0, .ae 9 l), (1, .ae 9 m), (5, .int i)] []) (bC (ES κ) 67 2 0 I n K)) = (
 ax (decide (i < (↑(l.length) : Int))) (aZ (decide ((0 : Int) ≤ i) && decide (i < (↑(l.length) : Int))) (aZ (decide (m.length ≤ 9223372036854775807)) (ax
 (decide (bm (toStr (nth l i.toNat)) m (0 : Int) < (0 : Int))) (K Exit.ret (sp 19 [(4, AV.bool false)] [])) (∃ (m_1 : Nat), m_1 < n ∧ I m_1 (sp 19 [(0,
 AV.ae 9 l), (1, AV.ae 9 m), (5, AV.int (IntKind.wrap IntKind.i64 (i + (1 : Int))))] []))))) (K (Exit.exit 0) (sp 19 [] []))) := by kernel_rfl
def ND (m : List AV) (x : AV) : Bool := decide (bm (toStr x) m 0 ≥ 0)
def dN (l m : List AV) : Bool := l.all (ND m)
theorem GZ (m : List ByteArray) (s : ByteArray) : ND (strs m) (.lit (.string s)) = m.contains s := fO s m 0 (by omega)
theorem AX (l m : List ByteArray) : dN (strs l) (strs m) = hasB m l := by
 unfold dN hasB strs
 rw [List.all_map]
 congr 1; funext s
 exact GZ m s
abbrev Pw (a : List AV × List AV × Int) : S := sp 19 [(0, .ae 9 a.1), (1, .ae 9 a.2.1), (5, .int a.2.2)] []
def GS (a : List AV × List AV × Int) : Prop := a.1.length ≤ aI ∧ a.2.1.length ≤ aI ∧ 0 ≤ a.2.2 ∧ a.2.2 ≤ a.1.length
def Dp (a : List AV × List AV × Int) : Out (Exit × S) := .ax (dN (a.1.drop a.2.2.toNat) a.2.1) (.one (.exit 0, sp 19 [] [])) (.one (.ret, sp 19 [(4, .bool false)] []))
theorem XI (κ : Kp) : bg (ES κ) 12 67 2 (aK 0 Pw GS Dp) := by
 refine aO (fun a => a.1.length - a.2.2.toNat) ?_
 rintro ⟨l, m, i⟩ K ⟨h1, h2, h3, h4⟩ ho
 simp only at h1 h2 h3 h4
 rw [show (ES κ).P = Pr κ from rfl]
 refine Eq.mpr (Y5 κ l m i _ _ K) ?_
 simp only [aI] at h1 h2
 simp only [Dp, Out.run, af] at ho
 simp only [af, aq, aa0, aa2, aa1]
 refine ⟨fun hi => ⟨⟨h3, hi⟩, h2, ?_⟩, fun hi => ?_⟩
 ·rw [ab1 (show i.toNat < l.length by omega), ← bx l i.toNat (by omega)] at ho
  simp only [dN, ac1] at ho
  refine ⟨fun e => ?_, fun e => ?_⟩
  ·rw [show ND m (nth l i.toNat) = false from aa4 (by omega), Bool.false_and] at ho
   exact ho.2 rfl
  ·rw [show ND m (nth l i.toNat) = true from aa6 (by omega), ac0] at ho
   rw [aU (n := i + 1) (by omega) (by omega)]
   refine ⟨_, ?_, (l, m, i + 1), rfl, ⟨by simpa [aI] using h1, by simpa [aI] using h2, by simp only; omega, by simp only; omega⟩, rfl, ?_⟩
   ·simp only; omega
   ·simp only [Dp, Out.run, af, show (i + 1).toNat = i.toNat + 1 by omega, dN]
    exact ho
 ·rw [aa8 (by omega)] at ho
  exact ho.1 rfl
noncomputable def Pa (κ : Kp) : Env := (ES κ).aj 67 2 (aK 0 Pw GS Dp)
theorem Zh (κ : Kp) : aw (Pa κ) := (eS κ).aj (mS κ) (XI κ)
theorem S5 (κ : Kp) : ai (Pa κ) := (mS κ).aj aE
theorem Ym (κ : Kp) (l m : List AV) (K : AV → List Dn.Obj → Prop) : (a9 (Pa κ) 12 67 [.ae 9 l, .ae 9 m] [] K) = (
 letI z1 := Pg.toProgram (Env.P (ES κ))
 ag z1 67 2 = ag z1 67 2 ∧ ∃ (a : List AV × List AV × Int), sp 19 [(0, AV.ae 9 l), (1, AV.ae 9 m), (5, AV.int 0)] [] = sp 19 [(0, AV.ae 9 a.1), (1, AV.ae 9
 a.2.1), (5, AV.int (a.2.2))] [] ∧ (a.1.length ≤ 9223372036854775807 ∧ a.2.1.length ≤ 9223372036854775807 ∧ (0 : Int) ≤ a.2.2 ∧ a.2.2 ≤ (↑(a.1.length) : Int)) ∧
 ax (dN (List.drop (Int.toNat (a.2.2)) a.1) a.2.1) (K (AV.bool true) []) (K (AV.bool false) [])) := by kernel_rfl
def SO : List AV → Option (Bool × AV)
 | [.ae 9 l, .ae 9 m] => some (decide (l.length ≤ aI) && decide (m.length ≤ aI), .bool (dN l m))
 | _ => none
theorem WW (κ : Kp) : bM (Pa κ) 12 67 SO := by
 intro args x hh
 unfold SO at hh
 split at hh
 ·rename_i l m
  simp only [aa3, aa9, aa1, aa0] at hh
  obtain ⟨⟨h1, h2⟩, rfl⟩ := hh
  refine ⟨_, rfl, rfl, ?_⟩
  refine Eq.mpr (Ym κ l m _) ?_
  refine ⟨rfl, (l, m, 0), rfl, ⟨h1, h2, by simp only; omega, by simp only; omega⟩, ?_⟩
  simp only [ab8, ab0]
  cases dN l m <;> rfl
 ·cases hh
noncomputable def KQ (κ : Kp) : Env := (Pa κ).au 67 SO
theorem X9 (κ : Kp) : aw (KQ κ) := (Zh κ).au (S5 κ) (WW κ)
theorem Us (κ : Kp) : ai (KQ κ) := (S5 κ).au
theorem Zn (κ : Kp) (a : AA) (o : List AV) (i : Int) (I : Nat → S → Prop) (n : Nat) (K : Exit → S → Prop) : (vc (KQ κ) 12 165 none 0 (ag (Pr κ).toProgram 165 3) (sp 28 [(1, .ptr 0 0 [] 0), (3, .ae 9 o), (4, .int i)] [.box 38 (C6 a)]) (bC (KQ κ) 165 3 0 I n K)) = (
 letI z1 := decide ((0 : Int) ≤ i) && decide (i < (↑(a.2.length) : Int))
 letI z2 := nth a.2 i.toNat
 letI z3 := IntKind.wrap IntKind.i64 (i + (1 : Int))
 letI z4 := AV.agg [AV.str a.1, AV.ae 52 a.2]
 ax (decide (i < (↑(a.2.length) : Int))) (aZ z1 (ax (decide (toInt (ad z2 0) ≥ (5 : Int))) (aZ z1 (∃ (a_1 : AT), ([AV.agg [AV.int (toInt (ad z2 0)), AV.str
 (toStr (ad z2 1)), AV.int (toInt (ad z2 2)), AV.ae 52 (ah (ad z2 3))]], az) = ([AV.agg [AV.int a_1.op, AV.str a_1.s, AV.int a_1.n, AV.ae 52 a_1.l]], az) ∧ gG
 a_1 ∧ ∃ (a_2 : List ByteArray × List ByteArray), ([AV.ae 9 o, AV.ae 9 (strs (Tm.rv (AT.tm a_1)))], az) = ([AV.ae 9 (strs a_2.1), AV.ae 9 (strs a_2.2)], az) ∧
 (a_2.1.length ≤ 1000000 ∧ a_2.2.length ≤ 1000000) ∧ ∃ (m : Nat), m < n ∧ I m (sp 28 [(1, AV.ptr 0 0 [] 0), (3, AV.ae 9 (strs (bH a_2.1 a_2.2))), (4, AV.int z3)]
 [Obj.box 38 z4]))) (∃ (m : Nat), m < n ∧ I m (sp 28 [(1, AV.ptr 0 0 [] 0), (3, AV.ae 9 o), (4, AV.int z3)] [Obj.box 38 z4])))) (K (Exit.exit 0) (sp 28 [(3,
 AV.ae 9 o)] []))) := by kernel_rfl
abbrev P4 (a : NA) : S := sp 28 [(1, .ptr 0 0 [] 0), (3, .ae 9 (strs a.2.1)), (4, .int a.2.2)] [.box 38 (C6 a.1)]
def Ae (a : NA) : Out (Exit × S) := .one (.exit 0, sp 28 [(3, .ae 9 (strs (fS (aa (a.1.2.drop a.2.2.toNat)) a.2.1)))] [])
theorem Wr (κ : Kp) : bg (KQ κ) 12 165 3 (aK 0 P4 yI Ae) := by
 refine aO (fun a => a.1.2.length - a.2.2.toNat) ?_
 rintro ⟨⟨rel, l⟩, o, i⟩ K ⟨h1, h2, h3, h5⟩ ho
 simp only at h1 h2 h3 h5
 rw [show (KQ κ).P = Pr κ from rfl]
 refine Eq.mpr (Zn κ (rel, l) (strs o) i _ _ K) ?_
 simp only [aI] at h1
 simp only [Ae, Out.run] at ho
 simp only [af, aq, aa0, aa2, aa1]
 refine ⟨fun hi => ?_, fun hi => ?_⟩
 ·have hk : i.toNat < l.length := by omega
  have e := cy l i.toNat hk
  rw [e, aH] at h5
  rw [e, fS] at ho
  have hop : (bI (nth l i.toNat)).op = toInt (ad (nth l i.toNat) 0) := by rw [bX]; rfl
  rw [hop] at ho
  have hl := Tm.jv (bI (nth l i.toNat))
  have hw := dK o (bI (nth l i.toNat)).rv
  rw [aU (n := i + 1) (by omega) (by omega)]
  refine ⟨⟨h2, hi⟩, fun e2 => ⟨⟨h2, hi⟩, kp (nth l i.toNat), rfl, by rw [gG, fm]; omega, (o, (bI (nth l i.toNat)).rv), by rw [fm], ⟨by simp only; omega, by simp only; omega⟩, _, ?_, ((rel, l), bH o (bI (nth l i.toNat)).rv, i + 1), rfl, ⟨by simpa [aI] using h1, by simp only; omega, by simp only; omega, ?_⟩, rfl, ?_⟩,
   fun e2 => ⟨_, ?_, ((rel, l), o, i + 1), rfl, ⟨by simpa [aI] using h1, by simp only; omega, by simp only; omega, ?_⟩, rfl, ?_⟩⟩
  ·simp only; omega
  ·simp only [show (i + 1).toNat = i.toNat + 1 by omega]; omega
  ·simp only [Ae, Out.run, show (i + 1).toNat = i.toNat + 1 by omega]
   rw [aa6 e2] at ho
   exact ho
  ·simp only; omega
  ·simp only [show (i + 1).toNat = i.toNat + 1 by omega]; omega
  ·simp only [Ae, Out.run, show (i + 1).toNat = i.toNat + 1 by omega]
   rw [aa4 e2] at ho
   exact ho
 ·rw [aa8 (by omega)] at ho
  exact ho
noncomputable def OA (κ : Kp) : Env := (KQ κ).aj 165 3 (aK 0 P4 yI Ae)
theorem eKl (κ : Kp) : aw (OA κ) := (X9 κ).aj (Us κ) (Wr κ)
theorem U7 (κ : Kp) : ai (OA κ) := (Us κ).aj aE
theorem YZ (κ : Kp) (a : AA) (K : AV → List Dn.Obj → Prop) : (a9 (OA κ) 12 165 [C6 a] [] K) = (
 letI z1 := Pg.toProgram (Env.P (KQ κ))
 ag z1 165 3 = ag z1 165 3 ∧ ∃ (a_1 : NA), sp 28 [(1, AV.ptr 0 0 [] 0), (3, AV.ae 9 []), (4, AV.int 0)] [Obj.box 38 (AV.agg [AV.str a.1, AV.ae 52 a.2])] = sp 28
 [(1, AV.ptr 0 0 [] 0), (3, AV.ae 9 (strs a_1.2.1)), (4, AV.int (a_1.2.2))] [Obj.box 38 (AV.agg [AV.str (a_1.1.1), AV.ae 52 a_1.1.2])] ∧ (a_1.1.2.length ≤
 9223372036854775807 ∧ (0 : Int) ≤ a_1.2.2 ∧ a_1.2.2 ≤ (↑(a_1.1.2.length) : Int) ∧ a_1.2.1.length + aH (aa (List.drop (Int.toNat (a_1.2.2)) a_1.1.2)) ≤ 100000) ∧
 K (AV.ae 9 (strs (fS (aa (List.drop (Int.toNat (a_1.2.2)) a_1.1.2)) a_1.2.1))) []) := by kernel_rfl
def Jb (a : AA) : Out (AV × List Dn.Obj) := .one (.ae 9 (strs (fS a.at.l [])), [])
theorem cRk (κ : Kp) : bJ (OA κ) 12 165 (a8 Li fQ Jb) := by
 refine bh ?_
 rintro a K h1 ho
 refine Eq.mpr (YZ κ a K) ?_
 have ho' : K (.ae 9 (strs (fS (aa a.2) []))) [] := ho
 have hl := dh (aa a.2)
 rw [cL] at hl
 unfold fQ at h1
 refine ⟨rfl, (a, [], 0), rfl, ⟨by simp only; omega, by simp only; omega, by simp only; omega, ?_⟩, ?_⟩
 ·simp only [ab8, ab0, List.length_nil]; omega
 ·simp only [ab8, ab0]
  exact ho'
noncomputable def EK (κ : Kp) : Env := (OA κ).ar 165 (a8 Li fQ Jb)
theorem eK (κ : Kp) : aw (EK κ) := (eKl κ).ar (U7 κ) (cRk κ)
theorem mK (κ : Kp) : ai (EK κ) := (U7 κ).ar aJ
theorem xEl (κ : Kp) (a : b5) (k : Int) (o : List AV) (i : Int) (I : Nat → S → Prop) (n : Nat) (K : Exit → S → Prop) : (vc (EK κ) 12 166 none 0 (ag (Pr κ).toProgram 166 3) (sp 35 [(1, .int k), (2, .ptr 0 0 [] 0), (5, .ae 9 o), (6, .int i)] [.box 41 (aF a)]) (bC (EK κ) 166 3 0 I n K)) = (
 letI z1 := nth a.bl i.toNat
 letI z2 := AV.agg [AV.agg [AV.str a.rel, AV.ae 52 a.hl], AV.ae 55 a.bl, AV.int a.line]
 letI z5 := IntKind.wrap IntKind.i64 (i + (1 : Int))
 letI z6 := ad z1 2
 letI z3 := Value.int IntKind.i64 (toInt (ad z6 0))
 letI z4 := Value.int IntKind.i64 (toInt (ad z6 2))
 ax (decide (i < (↑(a.bl.length) : Int))) (aZ (decide ((0 : Int) ≤ i) && decide (i < (↑(a.bl.length) : Int))) (ax (i == k) (∃ (a_1 : LA), ([AV.agg [AV.int (toInt (ad z1 0)), AV.agg [AV.str { data := #[] }, AV.ae 52 []], AV.agg [AV.lit z3, AV.str (toStr (ad z6 1)), AV.lit z4, AV.ae 52 (ah (ad z6 3))], AV.agg [AV.int 0, AV.str { data := #[] }, AV.int 0, AV.ae 52 []]]], az) = ([AV.agg [AV.int a_1.op, AV.agg [AV.str a_1.s, AV.ae 52 a_1.l], AV.agg [AV.int a_1.o1, AV.str a_1.s1, AV.int a_1.n1, AV.ae 52 a_1.l1], AV.agg [AV.int a_1.o2, AV.str a_1.s2, AV.int a_1.n2, AV.ae 52 a_1.l2]]], az) ∧ js a_1 ∧ ∃ (a_2 : List ByteArray × List ByteArray), ([AV.ae 9 o, AV.ae 9 (strs (fg (LA.lt a_1)))], az) = ([AV.ae 9 (strs a_2.1), AV.ae 9 (strs a_2.2)], az) ∧ (a_2.1.length ≤ 1000000 ∧ a_2.2.length ≤ 1000000) ∧ ∃ (m : Nat), m < n ∧ I m (sp 35 [(1, AV.int k), (2, AV.ptr 0 0 [] 0), (5, AV.ae 9 (strs (bH a_2.1 a_2.2))), (6, AV.int z5)] [Obj.box 41 z2])) (∃ (a_1 : LA), ([AV.agg [AV.int (toInt (ad z1 0)), AV.agg [AV.str (toStr (ad (ad z1 1) 0)), AV.ae 52 (ah (ad (ad z1 1) 1))], AV.agg [AV.lit z3, AV.str (toStr (ad z6 1)), AV.lit z4, AV.ae 52 (ah (ad z6 3))], AV.agg [AV.lit (Value.int IntKind.i64 (toInt (ad (ad z1 3) 0))), AV.str (toStr (ad (ad z1 3) 1)), AV.lit (Value.int IntKind.i64 (toInt (ad (ad z1 3) 2))), AV.ae 52 (ah (ad (ad z1 3) 3))]]], az) = ([AV.agg [AV.int a_1.op, AV.agg [AV.str a_1.s, AV.ae 52 a_1.l], AV.agg [AV.int a_1.o1, AV.str a_1.s1, AV.int a_1.n1, AV.ae 52 a_1.l1], AV.agg [AV.int a_1.o2, AV.str a_1.s2, AV.int a_1.n2, AV.ae 52 a_1.l2]]], az) ∧ js a_1 ∧ ∃ (a_2 : List ByteArray × List ByteArray), ([AV.ae 9 o, AV.ae 9 (strs (fg (LA.lt a_1)))], az) = ([AV.ae 9 (strs a_2.1), AV.ae 9 (strs a_2.2)], az) ∧ (a_2.1.length ≤ 1000000 ∧ a_2.2.length ≤ 1000000) ∧ ∃ (m : Nat), m < n ∧ I m (sp 35 [(1, AV.int k), (2, AV.ptr 0 0 [] 0), (5, AV.ae 9 (strs (bH a_2.1 a_2.2))), (6, AV.int z5)] [Obj.box 41 z2])))) (K (Exit.exit 0) (sp 35 [(5, AV.ae 9 o)] []))) := by kernel_rfl
abbrev Q8 := b5 × Int × List ByteArray × Int
abbrev Oq (a : Q8) : S := sp 35 [(1, .int a.2.1), (2, .ptr 0 0 [] 0), (5, .ae 9 (strs a.2.2.1)), (6, .int a.2.2.2)] [.box 41 (aF a.1)]
def Ia (a : Q8) : Prop := bZ a.1 ∧ 0 ≤ a.2.1 ∧ 0 ≤ a.2.2.2 ∧ a.2.2.2 ≤ a.1.bl.length ∧ a.2.2.1.length + ((bn (a.1.bl.drop a.2.2.2.toNat)).map dC).sum ≤ 900000
def Az (a : Q8) : Out (Exit × S) := .one (.exit 0, sp 35 [(5, .ae 9 (strs (kc a.2.1.toNat (bn (a.1.bl.drop a.2.2.2.toNat)) a.2.2.2.toNat a.2.2.1)))] [])
def MM (x : AV) : LA := ⟨toInt (ad x 0), ByteArray.mk #[], [], toInt (ad (ad x 2) 0), toStr (ad (ad x 2) 1), toInt (ad (ad x 2) 2), ah (ad (ad x 2) 3), 0, ByteArray.mk #[], 0, []⟩
theorem G7 (x : AV) : (MM x).lt = ⟨(bz x).op, ⟨ByteArray.empty, []⟩, (bz x).x, .mk 0 ByteArray.empty 0 []⟩ := by
 have e : (bz x).x = bI (ad x 2) := rfl
 rw [e, bX]; rfl
theorem D6 : ∀ t : Tm, 1 ≤ t.gF
 | .mk _ _ _ _ => by rw [Tm.gF]; omega
theorem PE (x : AV) : dC (MM x).lt ≤ dC (bz x) := by
 rw [G7]
 have := D6 (bz x).y
 simp only [dC, aH, Tm.gF]; omega
theorem Xz (κ : Kp) : bg (EK κ) 12 166 3 (aK 0 Oq Ia Az) := by
 refine aO (fun a => a.1.bl.length - a.2.2.2.toNat) ?_
 rintro ⟨a, k, o, i⟩ K ⟨h1, h0, h2, h3, h5⟩ ho
 simp only at h1 h0 h2 h3 h5
 rw [show (EK κ).P = Pr κ from rfl]
 refine Eq.mpr (xEl κ a k (strs o) i _ _ K) ?_
 have hl := h1.2
 simp only [Az, Out.run] at ho
 simp only [af, aq, aa0, aa2, aa1, beq_iff_eq, beq_eq_false_iff_ne]
 refine ⟨fun hi => ?_, fun hi => ?_⟩
 ·have hk : i.toNat < a.bl.length := by omega
  have e := jd a.bl i.toNat hk
  rw [e, ac2, List.sum_cons] at h5
  rw [e, kc] at ho
  have hlit := fj h1 hk
  have hx := PE (nth a.bl i.toNat)
  rw [aU (n := i + 1) (by omega) (by omega)]
  refine ⟨⟨h2, hi⟩, fun e2 => ?_, fun e2 => ?_⟩
  ·subst e2
   rw [Nat.beq_refl, aa7, ← G7] at ho
   have hw := dK o (fg (MM (nth a.bl i.toNat)).lt)
   have hr := jj (MM (nth a.bl i.toNat)).lt
   refine ⟨MM (nth a.bl i.toNat), rfl, by rw [js]; omega, (o, fg (MM (nth a.bl i.toNat)).lt), rfl, ⟨by simp only; omega, by simp only; omega⟩, _, ?_, (a, i, bH o (fg (MM (nth a.bl i.toNat)).lt), i + 1), rfl, ⟨h1, h0, by simp only; omega, by simp only; omega, ?_⟩, rfl, ?_⟩
   ·simp only; omega
   ·simp only [show (i + 1).toNat = i.toNat + 1 by omega]; omega
   ·simp only [Az, Out.run, show (i + 1).toNat = i.toNat + 1 by omega]
    exact ho
  ·rw [pF (show i.toNat ≠ k.toNat by omega), aa5] at ho
   have hw := dK o (fg (bz (nth a.bl i.toNat)))
   have hr := jj (bz (nth a.bl i.toNat))
   refine ⟨nf (nth a.bl i.toNat), rfl, by rw [js, cM]; omega, (o, fg (bz (nth a.bl i.toNat))), by rw [cM], ⟨by simp only; omega, by simp only; omega⟩, _, ?_, (a, k, bH o (fg (bz (nth a.bl i.toNat))), i + 1), rfl, ⟨h1, h0, by simp only; omega, by simp only; omega, ?_⟩, rfl, ?_⟩
   ·simp only; omega
   ·simp only [show (i + 1).toNat = i.toNat + 1 by omega]; omega
   ·simp only [Az, Out.run, show (i + 1).toNat = i.toNat + 1 by omega]
    exact ho
 ·rw [aa8 (by omega)] at ho
  exact ho
noncomputable def Pl (κ : Kp) : Env := (EK κ).aj 166 3 (aK 0 Oq Ia Az)
theorem Z2 (κ : Kp) : aw (Pl κ) := (eK κ).aj (mK κ) (Xz κ)
theorem TP (κ : Kp) : ai (Pl κ) := (mK κ).aj aE
theorem yEl (κ : Kp) (a : b5) (k : Int) (K : AV → List Dn.Obj → Prop) : (a9 (Pl κ) 12 166 [aF a, .int k] [] K) = (
 letI z1 := Pg.toProgram (Env.P (EK κ))
 ∃ (a_1 : AA), ([AV.agg [AV.str a.rel, AV.ae 52 a.hl]], az) = ([AV.agg [AV.str a_1.1, AV.ae 52 a_1.2]], az) ∧ fQ a_1 ∧ ag z1 166 3 = ag z1 166 3 ∧ ∃ (a_2 : Q8),
 sp 35 [(1, AV.int k), (2, AV.ptr 0 0 [] 0), (5, AV.ae 9 (strs (dx (AA.at a_1)))), (6, AV.int 0)] [Obj.box 41 (aF a)] = sp 35 [(1, AV.int a_2.2.1), (2, AV.ptr 0
 0 [] 0), (5, AV.ae 9 (strs (Prod.fst (a_2.2.2)))), (6, AV.int (Prod.snd (a_2.2.2)))] [Obj.box 41 (aF a_2.1)] ∧ ((aH (aa (aX 52 a_2.1.hl a_2.1.bl)) ≤ 100000 ∧
 a_2.1.bl.length ≤ 100000) ∧ (0 : Int) ≤ a_2.2.1 ∧ (0 : Int) ≤ Prod.snd (a_2.2.2) ∧ Prod.snd (a_2.2.2) ≤ (↑(a_2.1.bl.length) : Int) ∧ List.length (Prod.fst
 (a_2.2.2)) + List.sum (List.map dC (bn (List.drop (Int.toNat (Prod.snd (a_2.2.2))) a_2.1.bl))) ≤ 900000) ∧ K (AV.ae 9 (strs (kc a_2.2.1.toNat (bn (List.drop
 (Int.toNat (Prod.snd (a_2.2.2))) a_2.1.bl)) (Int.toNat (Prod.snd (a_2.2.2))) (Prod.fst (a_2.2.2))))) []) := by kernel_rfl
def Ge (a : AP) : List AV × List Dn.Obj := ([aF a.1, .int a.2], [])
def rp (a : AP) : Prop := bZ a.1 ∧ 0 ≤ a.2 ∧ a.2 < a.1.bl.length
def CG (a : AP) : Out (AV × List Dn.Obj) := .one (.ae 9 (strs (kc a.2.toNat (aL a.1).body 0 (dx (aL a.1).head))), [])
theorem cEl (κ : Kp) : bJ (Pl κ) 12 166 (a8 Ge rp CG) := by
 refine bh ?_
 rintro ⟨a, k⟩ K ⟨h1, h2, h3⟩ ho
 simp only at h1 h2 h3
 refine Eq.mpr (yEl κ a k K) ?_
 simp only [CG, Out.run] at ho
 have hp := iV h1
 have hl := h1.2
 have k4 := iv (aa a.hl) []
 simp only [List.length_nil] at k4
 have k5 := lb a.bl
 refine ⟨(a.rel, a.hl), rfl, by show aH (aa a.hl) ≤ 100000; omega, rfl, (a, k, dx ⟨a.rel, aa a.hl⟩, 0), rfl, ⟨h1, h2, by simp only; omega, by simp only; omega, ?_⟩, ?_⟩
 ·simp only [ab8, ab0]
  show (sz (aa a.hl) []).length + _ ≤ 900000
  omega
 ·simp only [ab8, ab0]
  exact ho
noncomputable def EE (κ : Kp) : Env := (Pl κ).ar 166 (a8 Ge rp CG)
theorem eE (κ : Kp) : aw (EE κ) := (Z2 κ).ar (TP κ) (cEl κ)
theorem mE (κ : Kp) : ai (EE κ) := (TP κ).ar aJ
theorem xOu (κ : Kp) (o all s8 tO : List AV) (i : Int) (I : Nat → S → Prop) (n : Nat) (K : Exit → S → Prop) : (vc (EE κ) 12 146 none 0 (ag (Pr κ).toProgram 146 6) (sp 52 [(5, .a7 0 0 o.length), (6, .ae 9 all), (7, .ae 9 s8), (8, .ae 9 tO), (9, .int i)] [.row 9 o]) (bC (EE κ) 146 6 0 I n K)) = (
 letI z3 := toStr (nth all i.toNat)
 letI z4 := IntKind.wrap IntKind.i64 (i + (1 : Int))
 letI z1 := sp 52 [(5, AV.a7 0 0 o.length), (6, AV.ae 9 all), (7, AV.ae 9 s8), (8, AV.ae 9 tO), (9, AV.int z4)] [Obj.row 9 o]
 letI z5 := (0 : Int)
 letI z2 := decide (z5 ≤ i) && decide (i < (↑(all.length) : Int))
 ax (decide (i < (↑(all.length) : Int))) (aZ z2 (aZ (decide (s8.length ≤ 9223372036854775807)) (ax (decide (bm z3 s8 z5 ≥ z5)) (aZ z2 (aZ (decide (tO.length ≤
 9223372036854775807)) (ax (decide (bm z3 tO z5 ≥ z5)) (aZ z2 (aZ (decide ((o.length + 1 + 1) * 17 ≤ 70368744177664)) (∃ (m : Nat), m < n ∧ I m (sp 52 [(5, AV.a7
 0 0 (o.length + 1)), (6, AV.ae 9 all), (7, AV.ae 9 s8), (8, AV.ae 9 tO), (9, AV.int z4)] [Obj.row 9 (List.take o.length o ++ [AV.str z3])])))) (∃ (m : Nat), m <
 n ∧ I m z1)))) (∃ (m : Nat), m < n ∧ I m z1)))) (K (Exit.exit 0) (sp 52 [(5, AV.a7 0 0 o.length)] [Obj.row 9 o]))) := by kernel_rfl
structure N9 where
 o : List ByteArray
 all : List ByteArray
 s8 : List ByteArray
 tO : List ByteArray
 i : Int
abbrev G6 (a : N9) : S := sp 52 [(5, .a7 0 0 (strs a.o).length), (6, .ae 9 (strs a.all)), (7, .ae 9 (strs a.s8)), (8, .ae 9 (strs a.tO)), (9, .int a.i)] [.row 9 (strs a.o)]
def B6 (a : N9) : Prop := a.all.length ≤ 1000000 ∧ a.s8.length ≤ 1000000 ∧ a.tO.length ≤ 1000000 ∧ a.o.length ≤ a.i.toNat ∧ 0 ≤ a.i ∧ a.i ≤ a.all.length
def tV (a : N9) : List ByteArray := a.o ++ (a.all.drop a.i.toNat).filter fun v => a.s8.contains v && a.tO.contains v
def AL (a : N9) : Out (Exit × S) := .one (.exit 0, sp 52 [(5, .a7 0 0 (strs (tV a)).length)] [.row 9 (strs (tV a))])
theorem XP (κ : Kp) : bg (EE κ) 12 146 6 (aK 0 G6 B6 AL) := by
 refine aO (fun a => a.all.length - a.i.toNat) ?_
 rintro ⟨o, all, s8, tO, i⟩ K ⟨h1, h2, h3, h4, h5, h6⟩ ho
 simp only at h1 h2 h3 h4 h5 h6
 rw [show (EE κ).P = Pr κ from rfl]
 refine Eq.mpr (xOu κ (strs o) (strs all) (strs s8) (strs tO) i _ _ K) ?_
 simp only [AL, tV, Out.run] at ho
 simp only [af, aq, aa0, aa2, aa1]
 rw [List.take_length]
 simp only [aM] at ho ⊢
 refine ⟨fun hi => ?_, fun hi => ?_⟩
 ·have hk : i.toNat < all.length := by omega
  rw [nU all _ hk]
  have c1 := fO all[i.toNat] s8 0 (by omega)
  have c2 := fO all[i.toNat] tO 0 (by omega)
  rw [ab1 hk, List.filter_cons] at ho
  have go : ∀ o' : List ByteArray, o'.length ≤ o.length + 1 → o' ++ (all.drop (i.toNat + 1)).filter (fun v => s8.contains v && tO.contains v) = o ++ (if (s8.contains all[i.toNat] && tO.contains all[i.toNat]) = true then all[i.toNat] :: (all.drop (i.toNat + 1)).filter (fun v => s8.contains v && tO.contains v) else (all.drop (i.toNat + 1)).filter (fun v => s8.contains v && tO.contains v)) →
    ∃ k, k < all.length - i.toNat ∧ fp G6 B6 AL (fun a => a.all.length - a.i.toNat) K k (G6 ⟨o', all, s8, tO, i + 1⟩) := by
   intro o' hl he
   refine ⟨_, ?_, ⟨o', all, s8, tO, i + 1⟩, rfl, ⟨h1, h2, h3, by simp only; omega, by simp only; omega, by simp only; omega⟩, rfl, ?_⟩
   ·simp only; omega
   ·simp only [AL, tV, Out.run, show (i + 1).toNat = i.toNat + 1 by omega, he, aM]
    exact ho
  rw [aU (n := i + 1) (by omega) (by omega)]
  have g0 := go o (by omega)
  have g1 := go (o ++ [all[i.toNat]]) (by simp)
  simp only [G6, aM, gn, ab9, List.length_cons, List.length_nil] at g0 g1
  refine ⟨⟨h5, hi⟩, by omega, fun e1 => ⟨⟨h5, hi⟩, by omega, fun e2 => ⟨⟨h5, hi⟩, by omega, g1 ?_⟩, fun e2 => g0 ?_⟩, fun e1 => g0 ?_⟩
  ·rw [← c1, ← c2, aa6 (show bm all[i.toNat] (strs s8) 0 ≥ 0 from e1), aa6 (show bm all[i.toNat] (strs tO) 0 ≥ 0 from e2)]
   simp
  ·rw [← c1, ← c2, aa6 (show bm all[i.toNat] (strs s8) 0 ≥ 0 from e1), aa4 (show ¬ bm all[i.toNat] (strs tO) 0 ≥ 0 from e2)]
   simp
  ·rw [← c1, aa4 (show ¬ bm all[i.toNat] (strs s8) 0 ≥ 0 from e1)]
   simp
 ·rw [aa8 (by omega)] at ho
  simpa using ho
noncomputable def O8 (κ : Kp) : Env := (EE κ).aj 146 6 (aK 0 G6 B6 AL)
theorem YS (κ : Kp) : aw (O8 κ) := (eE κ).aj (mE κ) (XP κ)
theorem TY (κ : Kp) : ai (O8 κ) := (mE κ).aj aE
theorem Bt : ∀ (b : List Lt) (o : List ByteArray), (nD b o).length ≤ o.length + (b.map dC).sum
 | [], o => by simp [nD]
 | l :: b, o => by
  have h1 := Bt b (bH o (fg l))
  have h2 := dK o (fg l)
  have h3 := jj l
  rw [nD, ac2, List.sum_cons]; omega
theorem Bc {a : b5} (h : bZ a) : (cr (aL a)).length ≤ 1000000 := by
 have hp := iV h
 have k5 := lb a.bl
 have k1 := Bt (bn a.bl) (dx (aL a).head)
 have k4 := iv (aa a.hl) []
 simp only [List.length_nil] at k4
 have k6 : (dx (aL a).head).length = (sz (aa a.hl) []).length := rfl
 unfold cr
 cases aG (aL a)
 ·simp
 ·rw [aa7]
  show (nD (bn a.bl) (dx (aL a).head)).length ≤ 1000000
  omega
theorem BC (k : Nat) : ∀ (b : List Lt) (i : Nat) (o : List ByteArray), (kc k b i o).length ≤ o.length + (b.map dC).sum
 | [], _, o => by simp [kc]
 | l :: b, i, o => by
  rw [kc, ac2, List.sum_cons]
  have h1 := BC k b (i + 1) (bH o (bif Nat.beq i k then fg ⟨l.op, ⟨ByteArray.empty, []⟩, l.x, .mk 0 ByteArray.empty 0 []⟩ else fg l))
  have h2 := dK o (bif Nat.beq i k then fg ⟨l.op, ⟨ByteArray.empty, []⟩, l.x, .mk 0 ByteArray.empty 0 []⟩ else fg l)
  have h3 := jj l
  have h4 := jj ⟨l.op, ⟨ByteArray.empty, []⟩, l.x, .mk 0 ByteArray.empty 0 []⟩
  have h5 : dC ⟨l.op, ⟨ByteArray.empty, []⟩, l.x, .mk 0 ByteArray.empty 0 []⟩ ≤ dC l := by
   have := D6 l.y
   simp only [dC, aH, Tm.gF]; omega
  revert h1 h2
  cases Nat.beq i k
  ·simp only [aa5]; omega
  ·simp only [aa7]; omega
theorem KY {a : b5} (h : bZ a) (k : Nat) : (kc k (aL a).body 0 (dx (aL a).head)).length ≤ 1000000 := by
 have hp := iV h
 have k5 := lb a.bl
 have k1 := BC k (bn a.bl) 0 (dx (aL a).head)
 have k4 := iv (aa a.hl) []
 simp only [List.length_nil] at k4
 have k6 : (dx (aL a).head).length = (sz (aa a.hl) []).length := rfl
 show (kc k (bn a.bl) 0 (dx (aL a).head)).length ≤ 1000000
 omega
theorem YA (κ : Kp) (a : b5) (k : Int) (K : AV → List Dn.Obj → Prop) : (a9 (O8 κ) 12 146 [aF a, .int k] [] K) = (
 letI z1 := Pg.toProgram (Env.P (EE κ))
 ∃ (a_1 : b5), ([aF a], az) = ([aF a_1], az) ∧ (aH (aa (aX 52 a_1.hl a_1.bl)) ≤ 100000 ∧ a_1.bl.length ≤ 100000) ∧ aZ (decide ((0 : Int) ≤ k) && decide (k <
 (↑(a.bl.length) : Int))) (∃ (a_2 : AA), ([AV.agg [AV.str (toStr (ad (ad (nth a.bl k.toNat) 1) 0)), AV.ae 52 (ah (ad (ad (nth a.bl k.toNat) 1) 1))]], az) =
 ([AV.agg [AV.str a_2.1, AV.ae 52 a_2.2]], az) ∧ fQ a_2 ∧ ∃ (a_3 : AP), ([aF a, AV.int k], az) = ([aF a_3.1, AV.int a_3.2], az) ∧ ((aH (aa (aX 52 a_3.1.hl
 a_3.1.bl)) ≤ 100000 ∧ a_3.1.bl.length ≤ 100000) ∧ (0 : Int) ≤ a_3.2 ∧ a_3.2 < (↑(a_3.1.bl.length) : Int)) ∧ ag z1 146 6 = ag z1 146 6 ∧ ∃ (a : N9), sp 52 [(5,
 AV.a7 0 0 0), (6, AV.ae 9 (strs (cr (aL a_1)))), (7, AV.ae 9 (strs (dx (AA.at a_2)))), (8, AV.ae 9 (strs (kc a_3.2.toNat (Rl.body (aL a_3.1)) 0 (dx (Rl.head (aL
 a_3.1)))))), (9, AV.int 0)] [Obj.row 9 []] = sp 52 [(5, AV.a7 0 0 (List.length (strs a.o))), (6, AV.ae 9 (strs a.all)), (7, AV.ae 9 (strs a.s8)), (8, AV.ae 9
 (strs a.tO)), (9, AV.int a.i)] [Obj.row 9 (strs a.o)] ∧ (a.all.length ≤ 1000000 ∧ a.s8.length ≤ 1000000 ∧ a.tO.length ≤ 1000000 ∧ a.o.length ≤ a.i.toNat ∧ (0 :
 Int) ≤ a.i ∧ a.i ≤ (↑(a.all.length) : Int)) ∧ K (AV.ae 9 (List.take (List.length (strs (tV a))) (List.drop 0 (strs (tV a))))) [])) := by kernel_rfl
def BY (a : AP) : Out (AV × List Dn.Obj) := .one (.ae 9 (strs (fF (aL a.1) a.2.toNat)), [])
theorem cOu (κ : Kp) : bJ (O8 κ) 12 146 (a8 Ge rp BY) := by
 refine bh ?_
 rintro ⟨a, k⟩ K ⟨h1, h2, h3⟩ ho
 simp only at h1 h2 h3
 refine Eq.mpr (YA κ a k K) ?_
 simp only [BY, Out.run] at ho
 have hk : k.toNat < a.bl.length := by omega
 have hlit := fj h1 hk
 have hb : (bj (aL a).body k.toNat) = bz (nth a.bl k.toNat) := fM a.bl hk
 have hc : aH (aa (ah (ad (ad (nth a.bl k.toNat) 1) 1))) ≤ 100000 := by
  have : dC (bz (nth a.bl k.toNat)) = aH [bI (ad (nth a.bl k.toNat) 2), bI (ad (nth a.bl k.toNat) 3)] + aH (aa (ah (ad (ad (nth a.bl k.toNat) 1) 1))) := rfl
  omega
 have k4 := iv (aa (ah (ad (ad (nth a.bl k.toNat) 1) 1))) []
 simp only [List.length_nil] at k4
 refine ⟨a, rfl, h1, ?_⟩
 rw [aq, aa1, aa0, aa0]
 refine ⟨⟨h2, h3⟩, (toStr (ad (ad (nth a.bl k.toNat) 1) 0), ah (ad (ad (nth a.bl k.toNat) 1) 1)), rfl, hc, (a, k), rfl, ⟨h1, h2, h3⟩, rfl, ⟨[], cr (aL a), dx (bz (nth a.bl k.toNat)).a, kc k.toNat (aL a).body 0 (dx (aL a).head), 0⟩, rfl, ⟨Bc h1, ?_, KY h1 k.toNat, by simp only [List.length_nil]; omega, by simp only; omega, by simp only; omega⟩, ?_⟩
 ·show (sz (aa (ah (ad (ad (nth a.bl k.toNat) 1) 1))) []).length ≤ 1000000
  omega
 ·simp only [tV, ab8, ab0, List.nil_append, List.take_length]
  unfold fF at ho
  rw [hb] at ho
  exact ho
noncomputable def EO (κ : Kp) : Env := (O8 κ).ar 146 (a8 Ge rp BY)
theorem eO (κ : Kp) : aw (EO κ) := (YS κ).ar (TY κ) (cOu κ)
theorem mO (κ : Kp) : ai (EO κ) := (TY κ).ar aJ
theorem XM (κ : Kp) (x y : AT) (b : List AV) (K : AV → List Dn.Obj → Prop) : (a9 (EO κ) 12 74 [cI x, cI y, .ae 9 b] [] K) = (
 ∃ (a : AT), ([AV.agg [AV.int y.op, AV.str y.s, AV.int y.n, AV.ae 52 y.l]], az) = ([AV.agg [AV.int a.op, AV.str a.s, AV.int a.n, AV.ae 52 a.l]], az) ∧
 gG a ∧ aZ (decide (List.length (strs (Tm.rv (AT.tm a))) ≤ 9223372036854775807) && decide (b.length ≤ 9223372036854775807)) (ax (x.op == (1 : Int)) (aZ
 (decide (b.length ≤ 9223372036854775807)) (ax (decide (bm x.s b (0 : Int) < (0 : Int))) (K (AV.bool (dN (strs (Tm.rv (AT.tm a))) b)) []) (K (AV.bool
 false) []))) (K (AV.bool false) []))) := by kernel_rfl
theorem lN (s : ByteArray) : ∀ (b : List AV) (i : Int), bm s b i = bm s (strs (b.map toStr)) i
 | [], _ => rfl
 | x :: b, i => by
  show (bif gC s (toStr x) then i else bm s b (i + 1)) = (bif gC s (toStr x) then i else bm s (strs (b.map toStr)) (i + 1))
  rw [lN s b]
theorem J9 (b : List AV) (x : AV) : ND b x = (b.map toStr).contains (toStr x) := by
 unfold ND; rw [lN]; exact fO _ _ _ (by omega)
theorem tE (l : List ByteArray) (b : List AV) : dN (strs l) b = hasB (b.map toStr) l := by
 unfold dN hasB strs
 rw [List.all_map]
 congr 1; funext s
 exact J9 b _
theorem uA (b : List ByteArray) : (strs b).map toStr = b := by
 unfold strs
 rw [List.map_map]
 exact List.map_id'' (fun _ => rfl) b
def SU : List AV → Option (Bool × AV)
 | [.agg [.lit (.int .i64 o1), .lit (.string s1), .lit (.int .i64 n1), .ae 52 l1], .agg [.lit (.int .i64 o2), .lit (.string s2), .lit (.int .i64 n2), .ae 52 l2], .ae 9 b] =>
  some (decide ((Tm.mk o2 s2 n2 (aa l2)).gF ≤ 100000) && decide (b.length ≤ 1000000), .bool (jx (b.map toStr) (.mk o1 s1 n1 (aa l1)) (.mk o2 s2 n2 (aa l2))))
 | _ => none
theorem pBi (κ : Kp) : bM (EO κ) 12 74 SU := by
 intro args x hh
 unfold SU at hh
 split at hh
 ·rename_i o1 s1 n1 l1 o2 s2 n2 l2 b
  simp only [aa3, aa9, aa1, aa0] at hh
  obtain ⟨⟨h1, h2⟩, rfl⟩ := hh
  refine ⟨_, rfl, rfl, ?_⟩
  refine Eq.mpr (XM κ ⟨o1, s1, n1, l1⟩ ⟨o2, s2, n2, l2⟩ b _) ?_
  have k := Tm.jv (.mk o2 s2 n2 (aa l2))
  have eb : jx (b.map toStr) (.mk o1 s1 n1 (aa l1)) (.mk o2 s2 n2 (aa l2)) = (decide (o1 = 1) && !(b.map toStr).contains s1 && hasB (b.map toStr) (Tm.mk o2 s2 n2 (aa l2)).rv) := rfl
  refine ⟨⟨o2, s2, n2, l2⟩, rfl, h1, ?_⟩
  simp only [aM]
  rw [aq, aa1, aa0, aa0, af, beq_iff_eq, beq_eq_false_iff_ne]
  refine ⟨⟨by show (Tm.rv (.mk o2 s2 n2 (aa l2))).length ≤ _; omega, by omega⟩, fun e => ?_, fun e => cO ?_⟩
  ·rw [aq, aa0, af, aa0, aa2, tE]
   have hp := fO s1 (b.map toStr) 0 (by omega)
   rw [← lN] at hp
   refine ⟨by omega, fun e2 => cO ?_, fun e2 => cO ?_⟩
   ·rw [aa4 (show ¬ bm s1 b 0 ≥ 0 by omega)] at hp
    rw [eb, ← hp, aa6 (show o1 = 1 from e)]; rfl
   ·rw [aa6 (show bm s1 b 0 ≥ 0 by omega)] at hp
    rw [eb, ← hp, aa6 (show o1 = 1 from e)]; rfl
  ·rw [eb, aa4 (show ¬ o1 = 1 from e)]; rfl
 ·cases hh
noncomputable def EB (κ : Kp) : Env := (EO κ).au 74 SU
theorem eB (κ : Kp) : aw (EB κ) := (eO κ).au (mO κ) (pBi κ)
theorem mB (κ : Kp) : ai (EB κ) := (mO κ).au
theorem Y0 (κ : Kp) (a : b5) (k : Int) (b : List AV) (K : AV → List Dn.Obj → Prop) : (a9 (EB κ) 12 145 [aF a, .int k, .ae 9 b] [] K) = (
 letI z1 := nth a.bl k.toNat
 letI z4 := toStr (ad (ad z1 1) 0)
 letI z5 := ah (ad (ad z1 1) 1)
 letI z6 := ad z1 3
 letI z7 := ad z1 0
 letI z8 := ad z1 2
 letI z3 := Tm.mk (toInt (ad z8 0)) (toStr (ad z8 1)) (toInt (ad z8 2)) (aa (ah (ad z8 3)))
 letI z9 := K (AV.bool true) []
 letI z10 := toStr (ad z6 1)
 letI z2 := Tm.mk (toInt (ad z6 0)) z10 (toInt (ad z6 2)) (aa (ah (ad z6 3)))
 aZ (decide ((0 : Int) ≤ k) && decide (k < (↑(a.bl.length) : Int))) (∃ (a_1 : LA), ([AV.agg [AV.int (toInt z7), AV.agg [AV.str z4, AV.ae 52 z5], AV.agg [AV.int
 (toInt (ad z8 0)), AV.str (toStr (ad z8 1)), AV.int (toInt (ad z8 2)), AV.ae 52 (ah (ad z8 3))], AV.agg [AV.int (toInt (ad z6 0)), AV.str z10, AV.int (toInt (ad
 z6 2)), AV.ae 52 (ah (ad z6 3))]]], az) = ([AV.agg [AV.int a_1.op, AV.agg [AV.str a_1.s, AV.ae 52 a_1.l], AV.agg [AV.int a_1.o1, AV.str a_1.s1, AV.int a_1.n1,
 AV.ae 52 a_1.l1], AV.agg [AV.int a_1.o2, AV.str a_1.s2, AV.int a_1.n2, AV.ae 52 a_1.l2]]], az) ∧ js a_1 ∧ aZ (decide (List.length (strs (fg (LA.lt a_1))) ≤
 9223372036854775807) && decide (b.length ≤ 9223372036854775807)) (ax (toInt z7 == (1 : Int)) (∃ (a_2 : AA), ([AV.agg [AV.str z4, AV.ae 52 z5]], az) = ([AV.agg
 [AV.str a_2.1, AV.ae 52 a_2.2]], az) ∧ fQ a_2 ∧ aZ (decide (List.length (strs (fS (At.l (AA.at a_2)) [])) ≤ 9223372036854775807) && decide (b.length ≤
 9223372036854775807)) (K (AV.bool (dN (strs (fS (At.l (AA.at a_2)) [])) b)) [])) (ax (toInt z7 == (2 : Int)) (K (AV.bool (dN (strs (fg (LA.lt a_1))) b)) []) (ax
 (toInt z7 == (4 : Int)) (K (AV.bool (dN (strs (fg (LA.lt a_1))) b)) []) (ax (toInt z7 == (5 : Int)) (K (AV.bool (dN (strs (fg (LA.lt a_1))) b)) []) (ax (toInt
 z7 == (6 : Int)) (K (AV.bool (dN (strs (fg (LA.lt a_1))) b)) []) (ax (toInt z7 == (3 : Int)) (aZ (decide (Tm.gF z2 ≤ 100000) && decide (b.length ≤ 1000000)) (aZ
 (decide (Tm.gF z3 ≤ 100000) && decide (b.length ≤ 1000000)) (ax (dN (strs (fg (LA.lt a_1))) b) z9 (ax (jx (List.map toStr b) z3 z2) z9 (K (AV.bool (jx (List.map
 toStr b) z2 z3)) []))))) (∃ (a_2 : AA), ([AV.agg [AV.str z4, AV.ae 52 z5]], az) = ([AV.agg [AV.str a_2.1, AV.ae 52 a_2.2]], az) ∧ fQ a_2 ∧ ∃ (a_3 : AP), ([aF a,
 AV.int k], az) = ([aF a_3.1, AV.int a_3.2], az) ∧ ((aH (aa (aX 52 a_3.1.hl a_3.1.bl)) ≤ 100000 ∧ a_3.1.bl.length ≤ 100000) ∧ (0 : Int) ≤ a_3.2 ∧ a_3.2 <
 (↑(a_3.1.bl.length) : Int)) ∧ aZ (decide (List.length (strs (fF (aL a_3.1) a_3.2.toNat)) ≤ 9223372036854775807) && decide (b.length ≤ 9223372036854775807)) (ax
 (dN (strs (fF (aL a_3.1) a_3.2.toNat)) b) (∃ (a_4 : AA), ([AV.agg [AV.str z4, AV.ae 52 z5]], az) = ([AV.agg [AV.str a_4.1, AV.ae 52 a_4.2]], az) ∧ fQ a_4 ∧ aZ
 (decide (List.length (strs (fS (At.l (AA.at a_4)) [])) ≤ 9223372036854775807) && decide (b.length ≤ 9223372036854775807)) (ax (dN (strs (fS (At.l (AA.at a_4))
 [])) b) (ax (toInt z7 == (7 : Int)) z9 (aZ (decide (List.length (strs (dx (AA.at a_2))) ≤ 9223372036854775807)) (K (AV.bool (decide (bm z10 (strs (dx (AA.at
 a_2))) (0 : Int) ≥ (0 : Int)))) []))) (K (AV.bool false) []))) (K (AV.bool false) []))))))))))) := by kernel_rfl
def RE : List AV → Option (Bool × AV)
 | [.agg [.agg [.lit (.string rel), .ae 52 hl], .ae 55 bl, .lit (.int .i64 _)], .lit (.int .i64 k), .ae 9 b] =>
  some (decide (aH (aa (aX 52 hl bl)) ≤ 100000) && decide (bl.length ≤ 100000) && (decide (0 ≤ k) && decide (k < bl.length)) && decide (b.length ≤ 1000000), .bool (lM (b.map toStr) ⟨⟨rel, aa hl⟩, bn bl⟩ k.toNat))
 | _ => none
theorem wC (x : AV) : dC (bz x) = aH [bI (ad x 2), bI (ad x 3)] + aH (aa (ah (ad (ad x 1) 1))) := rfl
theorem wv {a : b5} (h : bZ a) (k : Nat) : (fF (aL a) k).length ≤ 1000000 := Nat.le_trans (List.length_filter_le _ _) (Bc h)
theorem ZS (κ : Kp) : bM (EB κ) 12 145 RE := by
 intro args x hh
 unfold RE at hh
 split at hh
 ·rename_i rel hl bl line k b
  simp only [aa3, aa9, aa1, aa0] at hh
  obtain ⟨⟨⟨⟨h1, h2⟩, h3, h4⟩, h5⟩, rfl⟩ := hh
  refine ⟨_, rfl, rfl, ?_⟩
  let a : b5 := ⟨[], [], rel, hl, bl, line, 0⟩
  have hs : bZ a := ⟨h1, h2⟩
  refine Eq.mpr (Y0 κ a k b _) ?_
  have hk : k.toNat < bl.length := by omega
  have hlit : dC (bz (nth bl k.toNat)) ≤ 100000 := fj hs hk
  have hb : (bj (bn bl) k.toNat) = bz (nth bl k.toNat) := fM bl hk
  have hv : lM (b.map toStr) ⟨⟨rel, aa hl⟩, bn bl⟩ k.toNat =
    bif decide (toInt (ad (nth bl k.toNat) 0) = 1) then hasB (b.map toStr) (fS (aa (ah (ad (ad (nth bl k.toNat) 1) 1))) [])
    else bif decide (toInt (ad (nth bl k.toNat) 0) = 2) || decide (toInt (ad (nth bl k.toNat) 0) = 4) || decide (toInt (ad (nth bl k.toNat) 0) = 5) || decide (toInt (ad (nth bl k.toNat) 0) = 6) then hasB (b.map toStr) (fg (bz (nth bl k.toNat)))
    else bif decide (toInt (ad (nth bl k.toNat) 0) = 3) then hasB (b.map toStr) (fg (bz (nth bl k.toNat))) || jx (b.map toStr) (bI (ad (nth bl k.toNat) 2)) (bI (ad (nth bl k.toNat) 3)) || jx (b.map toStr) (bI (ad (nth bl k.toNat) 3)) (bI (ad (nth bl k.toNat) 2))
    else hasB (b.map toStr) (fF (aL a) k.toNat) && hasB (b.map toStr) (fS (aa (ah (ad (ad (nth bl k.toNat) 1) 1))) []) && (decide (toInt (ad (nth bl k.toNat) 0) = 7) || (dx (bz (nth bl k.toNat)).a).contains (toStr (ad (ad (nth bl k.toNat) 3) 1))) := by
   have hy : (bI (ad (nth bl k.toNat) 3)).s = toStr (ad (ad (nth bl k.toNat) 3) 1) := by rw [bX]; rfl
   unfold lM
   show (bif decide ((bj (bn bl) k.toNat).op = 1) then _ else _) = _
   simp only [hb]
   rw [← hy]; rfl
  rw [hv]
  have hp := wC (nth bl k.toNat)
  simp only [aH] at hp
  have hc : aH (aa (ah (ad (ad (nth bl k.toNat) 1) 1))) ≤ 100000 := by omega
  have r1 := jj (bz (nth bl k.toNat))
  have r2 := xg (aa (ah (ad (ad (nth bl k.toNat) 1) 1))) []
  have r3 := wv hs k.toNat
  have r4 := iv (aa (ah (ad (ad (nth bl k.toNat) 1) 1))) []
  simp only [List.length_nil] at r2 r4
  simp only [← bX]
  rw [aq, aa1, aa0, aa0]
  refine ⟨⟨h3, h4⟩, nf (nth bl k.toNat), rfl, by rw [js, cM]; exact hlit, ?_⟩
  simp only [tE, cM, aM]
  rw [aq, aa1, aa0, aa0]
  refine ⟨⟨by omega, by omega⟩, ?_⟩
  show ax (toInt (ad (nth bl k.toNat) 0) == 1) _ _
  rw [af, beq_iff_eq, beq_eq_false_iff_ne]
  refine ⟨fun e1 => ?_, fun e1 => ?_⟩
  ·rw [aa6 e1, aa7]
   refine ⟨(toStr (ad (ad (nth bl k.toNat) 1) 0), ah (ad (ad (nth bl k.toNat) 1) 1)), rfl, hc, ?_⟩
   rw [aq, aa1, aa0, aa0]
   exact ⟨⟨by show (fS (aa (ah (ad (ad (nth bl k.toNat) 1) 1))) []).length ≤ _; omega, by omega⟩, rfl⟩
  rw [aa4 e1, aa5]
  show ax (toInt (ad (nth bl k.toNat) 0) == 2) _ _
  rw [af, beq_iff_eq, beq_eq_false_iff_ne]
  refine ⟨fun e2 => by rw [aa6 e2]; rfl, fun e2 => ?_⟩
  rw [aa4 e2, Bool.false_or]
  show ax (toInt (ad (nth bl k.toNat) 0) == 4) _ _
  rw [af, beq_iff_eq, beq_eq_false_iff_ne]
  refine ⟨fun e4 => by rw [aa6 e4]; rfl, fun e4 => ?_⟩
  rw [aa4 e4, Bool.false_or]
  show ax (toInt (ad (nth bl k.toNat) 0) == 5) _ _
  rw [af, beq_iff_eq, beq_eq_false_iff_ne]
  refine ⟨fun e5 => by rw [aa6 e5]; rfl, fun e5 => ?_⟩
  rw [aa4 e5, Bool.false_or]
  show ax (toInt (ad (nth bl k.toNat) 0) == 6) _ _
  rw [af, beq_iff_eq, beq_eq_false_iff_ne]
  refine ⟨fun e6 => by rw [aa6 e6]; rfl, fun e6 => ?_⟩
  rw [aa4 e6, aa5]
  show ax (toInt (ad (nth bl k.toNat) 0) == 3) _ _
  rw [af, beq_iff_eq, beq_eq_false_iff_ne]
  refine ⟨fun e3 => ?_, fun e3 => ?_⟩
  ·rw [aa6 e3, aa7]
   rw [aq, aq, aa1, aa1, aa0, aa0, aa0]
   refine ⟨⟨by show (bI (ad (nth bl k.toNat) 3)).gF ≤ _; omega, h5⟩, ⟨by show (bI (ad (nth bl k.toNat) 2)).gF ≤ _; omega, h5⟩, ?_⟩
   show ax (hasB (b.map toStr) (fg (bz (nth bl k.toNat)))) _ (ax (jx (b.map toStr) (bI (ad (nth bl k.toNat) 2)) (bI (ad (nth bl k.toNat) 3))) _ _)
   cases hasB (b.map toStr) (fg (bz (nth bl k.toNat)))
   ·cases jx (b.map toStr) (bI (ad (nth bl k.toNat) 2)) (bI (ad (nth bl k.toNat) 3)) <;> rfl
   ·rfl
  ·rw [aa4 e3, aa5]
   refine ⟨(toStr (ad (ad (nth bl k.toNat) 1) 0), ah (ad (ad (nth bl k.toNat) 1) 1)), rfl, hc, (a, k), rfl, ⟨hs, h3, h4⟩, ?_⟩
   rw [aq, aa1, aa0, aa0]
   refine ⟨⟨by show (fF (aL a) k.toNat).length ≤ _; omega, by omega⟩, ?_⟩
   show ax (hasB (b.map toStr) (fF (aL a) k.toNat)) _ _
   cases hasB (b.map toStr) (fF (aL a) k.toNat)
   ·rfl
   ·refine ⟨(toStr (ad (ad (nth bl k.toNat) 1) 0), ah (ad (ad (nth bl k.toNat) 1) 1)), rfl, hc, ?_⟩
    rw [aq, aa1, aa0, aa0]
    refine ⟨⟨by show (fS (aa (ah (ad (ad (nth bl k.toNat) 1) 1))) []).length ≤ _; omega, by omega⟩, ?_⟩
    show ax (hasB (b.map toStr) (fS (aa (ah (ad (ad (nth bl k.toNat) 1) 1))) [])) _ _
    cases hasB (b.map toStr) (fS (aa (ah (ad (ad (nth bl k.toNat) 1) 1))) [])
    ·rfl
    ·show ax (toInt (ad (nth bl k.toNat) 0) == 7) _ _
     rw [af, beq_iff_eq, beq_eq_false_iff_ne]
     refine ⟨fun e7 => by rw [aa6 e7]; rfl, fun e7 => ?_⟩
     rw [aa4 e7, aq, aa0]
     refine ⟨by show (sz (aa (ah (ad (ad (nth bl k.toNat) 1) 1))) []).length ≤ _; omega, ?_⟩
     rw [fO _ _ 0 (by omega)]; rfl
 ·cases hh
noncomputable def P3 (κ : Kp) : Env := (EB κ).au 145 RE
theorem eRe (κ : Kp) : aw (P3 κ) := (eB κ).au (mB κ) (ZS κ)
theorem Vc (κ : Kp) : ai (P3 κ) := (mB κ).au
theorem Xi (κ : Kp) (a : b5) (k : Int) (K : AV → List Dn.Obj → Prop) : (a9 (P3 κ) 12 109 [aF a, .int k] [] K) = (
 aZ (decide ((0 : Int) ≤ k) && decide (k < (↑(a.bl.length) : Int))) (ax (decide (toInt (ad (nth a.bl k.toNat) 0) ≥ (7 : Int))) ((∃ (a_1 : AT), ([AV.agg [AV.int
 (toInt (ad (ad (nth a.bl k.toNat) 2) 0)), AV.str (toStr (ad (ad (nth a.bl k.toNat) 2) 1)), AV.int (toInt (ad (ad (nth a.bl k.toNat) 2) 2)), AV.ae 52
 (ah (ad (ad (nth a.bl k.toNat) 2) 3))]], az) = ([AV.agg [AV.int a_1.op, AV.str a_1.s, AV.int a_1.n, AV.ae 52 a_1.l]], az) ∧ gG a_1 ∧ ∃ (a_2 :
 AP), ([aF a, AV.int k], az) = ([aF a_2.1, AV.int a_2.2], az) ∧ ((aH (aa (aX 52 a_2.1.hl a_2.1.bl)) ≤ 100000 ∧ a_2.1.bl.length ≤ 100000) ∧ (0 :
 Int) ≤ a_2.2 ∧ a_2.2 < (↑(a_2.1.bl.length) : Int)) ∧ ∃ (a : List ByteArray × List ByteArray), ([AV.ae 9 (strs (Tm.rv (AT.tm a_1))), AV.ae 9 (strs (fF
 (aL a_2.1) a_2.2.toNat))], az) = ([AV.ae 9 (strs a.1), AV.ae 9 (strs a.2)], az) ∧ (a.1.length ≤ 1000000 ∧ a.2.length ≤ 1000000) ∧ K (AV.ae 9 (strs
 (bH a.1 a.2))) []) ∧ ∃ (a_1 : AT), ([AV.agg [AV.int (toInt (ad (ad (nth a.bl k.toNat) 2) 0)), AV.str (toStr (ad (ad (nth a.bl k.toNat) 2) 1)), AV.int
 (toInt (ad (ad (nth a.bl k.toNat) 2) 2)), AV.ae 52 (ah (ad (ad (nth a.bl k.toNat) 2) 3))]], az) = ([AV.agg [AV.int a_1.op, AV.str a_1.s, AV.int
 a_1.n, AV.ae 52 a_1.l]], az) ∧ gG a_1 ∧ ∃ (a_2 : AP), ([aF a, AV.int k], az) = ([aF a_2.1, AV.int a_2.2], az) ∧ ((aH (aa (aX 52
 a_2.1.hl a_2.1.bl)) ≤ 100000 ∧ a_2.1.bl.length ≤ 100000) ∧ (0 : Int) ≤ a_2.2 ∧ a_2.2 < (↑(a_2.1.bl.length) : Int)) ∧ ∃ (a : List ByteArray × List ByteArray),
 ([AV.ae 9 (strs (Tm.rv (AT.tm a_1))), AV.ae 9 (strs (fF (aL a_2.1) a_2.2.toNat))], az) = ([AV.ae 9 (strs a.1), AV.ae 9 (strs a.2)], az) ∧
 (a.1.length ≤ 1000000 ∧ a.2.length ≤ 1000000) ∧ K (AV.ae 9 (strs (bH a.1 a.2))) []) (∃ (a_1 : LA), ([AV.agg [AV.int (toInt (ad (nth a.bl k.toNat) 0)),
 AV.agg [AV.str (toStr (ad (ad (nth a.bl k.toNat) 1) 0)), AV.ae 52 (ah (ad (ad (nth a.bl k.toNat) 1) 1))], AV.agg [AV.int (toInt (ad (ad (nth a.bl
 k.toNat) 2) 0)), AV.str (toStr (ad (ad (nth a.bl k.toNat) 2) 1)), AV.int (toInt (ad (ad (nth a.bl k.toNat) 2) 2)), AV.ae 52 (ah (ad (ad (nth a.bl
 k.toNat) 2) 3))], AV.agg [AV.int (toInt (ad (ad (nth a.bl k.toNat) 3) 0)), AV.str (toStr (ad (ad (nth a.bl k.toNat) 3) 1)), AV.int (toInt (ad (ad (nth
 a.bl k.toNat) 3) 2)), AV.ae 52 (ah (ad (ad (nth a.bl k.toNat) 3) 3))]]], az) = ([AV.agg [AV.int a_1.op, AV.agg [AV.str a_1.s, AV.ae 52 a_1.l], AV.agg
 [AV.int a_1.o1, AV.str a_1.s1, AV.int a_1.n1, AV.ae 52 a_1.l1], AV.agg [AV.int a_1.o2, AV.str a_1.s2, AV.int a_1.n2, AV.ae 52 a_1.l2]]], az) ∧ js a_1 ∧
 K (AV.ae 9 (strs (fg (LA.lt a_1)))) []))) := by kernel_rfl
def Jo (a : AP) : Out (AV × List Dn.Obj) := .one (.ae 9 (strs (gH (aL a.1) a.2.toNat)), [])
theorem cGa (κ : Kp) : bJ (P3 κ) 12 109 (a8 Ge rp Jo) := by
 refine bh ?_
 rintro ⟨a, k⟩ K ⟨h1, h3, h4⟩ ho
 simp only at h1 h3 h4
 refine Eq.mpr (Xi κ a k K) ?_
 simp only [Jo, Out.run, gH] at ho
 have hk : k.toNat < a.bl.length := by omega
 have hlit : dC (bz (nth a.bl k.toNat)) ≤ 100000 := fj h1 hk
 have hb : (bj (aL a).body k.toNat) = bz (nth a.bl k.toNat) := fM a.bl hk
 rw [hb] at ho
 have hp := wC (nth a.bl k.toNat)
 simp only [aH] at hp
 have r3 := wv h1 k.toNat
 have r5 := Tm.jv (bI (ad (nth a.bl k.toNat) 2))
 simp only [and_self]
 rw [aq, aa1, aa0, aa0, af, aa0, aa2]
 refine ⟨⟨h3, h4⟩, fun e => ?_, fun e => ?_⟩
 ·rw [aa6 (show (bz (nth a.bl k.toNat)).op ≥ 7 from e)] at ho
  exact ⟨kp (ad (nth a.bl k.toNat) 2), rfl, by rw [gG, fm]; omega, (a, k), rfl, ⟨h1, h3, h4⟩, (Tm.rv (bI (ad (nth a.bl k.toNat) 2)), fF (aL a) k.toNat), by rw [fm], ⟨by simp only; omega, r3⟩, ho⟩
 ·rw [aa4 (show ¬ (bz (nth a.bl k.toNat)).op ≥ 7 from e)] at ho
  exact ⟨nf (nth a.bl k.toNat), rfl, by rw [js, cM]; exact hlit, by rw [cM]; exact ho⟩
noncomputable def KL (κ : Kp) : Env := (P3 κ).ar 109 (a8 Ge rp Jo)
theorem YT (κ : Kp) : aw (KL κ) := (eRe κ).ar (Vc κ) (cGa κ)
theorem Ta (κ : Kp) : ai (KL κ) := (Vc κ).ar aJ
theorem xN1 (κ : Kp) (a : b5) (done b : List AV) (rd k : Int) (I : Nat → S → Prop) (n : Nat) (K : Exit → S → Prop) : (vc (KL κ) 12 107 none 1 (ag (Pr κ).toProgram 107 5) (sp 48 [(1, .a7 0 0 done.length), (2, .ae 9 b), (3, .ptr 1 0 [] 0), (7, .int rd), (8, .int k)] [.row 4 done, .box 41 (aF a)]) (bC (KL κ) 107 5 1 I n K)) = (
 letI z2 := AV.agg [AV.agg [AV.str a.rel, AV.ae 52 a.hl], AV.ae 55 a.bl, AV.int a.line]
 letI z1 := sp 48 [(1, AV.a7 0 0 done.length), (2, AV.ae 9 b), (3, AV.ptr 1 0 [] 0), (7, AV.int rd), (8, AV.int (IntKind.wrap IntKind.i64 (k + (1 : Int))))]
  [Obj.row 4 done, Obj.box 41 z2]
 letI z3 := decide ((0 : Int) ≤ k) && decide (k < (↑(a.bl.length) : Int))
 ax (decide (k < (↑(a.bl.length) : Int))) (aZ z3 (aZ (decide (aH (aa (aX 52 a.hl a.bl)) ≤ 100000) && decide (a.bl.length ≤ 100000) && z3 && decide (b.length ≤ 1000000)) (aZ (decide ((0 : Int) ≤ k) && decide (k < (↑(done.length) : Int))) (ax (!Dn.toBool (nth done (0 + k.toNat))) (ax ((toInt (ad (nth a.bl k.toNat) 0) == (1 : Int)) == (rd == (1 : Int))) (ax (lM (List.map toStr b) { head := { rel := a.rel, l := aa a.hl }, body := bn a.bl } k.toNat) (K Exit.ret (sp 48 [(6, AV.int k)] [Obj.row 4 done])) (∃ (m : Nat), m < n ∧ I m z1)) (∃ (m : Nat), m < n ∧ I m z1)) (∃ (m : Nat), m < n ∧ I m z1))))) (K (Exit.exit 2) (sp 48 [(1, AV.a7 0 0 done.length), (2, AV.ae 9 b), (3, AV.ptr 1 0 [] 0), (7, AV.int rd)] [Obj.row 4 done, Obj.box 41 z2]))) := by kernel_rfl
structure AN where
 a : b5
 done : List Bool
 b : List ByteArray
 rd : Int
 k : Int
abbrev Q6 (a : AN) : List (Nat × AV) := [(1, .a7 0 0 (bw a.done).length), (2, .ae 9 (strs a.b)), (3, .ptr 1 0 [] 0), (7, .int a.rd)]
abbrev QZ (a : AN) : List Dn.Obj := [.row 4 (bw a.done), .box 41 (aF a.a)]
abbrev HB (a : AN) : S := sp 48 [(1, .a7 0 0 (bw a.done).length), (2, .ae 9 (strs a.b)), (3, .ptr 1 0 [] 0), (7, .int a.rd), (8, .int a.k)] (QZ a)
def DD (a : AN) : Prop := bZ a.a ∧ a.done.length = a.a.bl.length ∧ a.b.length ≤ 1000000
def Cs (a : AN) : Prop := DD a ∧ 0 ≤ a.k ∧ a.k ≤ a.a.bl.length
def mz (a : AN) : Int := eo (okF (aL a.a) a.done a.b (a.rd == 1)) (a.a.bl.length - a.k.toNat) a.k.toNat
def BD (a : AN) : Out (Exit × S) := .ax (decide (0 ≤ mz a)) (.one (.ret, sp 48 [(6, .int (mz a))] [.row 4 (bw a.done)])) (.one (.exit 2, sp 48 (Q6 a) (QZ a)))
theorem VX (κ : Kp) : bg (KL κ) 12 107 5 (aK 1 HB Cs BD) := by
 refine aO (fun a => a.a.bl.length - a.k.toNat) ?_
 rintro ⟨a, done, b, rd, k⟩ K ⟨⟨h1, h5, h6⟩, h2, h3⟩ ho
 simp only at h1 h2 h3 h5 h6
 rw [show (KL κ).P = Pr κ from rfl]
 refine Eq.mpr (xN1 κ a (bw done) (strs b) rd k _ _ K) ?_
 have hl := h1.2
 simp only [BD, Out.run, af] at ho
 simp only [uA, aM, fk, Nat.zero_add, wU] at ho ⊢
 rw [af, aa0, aa2]
 refine ⟨fun hi => ?_, fun hi => ?_⟩
 ·have hk : k.toNat < a.bl.length := by omega
  have hb : (bj (aL a).body k.toNat) = bz (nth a.bl k.toNat) := fM a.bl hk
  have hf : mz ⟨a, done, b, rd, k⟩ = bif okF (aL a) done b (rd == 1) k.toNat then (k.toNat : Int) else mz ⟨a, done, b, rd, k + 1⟩ := by
   unfold mz
   simp only [show (k + 1).toNat = k.toNat + 1 by omega]
   rw [show a.bl.length - k.toNat = (a.bl.length - (k.toNat + 1)) + 1 by omega, eo]
  have ho2 : okF (aL a) done b (rd == 1) k.toNat = (!Rl.eR done k.toNat && ((toInt (ad (nth a.bl k.toNat) 0) == 1) == (rd == 1)) && lM b ⟨⟨a.rel, aa a.hl⟩, bn a.bl⟩ k.toNat) := by
   unfold okF
   rw [hb, Fo (toInt (ad (nth a.bl k.toNat) 0)) 1]; rfl
  rw [ho2] at hf
  have go : mz ⟨a, done, b, rd, k⟩ = mz ⟨a, done, b, rd, k + 1⟩ → ∃ m, m < a.bl.length - k.toNat ∧ fp HB Cs BD (fun a => a.a.bl.length - a.k.toNat) K m (HB ⟨a, done, b, rd, k + 1⟩) := fun e => by
   rw [e] at ho
   refine ⟨_, ?_, ⟨a, done, b, rd, k + 1⟩, rfl, ⟨⟨h1, h5, h6⟩, by simp only; omega, by simp only; omega⟩, rfl, ?_⟩
   ·simp only; omega
   ·simp only [BD, Out.run, af, fk, aM]
    exact ho
  simp only [HB, fk] at go
  rw [aU (n := k + 1) (by omega) (by omega)]
  simp only [aq, aa1, aa0]
  refine ⟨⟨h2, hi⟩, ⟨⟨⟨h1.1, h1.2⟩, h2, hi⟩, h6⟩, ⟨h2, by omega⟩, ?_⟩
  cases e1 : Rl.eR done k.toNat with
  | true => exact go (by rw [hf, e1]; rfl)
  | false =>
   cases e2 : ((toInt (ad (nth a.bl k.toNat) 0) == 1) == (rd == 1)) with
   | false => exact go (by rw [hf, e2, e1]; rfl)
   | true =>
    cases e3 : lM b ⟨⟨a.rel, aa a.hl⟩, bn a.bl⟩ k.toNat with
    | false => exact go (by rw [hf, e3, e2, e1]; rfl)
    | true =>
     rw [e1, e2, e3] at hf
     have hf' : mz ⟨a, done, b, rd, k⟩ = k := by rw [hf]; exact Int.toNat_of_nonneg h2
     rw [hf'] at ho
     exact ho.1 (aa6 h2)
 ·have hf : mz ⟨a, done, b, rd, k⟩ = -1 := by
   unfold mz
   simp only [show a.bl.length - k.toNat = 0 by omega]; rfl
  rw [hf] at ho
  have := ho.2 rfl
  simp only [Q6, fk] at this
  exact this
noncomputable def KD (κ : Kp) : Env := (KL κ).aj 107 5 (aK 1 HB Cs BD)
theorem WB (κ : Kp) : aw (KD κ) := (YT κ).aj (Ta κ) (VX κ)
theorem UG (κ : Kp) : ai (KD κ) := (Ta κ).aj aE
theorem VK (κ : Kp) (a : AN) (I : Nat → S → Prop) (n : Nat) (K : Exit → S → Prop) : (vc (KD κ) 12 107 none 1 (ag (Pr κ).toProgram 107 2) (sp 48 (Q6 a) (QZ a)) (bC (KD κ) 107 2 1 I n K)) = (
 letI z1 := Pg.toProgram (Env.P (KL κ))
 ax (decide (a.rd < (2 : Int))) (ag z1 107 5 = ag z1 107 5 ∧ ∃ (a_1 : AN), sp 48 [(1, AV.a7 0 0 (List.length (bw a.done))), (2, AV.ae 9 (strs a.b)), (3, AV.ptr 1
 0 [] 0), (7, AV.int a.rd), (8, AV.int 0)] [Obj.row 4 (bw a.done), Obj.box 41 (AV.agg [AV.agg [AV.str (a.a.rel), AV.ae 52 (a.a.hl)], AV.ae 55 (a.a.bl), AV.int
 (a.a.line)])] = sp 48 [(1, AV.a7 0 0 (List.length (bw a_1.done))), (2, AV.ae 9 (strs a_1.b)), (3, AV.ptr 1 0 [] 0), (7, AV.int a_1.rd), (8, AV.int a_1.k)]
 [Obj.row 4 (bw a_1.done), Obj.box 41 (AV.agg [AV.agg [AV.str (a_1.a.rel), AV.ae 52 (a_1.a.hl)], AV.ae 55 (a_1.a.bl), AV.int (a_1.a.line)])] ∧ (((aH (aa (aX 52
 (a_1.a.hl) (a_1.a.bl))) ≤ 100000 ∧ List.length (a_1.a.bl) ≤ 100000) ∧ a_1.done.length = List.length (a_1.a.bl) ∧ a_1.b.length ≤ 1000000) ∧ (0 : Int) ≤ a_1.k ∧
 a_1.k ≤ (↑(List.length (a_1.a.bl)) : Int)) ∧ ax (decide ((0 : Int) ≤ mz a_1)) (K Exit.ret (sp 48 [(6, AV.int (mz a_1))] [Obj.row 4 (bw a_1.done)])) (∃ (m :
 Nat), m < n ∧ I m (sp 48 [(1, AV.a7 0 0 (List.length (bw a_1.done))), (2, AV.ae 9 (strs a_1.b)), (3, AV.ptr 1 0 [] 0), (7, AV.int (IntKind.wrap IntKind.i64
 (a_1.rd + (1 : Int))))] [Obj.row 4 (bw a_1.done), Obj.box 41 (AV.agg [AV.agg [AV.str (a_1.a.rel), AV.ae 52 (a_1.a.hl)], AV.ae 55 (a_1.a.bl), AV.int
 (a_1.a.line)])]))) (K (Exit.exit 0) (sp 48 [] [Obj.row 4 (bw a.done)]))) := by kernel_rfl
def H5 (a : AN) : Prop := DD a ∧ 0 ≤ a.rd ∧ a.rd ≤ 2
abbrev PW (a : AN) : S := sp 48 (Q6 a) (QZ a)
def ib (a : AN) : Int := bif decide (a.rd = 0) then cR (aL a.a) a.done a.b else bif decide (a.rd = 1) then eo (okF (aL a.a) a.done a.b true) a.a.bl.length 0 else -1
def Dm (a : AN) : Out (Exit × S) := .ax (decide (0 ≤ ib a)) (.one (.ret, sp 48 [(6, .int (ib a))] [.row 4 (bw a.done)])) (.one (.exit 0, sp 48 [] [.row 4 (bw a.done)]))
theorem IA (a : AN) (h : a.rd = 0 ∨ a.rd = 1) : (0 ≤ mz { a with k := 0 } → ib a = mz { a with k := 0 }) ∧ (¬ 0 ≤ mz { a with k := 0 } → ib a = ib { a with rd := a.rd + 1 }) := by
 obtain ⟨a, done, b, rd, k⟩ := a
 have hb : (aL a).body.length = a.bl.length := fo a
 rcases h with h | h
 ·simp only at h
  subst h
  have e1 : mz ⟨a, done, b, 0, 0⟩ = eo (okF (aL a) done b false) a.bl.length 0 := rfl
  have e2 : ib ⟨a, done, b, 0, k⟩ = cR (aL a) done b := rfl
  have e3 : ib ⟨a, done, b, 0 + 1, k⟩ = eo (okF (aL a) done b true) a.bl.length 0 := rfl
  simp only
  rw [e1, e2, e3, cR, hb]
  refine ⟨fun h => by rw [aa6 h]; rfl, fun h => by rw [aa4 h]; rfl⟩
 ·simp only at h
  subst h
  have e1 : mz ⟨a, done, b, 1, 0⟩ = eo (okF (aL a) done b true) a.bl.length 0 := rfl
  have e2 : ib ⟨a, done, b, 1, k⟩ = eo (okF (aL a) done b true) a.bl.length 0 := rfl
  have e3 : ib ⟨a, done, b, 1 + 1, k⟩ = -1 := rfl
  simp only
  rw [e1, e2, e3]
  refine ⟨fun _ => rfl, fun h => ?_⟩
  rcases rr (okF (aL a) done b true) a.bl.length 0 with h2 | h2
  ·exact h2
  ·exact absurd h2 h
theorem lN2 (κ : Kp) : bg (KD κ) 12 107 2 (aK 1 PW H5 Dm) := by
 refine aO (fun a => 2 - a.rd.toNat) ?_
 rintro a K ⟨h1, h2, h3⟩ ho
 rw [show (KD κ).P = Pr κ from rfl]
 refine Eq.mpr (VK κ a _ _ K) ?_
 simp only [Dm, Out.run, af] at ho
 rw [af, aa0, aa2]
 refine ⟨fun hi => ?_, fun hi => ?_⟩
 ·have hg := IA a (by omega)
  refine ⟨rfl, { a with k := 0 }, rfl, ⟨h1, by simp only; omega, by simp only; omega⟩, ?_⟩
  rw [af, aa0, aa2]
  refine ⟨fun e => ?_, fun e => ?_⟩
  ·rw [← hg.1 e]
   exact ho.1 (aa6 (by rw [hg.1 e]; exact e))
  ·rw [hg.2 e] at ho
   simp only
   rw [aU (n := a.rd + 1) (by omega) (by omega)]
   refine ⟨_, ?_, { a with rd := a.rd + 1 }, rfl, ⟨h1, by simp only; omega, by simp only; omega⟩, rfl, ?_⟩
   ·simp only; omega
   ·simp only [Dm, Out.run, af]
    exact ho
 ·have e : ib a = -1 := by
   unfold ib
   rw [aa4 (show ¬ a.rd = 0 by omega), aa4 (show ¬ a.rd = 1 by omega)]; rfl
  rw [e] at ho
  exact ho.2 rfl
noncomputable def OG (κ : Kp) : Env := (KD κ).aj 107 2 (aK 1 PW H5 Dm)
theorem W5 (κ : Kp) : aw (OG κ) := (WB κ).aj (UG κ) (lN2 κ)
theorem Va (κ : Kp) : ai (OG κ) := (UG κ).aj aE
theorem yN (κ : Kp) (a : AN) (K : AV → List Dn.Obj → Prop) : (a9 (OG κ) 12 107 [aF a.a, .a7 0 0 (bw a.done).length, .ae 9 (strs a.b)] [.row 4 (bw a.done)] K) = (
 letI z1 := Pg.toProgram (Env.P (KD κ))
 ag z1 107 2 = ag z1 107 2 ∧ ∃ (a_1 : AN), sp 48 [(1, AV.a7 0 0 (List.length (bw a.done))), (2, AV.ae 9 (strs a.b)), (3, AV.ptr 1 0 [] 0), (7, AV.int 0)]
 [Obj.row 4 (bw a.done), Obj.box 41 (AV.agg [AV.agg [AV.str (a.a.rel), AV.ae 52 (a.a.hl)], AV.ae 55 (a.a.bl), AV.int (a.a.line)])] = sp 48 [(1, AV.a7 0 0
 (List.length (bw a_1.done))), (2, AV.ae 9 (strs a_1.b)), (3, AV.ptr 1 0 [] 0), (7, AV.int a_1.rd)] [Obj.row 4 (bw a_1.done), Obj.box 41 (AV.agg [AV.agg [AV.str
 (a_1.a.rel), AV.ae 52 (a_1.a.hl)], AV.ae 55 (a_1.a.bl), AV.int (a_1.a.line)])] ∧ (((aH (aa (aX 52 (a_1.a.hl) (a_1.a.bl))) ≤ 100000 ∧ List.length (a_1.a.bl) ≤
 100000) ∧ a_1.done.length = List.length (a_1.a.bl) ∧ a_1.b.length ≤ 1000000) ∧ (0 : Int) ≤ a_1.rd ∧ a_1.rd ≤ (2 : Int)) ∧ ax (decide ((0 : Int) ≤ ib a_1)) (K
 (AV.int (ib a_1)) [Obj.row 4 (bw a_1.done)]) (K (AV.int (-1)) [Obj.row 4 (bw a_1.done)])) := by kernel_rfl
def UY (a : AN) : List AV × List Dn.Obj := ([aF a.a, .a7 0 0 (bw a.done).length, .ae 9 (strs a.b)], [.row 4 (bw a.done)])
def QB (a : AN) : Out (AV × List Dn.Obj) := .one (.int (cR (aL a.a) a.done a.b), [.row 4 (bw a.done)])
theorem Jk (r : Rl) (done : List Bool) (b : List ByteArray) : cR r done b = -1 ∨ 0 ≤ cR r done b := by
 unfold cR
 cases h : decide (0 ≤ eo (okF r done b false) r.body.length 0) with
 | true => rw [aa7]; right; simpa using h
 | false => rw [aa5]; exact rr _ _ _
theorem cN (κ : Kp) : bJ (OG κ) 12 107 (a8 UY DD QB) := by
 refine bh ?_
 rintro a K h1 ho
 refine Eq.mpr (yN κ a K) ?_
 have ho' : K (.int (cR (aL a.a) a.done a.b)) [.row 4 (bw a.done)] := ho
 have e : ib { a with rd := 0 } = cR (aL a.a) a.done a.b := rfl
 refine ⟨rfl, { a with rd := 0 }, rfl, ⟨h1, by simp only; omega, by simp only; omega⟩, ?_⟩
 rw [af, aa0, aa2, e]
 refine ⟨fun _ => ho', fun h => ?_⟩
 rcases Jk (aL a.a) a.done a.b with h2 | h2
 ·rw [h2] at ho'; exact ho'
 ·exact absurd h2 h
noncomputable def EN (κ : Kp) : Env := (OG κ).ar 107 (a8 UY DD QB)
theorem eN (κ : Kp) : aw (EN κ) := (W5 κ).ar (Va κ) (cN κ)
theorem mN (κ : Kp) : ai (EN κ) := (Va κ).ar aJ
theorem Z1 (κ : Kp) (a : b5) (n0 : Int) (done l b : List AV) (I : Nat → S → Prop) (n : Nat) (K : Exit → S → Prop) : (vc (EN κ) 12 66 none 0 (ag (Pr κ).toProgram 66 4) (sp 39 [(1, .int n0), (2, .ptr 0 0 [] 0), (7, .a7 1 0 done.length), (8, .a7 2 0 l.length), (9, .ae 9 b)] [.box 41 (aF a), .row 4 done, .row 3 l]) (bC (EN κ) 66 4 0 I n K)) = (
 ax (decide ((↑(l.length) : Int) < n0)) (∃ (a_1 : AN), ([aF a, AV.a7 0 0 done.length, AV.ae 9 b], [Obj.row 4 done]) = ([AV.agg [AV.agg [AV.str (a_1.a.rel),
 AV.ae 52 (a_1.a.hl)], AV.ae 55 (a_1.a.bl), AV.int (a_1.a.line)], AV.a7 0 0 (List.length (bw a_1.done)), AV.ae 9 (strs a_1.b)], [Obj.row 4 (bw
 a_1.done)]) ∧ ((aH (aa (aX 52 (a_1.a.hl) (a_1.a.bl))) ≤ 100000 ∧ List.length (a_1.a.bl) ≤ 100000) ∧ a_1.done.length = List.length (a_1.a.bl) ∧
 a_1.b.length ≤ 1000000) ∧ ax (decide (cR (aL a_1.a) a_1.done a_1.b < (0 : Int))) (K Exit.ret (sp 39 [(4, AV.nil), (5, AV.nil), (6, AV.bool false)] []))
 (aZ (decide ((l.length + 1 + 1) * 9 ≤ 70368744177664)) (aZ (decide ((0 : Int) ≤ cR (aL a_1.a) a_1.done a_1.b) && decide (cR (aL a_1.a) a_1.done a_1.b
 < (↑(done.length) : Int))) (∃ (a_2 : AP), ([aF a, AV.int (cR (aL a_1.a) a_1.done a_1.b)], az) = ([aF a_2.1, AV.int a_2.2], az) ∧ ((aH (aa
 (aX 52 a_2.1.hl a_2.1.bl)) ≤ 100000 ∧ a_2.1.bl.length ≤ 100000) ∧ (0 : Int) ≤ a_2.2 ∧ a_2.2 < (↑(a_2.1.bl.length) : Int)) ∧ ∃ (a_3 : List ByteArray × List
 ByteArray), ([AV.ae 9 b, AV.ae 9 (strs (gH (aL a_2.1) a_2.2.toNat))], az) = ([AV.ae 9 (strs a_3.1), AV.ae 9 (strs a_3.2)], az) ∧ (a_3.1.length ≤
 1000000 ∧ a_3.2.length ≤ 1000000) ∧ ∃ (m : Nat), m < n ∧ I m (sp 39 [(1, AV.int n0), (2, AV.ptr 0 0 [] 0), (7, AV.a7 1 0 done.length), (8, AV.a7 2 0
 (l.length + 1)), (9, AV.ae 9 (strs (bH a_3.1 a_3.2)))] [Obj.box 41 (aF a), Obj.row 4 (cC (bw a_1.done) (0 + Int.toNat (cR (aL a_1.a) a_1.done
 a_1.b)) (AV.bool true)), Obj.row 3 (List.take l.length l ++ [AV.int (cR (aL a_1.a) a_1.done a_1.b)])]))))) (K (Exit.exit 0) (sp 39 [(8, AV.a7 0 0
 l.length), (9, AV.ae 9 b)] [Obj.row 3 l]))) := by kernel_rfl
structure Px where
 a : b5
 n0 : Int
 done : List Bool
 l : List Nat
 b : List ByteArray
abbrev M0 (a : Px) : S := sp 39 [(1, .int a.n0), (2, .ptr 0 0 [] 0), (7, .a7 1 0 (bw a.done).length), (8, .a7 2 0 (ints a.l).length), (9, .ae 9 (strs a.b))] [.box 41 (aF a.a), .row 4 (bw a.done), .row 3 (ints a.l)]
def I8 (a : Px) : Prop := aG (aL a.a) = true ∧ bZ a.a ∧ a.done.length = a.a.bl.length ∧ a.b.Nodup ∧ (∀ s, s ∈ a.b → s ∈ cr (aL a.a)) ∧ a.n0 ≤ a.a.bl.length ∧ (a.l.length : Int) ≤ a.n0
def Cl (a : Px) : Option (List Nat × List ByteArray) := jk (aL a.a) (a.n0.toNat - a.l.length) a.done a.b
def wl (w : Option (List Nat × List ByteArray)) : List Nat := (w.map Prod.fst).getD []
def wd (w : Option (List Nat × List ByteArray)) : List ByteArray := (w.map Prod.snd).getD []
def DG (a : Px) : Out (Exit × S) := .ax (Cl a).isSome (.one (.exit 0, sp 39 [(8, .a7 0 0 (ints (a.l ++ wl (Cl a))).length), (9, .ae 9 (strs (wd (Cl a))))] [.row 3 (ints (a.l ++ wl (Cl a)))]))
 (.one (.ret, sp 39 [(4, .nil), (5, .nil), (6, .bool false)] []))
theorem rJ : ∀ {l m : List ByteArray}, l.Nodup → (∀ s, s ∈ l → s ∈ m) → l.length ≤ m.length
 | [], _, _, _ => Nat.zero_le _
 | x :: l, m, h, hs => by
  have h1 := List.nodup_cons.1 h
  have := rJ (l := l) (m := m.erase x) h1.2 fun s hs2 => (List.mem_erase_of_ne (fun (e : s = x) => h1.1 (by rw [← e]; exact hs2))).2 (hs s (List.mem_cons_of_mem _ hs2))
  have hx := hs x ab3
  rw [List.length_erase_of_mem hx] at this
  have := List.length_pos_of_mem hx
  rw [List.length_cons]; omega
theorem oZ : ∀ (m o : List ByteArray), o.Nodup → (bH o m).Nodup
 | [], _, h => h
 | s :: m, o, h => by
  rw [fY]
  refine oZ m _ ?_
  unfold pE
  cases e : o.contains s with
  | true => exact h
  | false =>
   rw [aa5]
   refine List.nodup_append.2 ⟨h, by simp, fun a ha b hb e2 => ?_⟩
   rw [List.mem_singleton] at hb
   subst hb; subst e2
   rw [List.contains_iff_mem.2 ha] at e; cases e
theorem lI {a : b5} (h : bZ a) : (cr (aL a)).length ≤ 100000 := by
 have h6 := cq (aa (aX 52 a.hl a.bl))
 rw [jh 52 a.rel a.hl a.bl] at h6
 have h7 := jV (cQ (aL a)) []
 rw [nC]
 unfold bq
 cases aG (aL a)
 ·exact Nat.zero_le _
 ·rw [aa7]; exact Nat.le_trans h7 (Nat.le_trans h6 h.1)
theorem Cb {a : b5} (h : bZ a) {k : Nat} (hk : k < a.bl.length) : (gH (aL a) k).length ≤ 200000 := by
 have hlit : dC (bz (nth a.bl k)) ≤ 100000 := fj h hk
 have hb : (bj (aL a).body k) = bz (nth a.bl k) := fM a.bl hk
 have hc := y9 (bz (nth a.bl k))
 have h1 := Tm.jv (bz (nth a.bl k)).x
 have h2 := dK (bz (nth a.bl k)).x.rv (fF (aL a) k)
 have h3 : (fF (aL a) k).length ≤ 100000 := Nat.le_trans (List.length_filter_le _ _) (lI h)
 have h4 := jj (bz (nth a.bl k))
 simp only [aH] at hc
 unfold gH
 rw [hb]
 cases decide ((bz (nth a.bl k)).op ≥ 7) with
 | true => rw [aa7]; omega
 | false => rw [aa5]; omega
theorem uX {a : b5} (hr : aG (aL a) = true) {k : Nat} (hk : k < a.bl.length) {s : ByteArray} (h : s ∈ gH (aL a) k) : s ∈ cr (aL a) := by
 rw [nC, iK hr, cQ, List.mem_append]
 exact .inr (HN (by rw [fo]; exact hk) (FX ((vE hr k s).1 h)))
theorem Be {r : Rl} (hr : aG r = true) (done : List Bool) (b : List ByteArray) (h : ¬ cR r done b < 0) : 0 ≤ cR r done b ∧ (cR r done b).toNat < r.body.length := by
 rw [zW hr (fun _ => Iff.rfl)] at h ⊢
 rcases vn r done b with e | ⟨e1, e2, _⟩
 ·omega
 ·exact ⟨e1, e2⟩
theorem EY (x : List Nat × List ByteArray) : wl (some x) = x.1 := rfl
theorem Dw (x : List Nat × List ByteArray) : wd (some x) = x.2 := rfl
theorem lWk (κ : Kp) : bg (EN κ) 12 66 4 (aK 0 M0 I8 DG) := by
 refine aO (fun a => a.n0.toNat - a.l.length) ?_
 rintro ⟨a, n0, done, l, b⟩ K ⟨h1, h2, h3, h4, h5, h6, h7⟩ ho
 simp only at h1 h2 h3 h4 h5 h6 h7
 rw [show (EN κ).P = Pr κ from rfl]
 refine Eq.mpr (Z1 κ a n0 (bw done) (ints l) (strs b) _ _ K) ?_
 simp only [DG, Out.run, af] at ho
 have hl := h2.2
 have hb := rJ h4 h5
 have hv := lI h2
 rw [af, aa0, aa2, je]
 refine ⟨fun hi => ⟨⟨a, done, b, 0, 0⟩, rfl, ⟨h2, h3, by simp only; omega⟩, ?_⟩, fun hi => ?_⟩
 ·have hw : Cl ⟨a, n0, done, l, b⟩ = bif decide (cR (aL a) done b < 0) then none else (jk (aL a) (n0.toNat - (l.length + 1)) (done.set (cR (aL a) done b).toNat true) (bH b (gH (aL a) (cR (aL a) done b).toNat))).map fun x => ((cR (aL a) done b).toNat :: x.1, x.2) := by
   unfold Cl
   simp only
   rw [show n0.toNat - l.length = (n0.toNat - (l.length + 1)) + 1 by omega, jk]
  simp only
  rw [af, aa0, aa2]
  refine ⟨fun e => ?_, fun e => ?_⟩
  ·rw [hw, aa6 e] at ho
   exact ho.2 rfl
  ·obtain ⟨e1, e2⟩ := Be h1 done b e
   rw [fo] at e2
   have hg := Cb h2 e2
   rw [hw, aa4 e, aa5] at ho
   simp only [aq, aa1, aa0, fk]
   refine ⟨by omega, ⟨e1, by omega⟩, (a, cR (aL a) done b), rfl, ⟨h2, e1, by simp only; omega⟩, (b, gH (aL a) (cR (aL a) done b).toNat), rfl, ⟨by simp only; omega, by simp only; omega⟩, _, ?_,
    ⟨a, n0, done.set (cR (aL a) done b).toNat true, l ++ [(cR (aL a) done b).toNat], bH b (gH (aL a) (cR (aL a) done b).toNat)⟩, ?_, ⟨h1, h2, by simpa using h3, oZ _ _ h4, fun s hs => ?_, h6, by simp only [ab9, List.length_singleton]; omega⟩, rfl, ?_⟩
   ·simp only [ab9, List.length_singleton]; omega
   ·simp only [M0, Nat.zero_add, pj, fk, List.length_set, Bp, je, ab9, List.length_singleton, List.take_of_length_le (show (ints l).length ≤ l.length by rw [je]; omega)]
    rw [show ints [(cR (aL a) done b).toNat] = [.int (cR (aL a) done b)] by simp only [ints, ac2, ac3, Int.toNat_of_nonneg e1]]
   ·rcases jT.1 hs with h | h
    ·exact h5 s h
    ·exact uX h1 e2 h
   ·simp only [DG, Out.run, af]
    unfold Cl
    simp only [ab9, List.length_singleton]
    cases hq : jk (aL a) (n0.toNat - (l.length + 1)) (done.set (cR (aL a) done b).toNat true) (bH b (gH (aL a) (cR (aL a) done b).toNat)) with
    | none => rw [hq] at ho; exact ⟨(fun h => nomatch h), ho.2⟩
    | some x =>
     rw [hq] at ho
     simp only [Option.map_some, EY, Dw] at ho ⊢
     rw [show l ++ [(cR (aL a) done b).toNat] ++ x.1 = l ++ (cR (aL a) done b).toNat :: x.1 by simp]
     exact ho
 ·have e : Cl ⟨a, n0, done, l, b⟩ = some ([], b) := by
   unfold Cl
   simp only
   rw [show n0.toNat - l.length = 0 by omega, jk]
  rw [e] at ho
  simp only [EY, Dw, List.append_nil, je] at ho
  exact ho.1 rfl
noncomputable def GD (κ : Kp) : Env := (EN κ).aj 66 4 (aK 0 M0 I8 DG)
theorem SI (κ : Kp) : aw (GD κ) := (eN κ).aj (mN κ) (lWk κ)
theorem OX (κ : Kp) : ai (GD κ) := (mN κ).aj aE
theorem WN (κ : Kp) (a : b5) (n0 : Int) (K : AV → List Dn.Obj → Prop) : (a9 (GD κ) 12 66 [aF a, .int n0] [] K) = (
 letI z1 := Int.toNat (↑(a.bl.length) : Int)
 letI z2 := Pg.toProgram (Env.P (EN κ))
 aZ (true && decide ((↑(a.bl.length) : Int) ≤ (↑(a.bl.length) : Int)) && decide ((Int.toNat (↑(a.bl.length) : Int) + 1) * 2 ≤ 70368744177664) && true) (ag z2 66
 4 = ag z2 66 4 ∧ ∃ (a_1 : Px), sp 39 [(1, AV.int n0), (2, AV.ptr 0 0 [] 0), (7, AV.a7 1 0 z1), (8, AV.a7 2 0 0), (9, AV.ae 9 [])] [Obj.box 41 (aF a), Obj.row 4
 (eI (AV.bool false) z1), Obj.row 3 []] = sp 39 [(1, AV.int a_1.n0), (2, AV.ptr 0 0 [] 0), (7, AV.a7 1 0 (List.length (bw a_1.done))), (8, AV.a7 2 0 (List.length
 (ints a_1.l))), (9, AV.ae 9 (strs a_1.b))] [Obj.box 41 (AV.agg [AV.agg [AV.str (a_1.a.rel), AV.ae 52 (a_1.a.hl)], AV.ae 55 (a_1.a.bl), AV.int (a_1.a.line)]),
 Obj.row 4 (bw a_1.done), Obj.row 3 (ints a_1.l)] ∧ (aG (aL a_1.a) = true ∧ (aH (aa (aX 52 (a_1.a.hl) (a_1.a.bl))) ≤ 100000 ∧ List.length (a_1.a.bl) ≤ 100000) ∧
 a_1.done.length = List.length (a_1.a.bl) ∧ List.Pairwise (fun (x1 x2 : ByteArray) => x1 ≠ x2) a_1.b ∧ (∀ (s : ByteArray), List.Mem s a_1.b → List.Mem s (cr (aL
 a_1.a))) ∧ a_1.n0 ≤ (↑(List.length (a_1.a.bl)) : Int) ∧ (↑(a_1.l.length) : Int) ≤ a_1.n0) ∧ ax (Option.isSome (Cl a_1)) (K (AV.bR [AV.a7 0 0 (List.length (ints
 (a_1.l ++ wl (Cl a_1)))), AV.ae 9 (strs (wd (Cl a_1))), AV.bool true]) [Obj.row 3 (ints (a_1.l ++ wl (Cl a_1)))]) (K (AV.bR [AV.nil, AV.nil, AV.bool false])
 []))) := by kernel_rfl
def Md (a : AP) : List AV × List Dn.Obj := ([aF a.1, .int a.2], [])
def El (a : AP) : Prop := aG (aL a.1) = true ∧ bZ a.1 ∧ 0 ≤ a.2 ∧ a.2 ≤ a.1.bl.length
def gE (a : AP) : Option (List Nat × List ByteArray) := jk (aL a.1) a.2.toNat (kE (aL a.1)) []
def GY (a : AP) : Out (AV × List Dn.Obj) := .ax (gE a).isSome (.one (.bR [.a7 0 0 (ints (wl (gE a))).length, .ae 9 (strs (wd (gE a))), .bool true], [.row 3 (ints (wl (gE a)))]))
 (.one (.bR [.nil, .nil, .bool false], []))
theorem Wz (κ : Kp) : bJ (GD κ) 12 66 (a8 Md El GY) := by
 refine bh ?_
 rintro ⟨a, n0⟩ K ⟨h1, h2, h3, h4⟩ ho
 simp only at h1 h2 h3 h4
 refine Eq.mpr (WN κ a n0 K) ?_
 have hl := h2.2
 simp only [aq, aa1, aa0, Int.toNat_natCast]
 refine ⟨⟨⟨⟨trivial, by omega⟩, by omega⟩, trivial⟩, trivial, ⟨a, n0, List.replicate a.bl.length false, [], []⟩, ?_, ⟨h1, h2, by simp, List.nodup_nil, (fun s hs => nomatch hs), h4, by simpa using h3⟩, ?_⟩
 ·simp only [ss, fk, List.length_replicate]; rfl
 ·have e : Cl ⟨a, n0, List.replicate a.bl.length false, [], []⟩ = gE (a, n0) := by
   unfold Cl gE kE
   rw [fo]; rfl
  rw [e]
  simp only [List.nil_append]
  exact ho
noncomputable def Pb (κ : Kp) : Env := (GD κ).ar 66 (a8 Md El GY)
theorem Wu (κ : Kp) : aw (Pb κ) := (SI κ).ar (OX κ) (Wz κ)
theorem UL (κ : Kp) : ai (Pb κ) := (OX κ).ar aJ
theorem VL (κ : Kp) (a : b5) (K : AV → List Dn.Obj → Prop) : (a9 (Pb κ) 12 33 [aF a] [] K) = (
 letI z1 := K (AV.bR [AV.nil, AV.int 60]) []
 aZ (decide (a.hl.length ≤ 9223372036854775807) && decide (a.bl.length ≤ 9223372036854775807) && vH a.bl) (ax (!aG {head := { rel := a.rel, l := aa a.hl }, body := bn a.bl }) (K (AV.bR [AV.nil, AV.int 30]) []) (∃ (a_1 : AP), ([AV.agg [AV.agg [AV.str a.rel, AV.ae 52 a.hl], AV.ae 55 a.bl, AV.int a.line], AV.int (↑(a.bl.length) : Int)], az) = ([AV.agg [AV.agg [AV.str a_1.1.rel, AV.ae 52 a_1.1.hl], AV.ae 55 a_1.1.bl, AV.int a_1.1.line], AV.int a_1.2], az) ∧ (aG (aL a_1.1) = true ∧ (aH (aa (aX 52 a_1.1.hl a_1.1.bl)) ≤ 100000 ∧ a_1.1.bl.length ≤ 100000) ∧ (0 : Int) ≤ a_1.2 ∧ a_1.2 ≤ (↑(a_1.1.bl.length) : Int)) ∧ ax (Option.isSome (gE a_1)) (∃ (a_2 : AA), ([AV.agg [AV.str a.rel, AV.ae 52 a.hl]], az) = ([AV.agg [AV.str a_2.1, AV.ae 52 a_2.2]], az) ∧ fQ a_2 ∧ aZ (decide (List.length (strs (dx (AA.at a_2))) ≤ 9223372036854775807) && decide (List.length (strs (wd (gE a_1))) ≤ 9223372036854775807)) (ax (!dN (strs (dx (AA.at a_2))) (strs (wd (gE a_1)))) z1 (K (AV.bR [AV.a7 0 0 (List.length (ints (wl (gE a_1)))), AV.int 0]) [Obj.row 3 (ints (wl (gE a_1)))]))) (∃ (a_2 : AA), ([AV.agg [AV.str a.rel, AV.ae 52 a.hl]], az) = ([AV.agg [AV.str a_2.1, AV.ae 52 a_2.2]], az) ∧ fQ a_2 ∧ aZ (decide (List.length (strs (dx (AA.at a_2))) ≤ 9223372036854775807) && true) z1)))) := by kernel_rfl
theorem HE {a : b5} (hr : aG (aL a) = true) (h2 : bZ a) : ∀ (n : Nat) (done : List Bool) (b : List ByteArray), b.Nodup → (∀ s, s ∈ b → s ∈ cr (aL a)) → (wd (jk (aL a) n done b)).length ≤ 100000
 | 0, done, b, h4, h5 => Nat.le_trans (rJ h4 h5) (lI h2)
 | n + 1, done, b, h4, h5 => by
  rw [jk]
  cases e : decide (cR (aL a) done b < 0) with
  | true => exact Nat.zero_le _
  | false =>
   rw [aa5]
   rw [aa2] at e
   obtain ⟨e1, e2⟩ := Be hr done b e
   rw [fo] at e2
   have := HE hr h2 n (done.set (cR (aL a) done b).toNat true) (bH b (gH (aL a) (cR (aL a) done b).toNat)) (oZ _ _ h4) fun s hs => by
    rcases jT.1 hs with h | h
    ·exact h5 s h
    ·exact uX hr e2 h
   cases hq : jk (aL a) n (done.set (cR (aL a) done b).toNat true) (bH b (gH (aL a) (cR (aL a) done b).toNat)) with
   | none => exact Nat.zero_le _
   | some x => rw [hq] at this; exact this
theorem Gv {a : b5} (hr : aG (aL a) = true) (h2 : bZ a) (n : Int) : (wd (gE (a, n))).length ≤ 100000 := HE hr h2 _ _ _ List.nodup_nil fun _ hs => nomatch hs
theorem cOd (κ : Kp) : bJ (Pb κ) 12 33 (a8 Gq bZ Gy) := by
 refine bh ?_
 rintro a K h2 ho
 refine Eq.mpr (VL κ a K) ?_
 simp only [Gy, Out.run, af] at ho
 have hc := kG h2
 have hl1 := dh (aa a.hl)
 rw [cL] at hl1
 have hl := h2.2
 have ha : fQ (a.rel, a.hl) := hc
 have hal := iv (aa a.hl) []
 simp only [List.length_nil] at hal
 have hr : aG ⟨⟨a.rel, aa a.hl⟩, bn a.bl⟩ = aG (aL a) := rfl
 rw [hr]
 simp only [aq, af, aa1, aa0, Bool.not_eq_true', ab2, AX, aM, and_true]
 refine ⟨⟨⟨by omega, by omega⟩, vv h2⟩, fun e => ho.2 e, fun e => ⟨(a, (a.bl.length : Int)), rfl, ⟨e, h2, by simp only; omega, by simp only; omega⟩, fun e2 => ⟨(a.rel, a.hl), rfl, ha, ⟨?_, ?_⟩, ?_⟩, fun e2 => ⟨(a.rel, a.hl), rfl, ha, ?_, ?_⟩⟩⟩
 ·show (sz (aa a.hl) []).length ≤ _
  omega
 ·have := Gv e h2 (a.bl.length : Int)
  omega
 ·have hs : iw (aL a) = hasB (wd (gE (a, (a.bl.length : Int)))) (dx (AA.at (a.rel, a.hl))) := by
   rw [← Aa e]
   unfold Ez
   have e3 : jk (aL a) (aL a).body.length (kE (aL a)) [] = gE (a, (a.bl.length : Int)) := by
    unfold gE; rw [fo]; rfl
   rw [e3]
   cases hq : gE (a, (a.bl.length : Int)) with
   | none => rw [hq] at e2; cases e2
   | some x => rfl
  rw [← hs]
  refine ⟨fun e4 => (ho.1 e).2 e4, fun e4 => ?_⟩
  have e5 : wl (gE (a, (a.bl.length : Int))) = gw (aL a) := by
   have e3 : gE (a, (a.bl.length : Int)) = jk (aL a) (aL a).body.length (kE (aL a)) [] := by
    unfold gE; rw [fo]; rfl
   rcases po e (aL a).body.length (kE (aL a)) [] [] (fun _ => Iff.rfl) with ⟨h, _⟩ | ⟨d, h, _⟩
   ·rw [e3, h] at e2; cases e2
   ·rw [e3, h]; rfl
  rw [e5, je]
  exact (ho.1 e).1 e4
 ·show (sz (aa a.hl) []).length ≤ _
  omega
 ·refine (ho.1 e).2 ?_
  rw [← Aa e]
  unfold Ez
  have e3 : jk (aL a) (aL a).body.length (kE (aL a)) [] = gE (a, (a.bl.length : Int)) := by
   unfold gE; rw [fo]; rfl
  rw [e3]
  cases hq : gE (a, (a.bl.length : Int)) with
  | none => rfl
  | some x => rw [hq] at e2; cases e2
noncomputable def RK (κ : Kp) : Env := (Pb κ).ar 33 (a8 Gq bZ Gy)
theorem WT (κ : Kp) : aw (RK κ) := (Wu κ).ar (UL κ) (cOd κ)
theorem Xc (κ : Kp) : ai (RK κ) := (UL κ).ar aJ
end Go.Proofs.YtdpmikfheebicaaGreatDoor
