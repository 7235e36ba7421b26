import Derived.Test.YtdpmikfheebicaaGreatDoorDqM3
import Derived.Test.YtdpmikfheebicaaGreatDoorDqM1
import Derived.Test.YtdpmikfheebicaaGreatDoorDqM2
namespace Go.Proofs.YtdpmikfheebicaaGreatDoor
open Go Go.Dn Go.Rl Go.Proofs
attribute [local irreducible] bh vc
set_option maxRecDepth 20000
theorem Wo (κ : Kp) (l : List AV) (s : ByteArray) (i : Int) (I : Nat → S → Prop) (n : Nat) (K : Exit → S → Prop) : (vc (JD κ) 12 171 none 0 (ag (Pr κ).toProgram 171 2) (sp 19 [(0, .ae 9 l), (1, .lit (.string s)), (7, .int l.length), (8, .int i)] []) (bK (JD κ) 171 2 0 I n K)) = (
 aD (decide (i < (↑(l.length) : Int))) (bg (decide ((0 : Int) ≤ i) && decide (i < (↑(l.length) : Int))) (aD (ByteArray.toList s == ByteArray.toList (toStr (nth
 l i.toNat))) (K Exit.ret (sp 19 [(4, AV.int i)] [])) (∃ (m : Nat), m < n ∧ I m (sp 19 [(0, AV.ae 9 l), (1, AV.str s), (7, AV.int (↑(l.length) : Int)), (8,
 AV.int (IntKind.wrap IntKind.i64 (i + (1 : Int))))] [])))) (K (Exit.exit 0) (sp 19 [] []))) := by kernel_rfl
abbrev Nk (a : List AV × ByteArray × Int) : S := sp 19 [(0, .ae 9 a.1), (1, .lit (.string a.2.1)), (7, .int a.1.length), (8, .int a.2.2)] []
def Hf (a : List AV × ByteArray × Int) : Prop := a.1.length ≤ aL ∧ 0 ≤ a.2.2 ∧ a.2.2 ≤ a.1.length
def CE (a : List AV × ByteArray × Int) : Out (Exit × S) := .aD (decide (eK a.2.1 (a.1.drop a.2.2.toNat) a.2.2 ≥ 0)) (.one (.ret, sp 19 [(4, .int (eK a.2.1 (a.1.drop a.2.2.toNat) a.2.2))] [])) (.one (.exit 0, sp 19 [] []))
theorem TU (κ : Kp) : bq (JD κ) 12 171 2 (aO 0 Nk Hf CE) := by
 refine aR (fun a => a.1.length - a.2.2.toNat) ?_
 rintro ⟨l, s, i⟩ K ⟨h1, h2, h3⟩ ho
 simp only at h1 h2 h3
 rw [show (JD κ).P = Pr κ from rfl]
 refine Eq.mpr (Wo κ l s i _ _ K) ?_
 simp only [aL] at h1
 simp only [CE, Out.run, af] at ho
 simp only [af, ax, aa0, aa2, aa1]
 refine ⟨fun hi => ⟨⟨h2, hi⟩, fun e => ?_, fun e => ?_⟩, fun hi => ?_⟩
 ·rw [ab1 (show i.toNat < l.length by omega), ← br l i.toNat (by omega), eK, show kq s (toStr (nth l i.toNat)) = true from e, aa7, aa6 (show i ≥ 0 from h2)] at ho
  exact ho.1 rfl
 ·rw [a8 (n := i + 1) (by omega) (by omega)]
  refine ⟨_, ?_, (l, s, i + 1), rfl, ⟨by simpa [aL] using h1, by simp only; omega, by simp only; omega⟩, rfl, ?_⟩
  ·simp only; omega
  ·rw [ab1 (show i.toNat < l.length by omega), ← br l i.toNat (by omega), eK, show kq s (toStr (nth l i.toNat)) = false from e, aa5] at ho
   simp only [CE, Out.run, af, show (i + 1).toNat = i.toNat + 1 by omega]
   exact ho
 ·rw [aa8 (by omega)] at ho
  exact ho.2 rfl
noncomputable def IG (κ : Kp) : Env := (JD κ).aj 171 2 (aO 0 Nk Hf CE)
theorem Qd (κ : Kp) : ay (IG κ) := (YC κ).aj (Sn κ) (TU κ)
theorem NO (κ : Kp) : ah (IG κ) := (Sn κ).aj aG
theorem VF (κ : Kp) (l : List AV) (s : ByteArray) (K : AV → List Dn.Obj → Prop) : (bh (IG κ) 12 171 [.ae 9 l, .lit (.string s)] [] K) = (
 letI z1 := Pg.toProgram (Env.P (JD κ))
 ag z1 171 2 = ag z1 171 2 ∧ ∃ (a : List AV × ByteArray × Int), sp 19 [(0, AV.ae 9 l), (1, AV.str s), (7, AV.int (↑(l.length) : Int)), (8, AV.int 0)] [] = sp 19
 [(0, AV.ae 9 a.1), (1, AV.str a.2.1), (7, AV.int (↑(a.1.length) : Int)), (8, AV.int a.2.2)] [] ∧ (a.1.length ≤ 9223372036854775807 ∧ (0 : Int) ≤ a.2.2 ∧ a.2.2 ≤
 (↑(a.1.length) : Int)) ∧ aD (decide (eK a.2.1 (List.drop (Int.toNat a.2.2) a.1) a.2.2 ≥ (0 : Int))) (K (AV.int (eK a.2.1 (List.drop (Int.toNat a.2.2) a.1)
 a.2.2)) []) (K (AV.int (-1)) [])) := by kernel_rfl
def PU : List AV → Option (Bool × AV)
 | [.ae 9 l, .lit (.string s)] => some (decide (l.length ≤ aL), .int (eK s l 0))
 | _ => none
theorem sE (s : ByteArray) : ∀ (l : List AV) (i : Int), ¬ eK s l i ≥ 0 → 0 ≤ i → eK s l i = -1
 | [], _, _, _ => rfl
 | a :: l, i, h, h0 => by
  simp only [eK] at h ⊢
  cases e : kq s (toStr a) with
  | true => rw [e] at h; exact absurd h0 h
  | false => rw [e] at h; exact sE s l (i + 1) h (by omega)
theorem Xn (κ : Kp) : cx (IG κ) 12 171 PU := by
 intro args x hh
 unfold PU at hh
 split at hh
 ·rename_i l s
  simp only [aa3, aa9, aa0] at hh
  obtain ⟨h1, rfl⟩ := hh
  refine ⟨_, rfl, rfl, ?_⟩
  refine Eq.mpr (VF κ l s _) ?_
  refine ⟨rfl, (l, s, 0), rfl, ⟨h1, by simp only; omega, by simp only; omega⟩, ?_⟩
  simp only [ab7, ab0, af, aa0, aa2]
  exact ⟨fun _ => trivial, fun e => by rw [sE s l 0 e (by omega)]⟩
 ·cases hh
noncomputable def OF (κ : Kp) : Env := (IG κ).aE 171 PU
theorem XT (κ : Kp) : ay (OF κ) := (Qd κ).aE (NO κ) (Xn κ)
theorem RN (κ : Kp) : ah (OF κ) := (NO κ).aE
theorem Vi (κ : Kp) (l : List AV) (s : ByteArray) (K : AV → List Dn.Obj → Prop) : (bh (OF κ) 12 169 [.ae 9 l, .lit (.string s)] [] K) = (
 bg (decide (l.length ≤ 9223372036854775807)) (K (AV.bool (decide (eK s l (0 : Int) ≥ (0 : Int)))) [])) := by kernel_rfl
def P9 : List AV → Option (Bool × AV)
 | [.ae 9 l, .lit (.string s)] => some (decide (l.length ≤ aL), .bool (decide (eK s l 0 ≥ 0)))
 | _ => none
theorem XE (κ : Kp) : cx (OF κ) 12 169 P9 := by
 intro args x hh
 unfold P9 at hh
 split at hh
 ·rename_i l s
  simp only [aa3, aa9, aa0] at hh
  obtain ⟨h1, rfl⟩ := hh
  refine ⟨_, rfl, rfl, ?_⟩
  refine Eq.mpr (Vi κ l s _) ?_
  rw [ax, aa0]
  exact ⟨h1, rfl⟩
 ·cases hh
noncomputable def NX (κ : Kp) : Env := (OF κ).aE 169 P9
theorem Yr (κ : Kp) : ay (NX κ) := (XT κ).aE (RN κ) (XE κ)
theorem SL (κ : Kp) : ah (NX κ) := (RN κ).aE
theorem Vo (κ : Kp) (a : bQ) (k : Int) (K : AV → List Dn.Obj → Prop) : (bh (NX κ) 12 82 [an a, .int k] [] K) = (
 letI z1 := nth a.bl k.toNat
 letI z2 := ad z1 2
 letI z3 := toInt (ad z2 0)
 letI z4 := toStr (ad z2 1)
 letI z5 := toInt (ad z2 2)
 letI z6 := ai (ad z2 3)
 bg (decide ((0 : Int) ≤ k) && decide (k < (↑(a.bl.length) : Int))) (aD (decide ((7 : Int) ≤ toInt (ad z1 0))) (((∃ (a_1 : List AV), ([AV.ae 52 [AV.agg [AV.int
 z3, AV.str z4, AV.int z5, AV.ae 52 z6]]], aF) = ([AV.ae 52 a_1], aF) ∧ bn a_1 ∧ ∃ (a_2 : bQ × Int), ([an a, AV.int k], aF) = ([an a_2.1, AV.int a_2.2], aF) ∧
 (aM (aI a_2.1) = true ∧ (aX (aa (aV 52 a_2.1.hl a_2.1.bl)) ≤ 100000 ∧ a_2.1.bl.length ≤ 100000) ∧ (0 : Int) ≤ a_2.2 ∧ a_2.2 < (↑(a_2.1.bl.length) : Int)) ∧ bg
 (decide ((List.length (aq (aa a_1)) + List.length (strs (dw (aI a_2.1) a_2.2.toNat)) + 1) * 17 ≤ 70368744177664)) (K (AV.ae 9 (List.take (List.length (aq (aa
 a_1)) + List.length (strs (dw (aI a_2.1) a_2.2.toNat))) (List.drop 0 (List.take (List.length (aq (aa a_1))) (strs (aq (aa a_1))) ++ strs (dw (aI a_2.1)
 a_2.2.toNat))))) [])) ∧ ∃ (a_1 : List AV), ([AV.ae 52 [AV.agg [AV.int z3, AV.str z4, AV.int z5, AV.ae 52 z6]]], aF) = ([AV.ae 52 a_1], aF) ∧ bn a_1 ∧ ∃ (a_2 :
 bQ × Int), ([an a, AV.int k], aF) = ([an a_2.1, AV.int a_2.2], aF) ∧ (aM (aI a_2.1) = true ∧ (aX (aa (aV 52 a_2.1.hl a_2.1.bl)) ≤ 100000 ∧ a_2.1.bl.length ≤
 100000) ∧ (0 : Int) ≤ a_2.2 ∧ a_2.2 < (↑(a_2.1.bl.length) : Int)) ∧ bg (decide ((List.length (aq (aa a_1)) + List.length (strs (dw (aI a_2.1) a_2.2.toNat)) + 1)
 * 17 ≤ 70368744177664)) (K (AV.ae 9 (List.take (List.length (aq (aa a_1)) + List.length (strs (dw (aI a_2.1) a_2.2.toNat))) (List.drop 0 (List.take (List.length
 (aq (aa a_1))) (strs (aq (aa a_1))) ++ strs (dw (aI a_2.1) a_2.2.toNat))))) [])) ∧ ∃ (a_1 : List AV), ([AV.ae 52 [AV.agg [AV.int z3, AV.str z4, AV.int z5, AV.ae
 52 z6]]], aF) = ([AV.ae 52 a_1], aF) ∧ bn a_1 ∧ ∃ (a_2 : bQ × Int), ([an a, AV.int k], aF) = ([an a_2.1, AV.int a_2.2], aF) ∧ (aM (aI a_2.1) = true ∧ (aX (aa
 (aV 52 a_2.1.hl a_2.1.bl)) ≤ 100000 ∧ a_2.1.bl.length ≤ 100000) ∧ (0 : Int) ≤ a_2.2 ∧ a_2.2 < (↑(a_2.1.bl.length) : Int)) ∧ bg (decide ((List.length (aq (aa
 a_1)) + List.length (strs (dw (aI a_2.1) a_2.2.toNat)) + 1) * 17 ≤ 70368744177664)) (K (AV.ae 9 (List.take (List.length (aq (aa a_1)) + List.length (strs (dw
 (aI a_2.1) a_2.2.toNat))) (List.drop 0 (List.take (List.length (aq (aa a_1))) (strs (aq (aa a_1))) ++ strs (dw (aI a_2.1) a_2.2.toNat))))) [])) (∃ (a_1 : LA),
 ([AV.agg [AV.int (toInt (ad z1 0)), AV.agg [AV.str (toStr (ad (ad z1 1) 0)), AV.ae 52 (ai (ad (ad z1 1) 1))], AV.agg [AV.int z3, AV.str z4, AV.int z5, AV.ae 52
 z6], AV.agg [AV.int (toInt (ad (ad z1 3) 0)), AV.str (toStr (ad (ad z1 3) 1)), AV.int (toInt (ad (ad z1 3) 2)), AV.ae 52 (ai (ad (ad z1 3) 3))]]], aF) =
 ([AV.agg [AV.int a_1.op, AV.agg [AV.str a_1.s, AV.ae 52 a_1.l], AV.agg [AV.int a_1.o1, AV.str a_1.s1, AV.int a_1.n1, AV.ae 52 a_1.l1], AV.agg [AV.int a_1.o2,
 AV.str a_1.s2, AV.int a_1.n2, AV.ae 52 a_1.l2]]], aF) ∧ eZ a_1 ∧ K (AV.ae 9 (List.take (List.length (dz (LA.lt a_1))) (List.drop 0 (strs (dz (LA.lt a_1))))))
 []))) := by kernel_rfl
def Lk (a : bQ × Int) : Out (AV × List Dn.Obj) := .one (.ae 9 (strs (cD (aI a.1) a.2.toNat)), [])
theorem CT (l : Lt) : aX [l.x] ≤ ik l := by
 simp only [ik, aX]; omega
theorem Cr (x : AV) : aa [nI 52 (ad x 2)] = [(cj x).x] := by
 simp only [aa, ac0, List.map_nil, oX]; rfl
theorem pJ {a : bQ} (h : dh a) (k : Nat) : (dw (aI a) k).length ≤ 100000 := by
 have h5 : (eB (aI a)).length ≤ 100000 := by
  have h6 := bZ (aa (aV 52 a.hl a.bl))
  rw [im 52 a.rel a.hl a.bl] at h6
  exact Nat.le_trans h6 h.1
 have h7 := kt (eB (aI a)) []
 refine Nat.le_trans (List.length_filter_le _ _) ?_
 unfold cU
 cases aM (aI a)
 ·simp
 ·rw [aa7]; omega
theorem WX (κ : Kp) : bu (NX κ) 12 82 (aW I2 wq Lk) := by
 refine ba ?_
 rintro ⟨a, k⟩ K ⟨h1, h2, h3, h4⟩ ho
 refine Eq.mpr (Vo κ a k K) ?_
 simp only at h1 h2 h3 h4
 have hk : k.toNat < a.bl.length := by omega
 have hlit := jx h2 hk
 have hv := bZ [(cj (nth a.bl k.toNat)).x]
 have hc := CT (cj (nth a.bl k.toNat))
 have ho' : K (.ae 9 (strs (cD (aI a) k.toNat))) [] := ho
 unfold cD at ho'
 rw [show (aI a).body = cu a.bl from rfl, jm _ hk, show (cj (nth a.bl k.toNat)).op = toInt (ad (nth a.bl k.toNat) 0) from rfl] at ho'
 simp only [and_self]
 rw [ax, aa1, aa0, aa0, af, aa0, aa2]
 refine ⟨⟨h3, h4⟩, fun e => ?_, fun e => ?_⟩
 ·rw [aa6 e] at ho'
  refine ⟨[nI 52 (ad (nth a.bl k.toNat) 2)], rfl, by simp only [bn, Cr]; omega, (a, k), rfl, ⟨h1, h2, h3, h4⟩, ?_⟩
  have hol := pJ h2 k.toNat
  simp only [Cr, a9, ab0, cm, ax, aa0]
  refine ⟨by omega, ?_⟩
  rw [← ij, List.take_of_length_le (by simp [a9])]
  exact ho'
 ·rw [aa4 e] at ho'
  refine ⟨qp (nth a.bl k.toNat), rfl, by rw [eZ, dE]; exact hlit, ?_⟩
  simp only [dE, ab0, cm]
  exact ho'
noncomputable def OL (κ : Kp) : Env := (NX κ).au 82 (aW I2 wq Lk)
theorem XF (κ : Kp) : ay (OL κ) := (Yr κ).au (SL κ) (WX κ)
theorem Tn (κ : Kp) : ah (OL κ) := (SL κ).au aH
theorem Yn (κ : Kp) (a : bQ) (k : Int) (es : List (Value × AV)) (K : AV → List Dn.Obj → Prop) : (bh (OL κ) 12 152 [.mp 0, an a, .int k] [.map 9 4 es] K) = (
 letI z1 := Value × AV
 letI z2 := AV.bool false
 letI z3 := (0 : Int)
 letI z4 := K z2 [Dn.Obj.map 9 4 es]
 bg (decide (z3 ≤ k) && decide (k < (↑(a.bl.length) : Int))) (aD (toInt (ad (nth a.bl k.toNat) 0) == (1 : Int)) (∃ (a_1 : ByteArray × List AV), ([AV.agg [AV.str
 (toStr (ad (ad (nth a.bl k.toNat) 1) 0)), AV.ae 52 (ai (ad (ad (nth a.bl k.toNat) 1) 1))]], aF) = ([AV.agg [AV.str a_1.1, AV.ae 52 a_1.2]], aF) ∧ iG a_1 ∧ ∃ (a
 : List AV × List z1), ([AV.mp 0, AV.ae 9 (List.take (List.length (dc (aa a_1.2))) (List.drop 0 (strs (dc (aa a_1.2)))))], [Dn.Obj.map 9 4 es]) = ([AV.mp 0,
 AV.ae 9 a.1], [Dn.Obj.map 9 4 a.2]) ∧ a7 a ∧ K (AV.bool (fh a.2 a.1)) [Dn.Obj.map 9 4 a.2]) (aD (toInt (ad (nth a.bl k.toNat) 0) == (3 : Int)) (∃ (a_1 : TA),
 ([AV.mp 0, AV.agg [AV.int (toInt (ad (ad (nth a.bl k.toNat) 2) 0)), AV.str (toStr (ad (ad (nth a.bl k.toNat) 2) 1)), AV.int (toInt (ad (ad (nth a.bl k.toNat) 2)
 2)), AV.ae 52 (ai (ad (ad (nth a.bl k.toNat) 2) 3))], AV.agg [AV.int (toInt (ad (ad (nth a.bl k.toNat) 3) 0)), AV.str (toStr (ad (ad (nth a.bl k.toNat) 3) 1)),
 AV.int (toInt (ad (ad (nth a.bl k.toNat) 3) 2)), AV.ae 52 (ai (ad (ad (nth a.bl k.toNat) 3) 3))]], [Dn.Obj.map 9 4 es]) = ([AV.mp 0, AV.agg [AV.int a_1.o1,
 AV.str a_1.s1, AV.int a_1.n1, AV.ae 52 a_1.l1], AV.agg [AV.int a_1.o2, AV.str a_1.s2, AV.int a_1.n2, AV.ae 52 a_1.l2]], [Dn.Obj.map 9 4 a_1.es]) ∧ gI a_1 ∧ aD
 (j8 a_1.es (TA.x a_1) (TA.y a_1)) (K (AV.bool true) [Dn.Obj.map 9 4 a_1.es]) (∃ (a_2 : TA), ([AV.mp 0, AV.agg [AV.int (toInt (ad (ad (nth a.bl k.toNat) 3) 0)),
 AV.str (toStr (ad (ad (nth a.bl k.toNat) 3) 1)), AV.int (toInt (ad (ad (nth a.bl k.toNat) 3) 2)), AV.ae 52 (ai (ad (ad (nth a.bl k.toNat) 3) 3))], AV.agg
 [AV.int (toInt (ad (ad (nth a.bl k.toNat) 2) 0)), AV.str (toStr (ad (ad (nth a.bl k.toNat) 2) 1)), AV.int (toInt (ad (ad (nth a.bl k.toNat) 2) 2)), AV.ae 52 (ai
 (ad (ad (nth a.bl k.toNat) 2) 3))]], [Dn.Obj.map 9 4 a_1.es]) = ([AV.mp 0, AV.agg [AV.int a_2.o1, AV.str a_2.s1, AV.int a_2.n1, AV.ae 52 a_2.l1], AV.agg [AV.int
 a_2.o2, AV.str a_2.s2, AV.int a_2.n2, AV.ae 52 a_2.l2]], [Dn.Obj.map 9 4 a_2.es]) ∧ gI a_2 ∧ aD (j8 a_2.es (TA.x a_2) (TA.y a_2)) (K (AV.bool true) [Dn.Obj.map
 9 4 a_2.es]) (∃ (a_3 : LA), ([AV.agg [AV.int (toInt (ad (nth a.bl k.toNat) 0)), AV.agg [AV.str (toStr (ad (ad (nth a.bl k.toNat) 1) 0)), AV.ae 52 (ai (ad (ad
 (nth a.bl k.toNat) 1) 1))], AV.agg [AV.int (toInt (ad (ad (nth a.bl k.toNat) 2) 0)), AV.str (toStr (ad (ad (nth a.bl k.toNat) 2) 1)), AV.int (toInt (ad (ad (nth
 a.bl k.toNat) 2) 2)), AV.ae 52 (ai (ad (ad (nth a.bl k.toNat) 2) 3))], AV.agg [AV.int (toInt (ad (ad (nth a.bl k.toNat) 3) 0)), AV.str (toStr (ad (ad (nth a.bl
 k.toNat) 3) 1)), AV.int (toInt (ad (ad (nth a.bl k.toNat) 3) 2)), AV.ae 52 (ai (ad (ad (nth a.bl k.toNat) 3) 3))]]], aF) = ([AV.agg [AV.int a_3.op, AV.agg
 [AV.str a_3.s, AV.ae 52 a_3.l], AV.agg [AV.int a_3.o1, AV.str a_3.s1, AV.int a_3.n1, AV.ae 52 a_3.l1], AV.agg [AV.int a_3.o2, AV.str a_3.s2, AV.int a_3.n2,
 AV.ae 52 a_3.l2]]], aF) ∧ eZ a_3 ∧ ∃ (a : List AV × List z1), ([AV.mp 0, AV.ae 9 (List.take (List.length (dz (LA.lt a_3))) (List.drop 0 (strs (dz (LA.lt
 a_3)))))], [Dn.Obj.map 9 4 a_2.es]) = ([AV.mp 0, AV.ae 9 a.1], [Dn.Obj.map 9 4 a.2]) ∧ a7 a ∧ K (AV.bool (fh a.2 a.1)) [Dn.Obj.map 9 4 a.2]))) (aD (toInt (ad
 (nth a.bl k.toNat) 0) == (2 : Int)) (∃ (a_1 : LA), ([AV.agg [AV.int (toInt (ad (nth a.bl k.toNat) 0)), AV.agg [AV.str (toStr (ad (ad (nth a.bl k.toNat) 1) 0)),
 AV.ae 52 (ai (ad (ad (nth a.bl k.toNat) 1) 1))], AV.agg [AV.int (toInt (ad (ad (nth a.bl k.toNat) 2) 0)), AV.str (toStr (ad (ad (nth a.bl k.toNat) 2) 1)),
 AV.int (toInt (ad (ad (nth a.bl k.toNat) 2) 2)), AV.ae 52 (ai (ad (ad (nth a.bl k.toNat) 2) 3))], AV.agg [AV.int (toInt (ad (ad (nth a.bl k.toNat) 3) 0)),
 AV.str (toStr (ad (ad (nth a.bl k.toNat) 3) 1)), AV.int (toInt (ad (ad (nth a.bl k.toNat) 3) 2)), AV.ae 52 (ai (ad (ad (nth a.bl k.toNat) 3) 3))]]], aF) =
 ([AV.agg [AV.int a_1.op, AV.agg [AV.str a_1.s, AV.ae 52 a_1.l], AV.agg [AV.int a_1.o1, AV.str a_1.s1, AV.int a_1.n1, AV.ae 52 a_1.l1], AV.agg [AV.int a_1.o2,
 AV.str a_1.s2, AV.int a_1.n2, AV.ae 52 a_1.l2]]], aF) ∧ eZ a_1 ∧ ∃ (a : List AV × List z1), ([AV.mp 0, AV.ae 9 (List.take (List.length (dz (LA.lt a_1)))
 (List.drop 0 (strs (dz (LA.lt a_1)))))], [Dn.Obj.map 9 4 es]) = ([AV.mp 0, AV.ae 9 a.1], [Dn.Obj.map 9 4 a.2]) ∧ a7 a ∧ K (AV.bool (fh a.2 a.1)) [Dn.Obj.map 9 4
 a.2]) (aD (toInt (ad (nth a.bl k.toNat) 0) == (4 : Int)) (∃ (a_1 : LA), ([AV.agg [AV.int (toInt (ad (nth a.bl k.toNat) 0)), AV.agg [AV.str (toStr (ad (ad (nth
 a.bl k.toNat) 1) 0)), AV.ae 52 (ai (ad (ad (nth a.bl k.toNat) 1) 1))], AV.agg [AV.int (toInt (ad (ad (nth a.bl k.toNat) 2) 0)), AV.str (toStr (ad (ad (nth a.bl
 k.toNat) 2) 1)), AV.int (toInt (ad (ad (nth a.bl k.toNat) 2) 2)), AV.ae 52 (ai (ad (ad (nth a.bl k.toNat) 2) 3))], AV.agg [AV.int (toInt (ad (ad (nth a.bl
 k.toNat) 3) 0)), AV.str (toStr (ad (ad (nth a.bl k.toNat) 3) 1)), AV.int (toInt (ad (ad (nth a.bl k.toNat) 3) 2)), AV.ae 52 (ai (ad (ad (nth a.bl k.toNat) 3)
 3))]]], aF) = ([AV.agg [AV.int a_1.op, AV.agg [AV.str a_1.s, AV.ae 52 a_1.l], AV.agg [AV.int a_1.o1, AV.str a_1.s1, AV.int a_1.n1, AV.ae 52 a_1.l1], AV.agg
 [AV.int a_1.o2, AV.str a_1.s2, AV.int a_1.n2, AV.ae 52 a_1.l2]]], aF) ∧ eZ a_1 ∧ ∃ (a : List AV × List z1), ([AV.mp 0, AV.ae 9 (List.take (List.length (dz
 (LA.lt a_1))) (List.drop 0 (strs (dz (LA.lt a_1)))))], [Dn.Obj.map 9 4 es]) = ([AV.mp 0, AV.ae 9 a.1], [Dn.Obj.map 9 4 a.2]) ∧ a7 a ∧ K (AV.bool (fh a.2 a.1))
 [Dn.Obj.map 9 4 a.2]) (aD (toInt (ad (nth a.bl k.toNat) 0) == (5 : Int)) (∃ (a_1 : LA), ([AV.agg [AV.int (toInt (ad (nth a.bl k.toNat) 0)), AV.agg [AV.str
 (toStr (ad (ad (nth a.bl k.toNat) 1) 0)), AV.ae 52 (ai (ad (ad (nth a.bl k.toNat) 1) 1))], AV.agg [AV.int (toInt (ad (ad (nth a.bl k.toNat) 2) 0)), AV.str
 (toStr (ad (ad (nth a.bl k.toNat) 2) 1)), AV.int (toInt (ad (ad (nth a.bl k.toNat) 2) 2)), AV.ae 52 (ai (ad (ad (nth a.bl k.toNat) 2) 3))], AV.agg [AV.int
 (toInt (ad (ad (nth a.bl k.toNat) 3) 0)), AV.str (toStr (ad (ad (nth a.bl k.toNat) 3) 1)), AV.int (toInt (ad (ad (nth a.bl k.toNat) 3) 2)), AV.ae 52 (ai (ad (ad
 (nth a.bl k.toNat) 3) 3))]]], aF) = ([AV.agg [AV.int a_1.op, AV.agg [AV.str a_1.s, AV.ae 52 a_1.l], AV.agg [AV.int a_1.o1, AV.str a_1.s1, AV.int a_1.n1, AV.ae
 52 a_1.l1], AV.agg [AV.int a_1.o2, AV.str a_1.s2, AV.int a_1.n2, AV.ae 52 a_1.l2]]], aF) ∧ eZ a_1 ∧ ∃ (a : List AV × List z1), ([AV.mp 0, AV.ae 9 (List.take
 (List.length (dz (LA.lt a_1))) (List.drop 0 (strs (dz (LA.lt a_1)))))], [Dn.Obj.map 9 4 es]) = ([AV.mp 0, AV.ae 9 a.1], [Dn.Obj.map 9 4 a.2]) ∧ a7 a ∧ K
 (AV.bool (fh a.2 a.1)) [Dn.Obj.map 9 4 a.2]) (aD (toInt (ad (nth a.bl k.toNat) 0) == (6 : Int)) (∃ (a_1 : LA), ([AV.agg [AV.int (toInt (ad (nth a.bl k.toNat)
 0)), AV.agg [AV.str (toStr (ad (ad (nth a.bl k.toNat) 1) 0)), AV.ae 52 (ai (ad (ad (nth a.bl k.toNat) 1) 1))], AV.agg [AV.int (toInt (ad (ad (nth a.bl k.toNat)
 2) 0)), AV.str (toStr (ad (ad (nth a.bl k.toNat) 2) 1)), AV.int (toInt (ad (ad (nth a.bl k.toNat) 2) 2)), AV.ae 52 (ai (ad (ad (nth a.bl k.toNat) 2) 3))],
 AV.agg [AV.int (toInt (ad (ad (nth a.bl k.toNat) 3) 0)), AV.str (toStr (ad (ad (nth a.bl k.toNat) 3) 1)), AV.int (toInt (ad (ad (nth a.bl k.toNat) 3) 2)), AV.ae
 52 (ai (ad (ad (nth a.bl k.toNat) 3) 3))]]], aF) = ([AV.agg [AV.int a_1.op, AV.agg [AV.str a_1.s, AV.ae 52 a_1.l], AV.agg [AV.int a_1.o1, AV.str a_1.s1, AV.int
 a_1.n1, AV.ae 52 a_1.l1], AV.agg [AV.int a_1.o2, AV.str a_1.s2, AV.int a_1.n2, AV.ae 52 a_1.l2]]], aF) ∧ eZ a_1 ∧ ∃ (a : List AV × List z1), ([AV.mp 0, AV.ae 9
 (List.take (List.length (dz (LA.lt a_1))) (List.drop 0 (strs (dz (LA.lt a_1)))))], [Dn.Obj.map 9 4 es]) = ([AV.mp 0, AV.ae 9 a.1], [Dn.Obj.map 9 4 a.2]) ∧ a7 a
 ∧ K (AV.bool (fh a.2 a.1)) [Dn.Obj.map 9 4 a.2]) (aD (toInt (ad (nth a.bl k.toNat) 0) == (7 : Int)) ((∃ (a_1 : bQ × Int), ([an a, AV.int k], aF) = ([an a_1.1,
 AV.int a_1.2], aF) ∧ (aM (aI a_1.1) = true ∧ (aX (aa (aV 52 a_1.1.hl a_1.1.bl)) ≤ 100000 ∧ a_1.1.bl.length ≤ 100000) ∧ z3 ≤ a_1.2 ∧ a_1.2 < (↑(a_1.1.bl.length)
 : Int)) ∧ ∃ (a_2 : List AV × List z1), ([AV.mp 0, AV.ae 9 (strs (dw (aI a_1.1) a_1.2.toNat))], [Dn.Obj.map 9 4 es]) = ([AV.mp 0, AV.ae 9 a_2.1], [Dn.Obj.map 9 4
 a_2.2]) ∧ a7 a_2 ∧ aD (fh a_2.2 a_2.1) (∃ (a_3 : ByteArray × List AV), ([AV.agg [AV.str (toStr (ad (ad (nth a.bl k.toNat) 1) 0)), AV.ae 52 (ai (ad (ad (nth a.bl
 k.toNat) 1) 1))]], aF) = ([AV.agg [AV.str a_3.1, AV.ae 52 a_3.2]], aF) ∧ iG a_3 ∧ ∃ (a : List AV × List z1), ([AV.mp 0, AV.ae 9 (List.take (List.length (dc (aa
 a_3.2))) (List.drop 0 (strs (dc (aa a_3.2)))))], [Dn.Obj.map 9 4 a_2.2]) = ([AV.mp 0, AV.ae 9 a.1], [Dn.Obj.map 9 4 a.2]) ∧ a7 a ∧ K (AV.bool (fh a.2 a.1))
 [Dn.Obj.map 9 4 a.2]) (K z2 [Dn.Obj.map 9 4 a_2.2])) ∧ (∃ (a_1 : bQ × Int), ([an a, AV.int k], aF) = ([an a_1.1, AV.int a_1.2], aF) ∧ (aM (aI a_1.1) = true ∧
 (aX (aa (aV 52 a_1.1.hl a_1.1.bl)) ≤ 100000 ∧ a_1.1.bl.length ≤ 100000) ∧ z3 ≤ a_1.2 ∧ a_1.2 < (↑(a_1.1.bl.length) : Int)) ∧ ∃ (a_2 : List AV × List z1),
 ([AV.mp 0, AV.ae 9 (strs (dw (aI a_1.1) a_1.2.toNat))], [Dn.Obj.map 9 4 es]) = ([AV.mp 0, AV.ae 9 a_2.1], [Dn.Obj.map 9 4 a_2.2]) ∧ a7 a_2 ∧ aD (fh a_2.2 a_2.1)
 (∃ (a_3 : ByteArray × List AV), ([AV.agg [AV.str (toStr (ad (ad (nth a.bl k.toNat) 1) 0)), AV.ae 52 (ai (ad (ad (nth a.bl k.toNat) 1) 1))]], aF) = ([AV.agg
 [AV.str a_3.1, AV.ae 52 a_3.2]], aF) ∧ iG a_3 ∧ ∃ (a : List AV × List z1), ([AV.mp 0, AV.ae 9 (List.take (List.length (dc (aa a_3.2))) (List.drop 0 (strs (dc
 (aa a_3.2)))))], [Dn.Obj.map 9 4 a_2.2]) = ([AV.mp 0, AV.ae 9 a.1], [Dn.Obj.map 9 4 a.2]) ∧ a7 a ∧ K (AV.bool (fh a.2 a.1)) [Dn.Obj.map 9 4 a.2]) (K z2
 [Dn.Obj.map 9 4 a_2.2])) ∧ (∃ (a_1 : bQ × Int), ([an a, AV.int k], aF) = ([an a_1.1, AV.int a_1.2], aF) ∧ (aM (aI a_1.1) = true ∧ (aX (aa (aV 52 a_1.1.hl
 a_1.1.bl)) ≤ 100000 ∧ a_1.1.bl.length ≤ 100000) ∧ z3 ≤ a_1.2 ∧ a_1.2 < (↑(a_1.1.bl.length) : Int)) ∧ ∃ (a_2 : List AV × List z1), ([AV.mp 0, AV.ae 9 (strs (dw
 (aI a_1.1) a_1.2.toNat))], [Dn.Obj.map 9 4 es]) = ([AV.mp 0, AV.ae 9 a_2.1], [Dn.Obj.map 9 4 a_2.2]) ∧ a7 a_2 ∧ aD (fh a_2.2 a_2.1) (∃ (a_3 : ByteArray × List
 AV), ([AV.agg [AV.str (toStr (ad (ad (nth a.bl k.toNat) 1) 0)), AV.ae 52 (ai (ad (ad (nth a.bl k.toNat) 1) 1))]], aF) = ([AV.agg [AV.str a_3.1, AV.ae 52
 a_3.2]], aF) ∧ iG a_3 ∧ ∃ (a : List AV × List z1), ([AV.mp 0, AV.ae 9 (List.take (List.length (dc (aa a_3.2))) (List.drop 0 (strs (dc (aa a_3.2)))))],
 [Dn.Obj.map 9 4 a_2.2]) = ([AV.mp 0, AV.ae 9 a.1], [Dn.Obj.map 9 4 a.2]) ∧ a7 a ∧ K (AV.bool (fh a.2 a.1)) [Dn.Obj.map 9 4 a.2]) (K z2 [Dn.Obj.map 9 4 a_2.2]))
 ∧ ∃ (a_1 : bQ × Int), ([an a, AV.int k], aF) = ([an a_1.1, AV.int a_1.2], aF) ∧ (aM (aI a_1.1) = true ∧ (aX (aa (aV 52 a_1.1.hl a_1.1.bl)) ≤ 100000 ∧
 a_1.1.bl.length ≤ 100000) ∧ z3 ≤ a_1.2 ∧ a_1.2 < (↑(a_1.1.bl.length) : Int)) ∧ ∃ (a_2 : List AV × List z1), ([AV.mp 0, AV.ae 9 (strs (dw (aI a_1.1)
 a_1.2.toNat))], [Dn.Obj.map 9 4 es]) = ([AV.mp 0, AV.ae 9 a_2.1], [Dn.Obj.map 9 4 a_2.2]) ∧ a7 a_2 ∧ aD (fh a_2.2 a_2.1) (∃ (a_3 : ByteArray × List AV),
 ([AV.agg [AV.str (toStr (ad (ad (nth a.bl k.toNat) 1) 0)), AV.ae 52 (ai (ad (ad (nth a.bl k.toNat) 1) 1))]], aF) = ([AV.agg [AV.str a_3.1, AV.ae 52 a_3.2]], aF)
 ∧ iG a_3 ∧ ∃ (a : List AV × List z1), ([AV.mp 0, AV.ae 9 (List.take (List.length (dc (aa a_3.2))) (List.drop 0 (strs (dc (aa a_3.2)))))], [Dn.Obj.map 9 4
 a_2.2]) = ([AV.mp 0, AV.ae 9 a.1], [Dn.Obj.map 9 4 a.2]) ∧ a7 a ∧ K (AV.bool (fh a.2 a.1)) [Dn.Obj.map 9 4 a.2]) (K z2 [Dn.Obj.map 9 4 a_2.2])) ((∃ (a_1 : List
 AV), ([AV.ae 52 (ai (ad (ad (nth a.bl k.toNat) 1) 1))], aF) = ([AV.ae 52 a_1], aF) ∧ bn a_1 ∧ bg (decide (List.length (List.take (List.length (aq (aa a_1)))
 (List.drop 0 (strs (aq (aa a_1))))) ≤ 9223372036854775807)) (aD (decide (eK (toStr (ad (ad (nth a.bl k.toNat) 3) 1)) (List.take (List.length (aq (aa a_1)))
 (List.drop 0 (strs (aq (aa a_1))))) z3 ≥ z3)) (∃ (a_2 : bQ × Int), ([an a, AV.int k], aF) = ([an a_2.1, AV.int a_2.2], aF) ∧ (aM (aI a_2.1) = true ∧ (aX (aa (aV
 52 a_2.1.hl a_2.1.bl)) ≤ 100000 ∧ a_2.1.bl.length ≤ 100000) ∧ z3 ≤ a_2.2 ∧ a_2.2 < (↑(a_2.1.bl.length) : Int)) ∧ ∃ (a_3 : List AV × List z1), ([AV.mp 0, AV.ae 9
 (strs (dw (aI a_2.1) a_2.2.toNat))], [Dn.Obj.map 9 4 es]) = ([AV.mp 0, AV.ae 9 a_3.1], [Dn.Obj.map 9 4 a_3.2]) ∧ a7 a_3 ∧ aD (fh a_3.2 a_3.1) (∃ (a_4 :
 ByteArray × List AV), ([AV.agg [AV.str (toStr (ad (ad (nth a.bl k.toNat) 1) 0)), AV.ae 52 (ai (ad (ad (nth a.bl k.toNat) 1) 1))]], aF) = ([AV.agg [AV.str a_4.1,
 AV.ae 52 a_4.2]], aF) ∧ iG a_4 ∧ ∃ (a : List AV × List z1), ([AV.mp 0, AV.ae 9 (List.take (List.length (dc (aa a_4.2))) (List.drop 0 (strs (dc (aa a_4.2)))))],
 [Dn.Obj.map 9 4 a_3.2]) = ([AV.mp 0, AV.ae 9 a.1], [Dn.Obj.map 9 4 a.2]) ∧ a7 a ∧ K (AV.bool (fh a.2 a.1)) [Dn.Obj.map 9 4 a.2]) (K z2 [Dn.Obj.map 9 4 a_3.2]))
 z4)) ∧ (∃ (a_1 : List AV), ([AV.ae 52 (ai (ad (ad (nth a.bl k.toNat) 1) 1))], aF) = ([AV.ae 52 a_1], aF) ∧ bn a_1 ∧ bg (decide (List.length (List.take
 (List.length (aq (aa a_1))) (List.drop 0 (strs (aq (aa a_1))))) ≤ 9223372036854775807)) (aD (decide (eK (toStr (ad (ad (nth a.bl k.toNat) 3) 1)) (List.take
 (List.length (aq (aa a_1))) (List.drop 0 (strs (aq (aa a_1))))) z3 ≥ z3)) (∃ (a_2 : bQ × Int), ([an a, AV.int k], aF) = ([an a_2.1, AV.int a_2.2], aF) ∧ (aM (aI
 a_2.1) = true ∧ (aX (aa (aV 52 a_2.1.hl a_2.1.bl)) ≤ 100000 ∧ a_2.1.bl.length ≤ 100000) ∧ z3 ≤ a_2.2 ∧ a_2.2 < (↑(a_2.1.bl.length) : Int)) ∧ ∃ (a_3 : List AV ×
 List z1), ([AV.mp 0, AV.ae 9 (strs (dw (aI a_2.1) a_2.2.toNat))], [Dn.Obj.map 9 4 es]) = ([AV.mp 0, AV.ae 9 a_3.1], [Dn.Obj.map 9 4 a_3.2]) ∧ a7 a_3 ∧ aD (fh
 a_3.2 a_3.1) (∃ (a_4 : ByteArray × List AV), ([AV.agg [AV.str (toStr (ad (ad (nth a.bl k.toNat) 1) 0)), AV.ae 52 (ai (ad (ad (nth a.bl k.toNat) 1) 1))]], aF) =
 ([AV.agg [AV.str a_4.1, AV.ae 52 a_4.2]], aF) ∧ iG a_4 ∧ ∃ (a : List AV × List z1), ([AV.mp 0, AV.ae 9 (List.take (List.length (dc (aa a_4.2))) (List.drop 0
 (strs (dc (aa a_4.2)))))], [Dn.Obj.map 9 4 a_3.2]) = ([AV.mp 0, AV.ae 9 a.1], [Dn.Obj.map 9 4 a.2]) ∧ a7 a ∧ K (AV.bool (fh a.2 a.1)) [Dn.Obj.map 9 4 a.2]) (K
 z2 [Dn.Obj.map 9 4 a_3.2])) z4)) ∧ (∃ (a_1 : List AV), ([AV.ae 52 (ai (ad (ad (nth a.bl k.toNat) 1) 1))], aF) = ([AV.ae 52 a_1], aF) ∧ bn a_1 ∧ bg (decide
 (List.length (List.take (List.length (aq (aa a_1))) (List.drop 0 (strs (aq (aa a_1))))) ≤ 9223372036854775807)) (aD (decide (eK (toStr (ad (ad (nth a.bl
 k.toNat) 3) 1)) (List.take (List.length (aq (aa a_1))) (List.drop 0 (strs (aq (aa a_1))))) z3 ≥ z3)) (∃ (a_2 : bQ × Int), ([an a, AV.int k], aF) = ([an a_2.1,
 AV.int a_2.2], aF) ∧ (aM (aI a_2.1) = true ∧ (aX (aa (aV 52 a_2.1.hl a_2.1.bl)) ≤ 100000 ∧ a_2.1.bl.length ≤ 100000) ∧ z3 ≤ a_2.2 ∧ a_2.2 < (↑(a_2.1.bl.length)
 : Int)) ∧ ∃ (a_3 : List AV × List z1), ([AV.mp 0, AV.ae 9 (strs (dw (aI a_2.1) a_2.2.toNat))], [Dn.Obj.map 9 4 es]) = ([AV.mp 0, AV.ae 9 a_3.1], [Dn.Obj.map 9 4
 a_3.2]) ∧ a7 a_3 ∧ aD (fh a_3.2 a_3.1) (∃ (a_4 : ByteArray × List AV), ([AV.agg [AV.str (toStr (ad (ad (nth a.bl k.toNat) 1) 0)), AV.ae 52 (ai (ad (ad (nth a.bl
 k.toNat) 1) 1))]], aF) = ([AV.agg [AV.str a_4.1, AV.ae 52 a_4.2]], aF) ∧ iG a_4 ∧ ∃ (a : List AV × List z1), ([AV.mp 0, AV.ae 9 (List.take (List.length (dc (aa
 a_4.2))) (List.drop 0 (strs (dc (aa a_4.2)))))], [Dn.Obj.map 9 4 a_3.2]) = ([AV.mp 0, AV.ae 9 a.1], [Dn.Obj.map 9 4 a.2]) ∧ a7 a ∧ K (AV.bool (fh a.2 a.1))
 [Dn.Obj.map 9 4 a.2]) (K z2 [Dn.Obj.map 9 4 a_3.2])) z4)) ∧ ∃ (a_1 : List AV), ([AV.ae 52 (ai (ad (ad (nth a.bl k.toNat) 1) 1))], aF) = ([AV.ae 52 a_1], aF) ∧
 bn a_1 ∧ bg (decide (List.length (List.take (List.length (aq (aa a_1))) (List.drop 0 (strs (aq (aa a_1))))) ≤ 9223372036854775807)) (aD (decide (eK (toStr (ad
 (ad (nth a.bl k.toNat) 3) 1)) (List.take (List.length (aq (aa a_1))) (List.drop 0 (strs (aq (aa a_1))))) z3 ≥ z3)) (∃ (a_2 : bQ × Int), ([an a, AV.int k], aF) =
 ([an a_2.1, AV.int a_2.2], aF) ∧ (aM (aI a_2.1) = true ∧ (aX (aa (aV 52 a_2.1.hl a_2.1.bl)) ≤ 100000 ∧ a_2.1.bl.length ≤ 100000) ∧ z3 ≤ a_2.2 ∧ a_2.2 <
 (↑(a_2.1.bl.length) : Int)) ∧ ∃ (a_3 : List AV × List z1), ([AV.mp 0, AV.ae 9 (strs (dw (aI a_2.1) a_2.2.toNat))], [Dn.Obj.map 9 4 es]) = ([AV.mp 0, AV.ae 9
 a_3.1], [Dn.Obj.map 9 4 a_3.2]) ∧ a7 a_3 ∧ aD (fh a_3.2 a_3.1) (∃ (a_4 : ByteArray × List AV), ([AV.agg [AV.str (toStr (ad (ad (nth a.bl k.toNat) 1) 0)), AV.ae
 52 (ai (ad (ad (nth a.bl k.toNat) 1) 1))]], aF) = ([AV.agg [AV.str a_4.1, AV.ae 52 a_4.2]], aF) ∧ iG a_4 ∧ ∃ (a : List AV × List z1), ([AV.mp 0, AV.ae 9
 (List.take (List.length (dc (aa a_4.2))) (List.drop 0 (strs (dc (aa a_4.2)))))], [Dn.Obj.map 9 4 a_3.2]) = ([AV.mp 0, AV.ae 9 a.1], [Dn.Obj.map 9 4 a.2]) ∧ a7 a
 ∧ K (AV.bool (fh a.2 a.1)) [Dn.Obj.map 9 4 a.2]) (K z2 [Dn.Obj.map 9 4 a_3.2])) z4)))))))))) := by kernel_rfl
def NZ (a : bQ × Int × List ByteArray) : List AV × List Dn.Obj := ([.mp 0, an a.1, .int a.2.1], [.map 9 4 (bH a.2.2)])
def FX (a : bQ × Int × List ByteArray) : Prop := aM (aI a.1) = true ∧ dh a.1 ∧ 0 ≤ a.2.1 ∧ a.2.1 < a.1.bl.length
def Lm (a : bQ × Int × List ByteArray) : Out (AV × List Dn.Obj) := .one (.bool (l5 a.2.2 (aI a.1) a.2.1.toNat), [.map 9 4 (bH a.2.2)])
theorem wu (x y : AV) (es : List (Value × AV)) : (TA.mk (toInt (ad x 0)) (toStr (ad x 1)) (toInt (ad x 2)) (ai (ad x 3)) (toInt (ad y 0)) (toStr (ad y 1)) (toInt (ad y 2)) (ai (ad y 3)) es).x = cz x := by rw [cy]; rfl
theorem mf (x y : AV) (es : List (Value × AV)) : (TA.mk (toInt (ad x 0)) (toStr (ad x 1)) (toInt (ad x 2)) (ai (ad x 3)) (toInt (ad y 0)) (toStr (ad y 1)) (toInt (ad y 2)) (ai (ad y 3)) es).y = cz y := by rw [cy]; rfl
def j9 (x y : AV) (es : List (Value × AV)) : TA := TA.mk (toInt (ad x 0)) (toStr (ad x 1)) (toInt (ad x 2)) (ai (ad x 3)) (toInt (ad y 0)) (toStr (ad y 1)) (toInt (ad y 2)) (ai (ad y 3)) es
theorem U8 (κ : Kp) : bu (OL κ) 12 152 (aW NZ FX Lm) := by
 refine ba ?_
 rintro ⟨a, k, b⟩ K ⟨h1, h2, h3, h4⟩ ho
 refine Eq.mpr (Yn κ a k (bH b) K) ?_
 simp only at h1 h2 h3 h4
 have hk : k.toNat < a.bl.length := by omega
 have hlit := jx h2 hk
 have ho' : K (.bool (l5 b (aI a) k.toNat)) [.map 9 4 (bH b)] := ho
 unfold l5 at ho'
 rw [show (aI a).body = cu a.bl from rfl, jm _ hk, show (cj (nth a.bl k.toNat)).op = toInt (ad (nth a.bl k.toNat) 0) from rfl, show (cj (nth a.bl k.toNat)).a.l = aa (ai (ad (ad (nth a.bl k.toNat) 1) 1)) from rfl,
  show (cj (nth a.bl k.toNat)).x = cz (ad (nth a.bl k.toNat) 2) from rfl, show (cj (nth a.bl k.toNat)).y = cz (ad (nth a.bl k.toNat) 3) from rfl] at ho'
 have hlc : ik (cj (nth a.bl k.toNat)) = aX [cz (ad (nth a.bl k.toNat) 2), cz (ad (nth a.bl k.toNat) 3)] + aX (aa (ai (ad (ad (nth a.bl k.toNat) 1) 1))) := rfl
 have hcl : aX (aa (ai (ad (ad (nth a.bl k.toNat) 1) 1))) ≤ 100000 := by omega
 have hcx : aX [cz (ad (nth a.bl k.toNat) 2)] ≤ 100000 ∧ aX [cz (ad (nth a.bl k.toNat) 3)] ≤ 100000 := by
  simp only [aX] at hlc ⊢; omega
 have hvl := bZ (aa (ai (ad (ad (nth a.bl k.toNat) 1) 1)))
 have hrl := yW (aa (ai (ad (ad (nth a.bl k.toNat) 1) 1)))
 have hol := pJ h2 k.toNat
 have hll : (dz (cj (nth a.bl k.toNat))).length ≤ 100000 := by
  have e1 := bZ [(cj (nth a.bl k.toNat)).x, (cj (nth a.bl k.toNat)).y]
  have e2 := bZ (cj (nth a.bl k.toNat)).a.l
  simp only [dz, ik, ab8] at hlit ⊢; omega
 simp only [and_self]
 rw [ax, aa1, aa0, aa0]
 refine ⟨⟨h3, h4⟩, ?_⟩
 rw [af, beq_iff_eq, beq_eq_false_iff_ne]
 refine ⟨fun e1 => ?_, fun e1 => ?_⟩
 ·rw [aa6 e1, aa7] at ho'
  refine ⟨(toStr (ad (ad (nth a.bl k.toNat) 1) 0), ai (ad (ad (nth a.bl k.toNat) 1) 1)), rfl, hcl, (strs (dc (aa (ai (ad (ad (nth a.bl k.toNat) 1) 1)))), bH b), by simp only [ab0, cm], by simp only [a7, a9, aL]; omega, ?_⟩
  simp only [dY]; exact ho'
 rw [aa4 e1, aa5] at ho'
 rw [af, beq_iff_eq, beq_eq_false_iff_ne]
 refine ⟨fun e2 => ?_, fun e2 => ?_⟩
 ·rw [aa6 e2, aa7] at ho'
  refine ⟨j9 (ad (nth a.bl k.toNat) 2) (ad (nth a.bl k.toNat) 3) (bH b), rfl, by unfold gI j9; rw [mf]; exact hcx.2, ?_⟩
  unfold j9
  rw [wu, mf, mS]
  rw [af]
  refine ⟨fun f1 => by rw [f1] at ho'; exact ho', fun f1 => ?_⟩
  rw [f1, Bool.false_or] at ho'
  refine ⟨j9 (ad (nth a.bl k.toNat) 3) (ad (nth a.bl k.toNat) 2) (bH b), rfl, by unfold gI j9; rw [mf]; exact hcx.1, ?_⟩
  unfold j9
  rw [wu, mf, mS, af]
  refine ⟨fun f2 => by rw [f2] at ho'; exact ho', fun f2 => ?_⟩
  rw [f2, Bool.false_or] at ho'
  exact ⟨qp (nth a.bl k.toNat), rfl, by rw [eZ, dE]; exact hlit, (strs (dz (qp (nth a.bl k.toNat)).lt), bH b), by simp only [ab0, cm], by simp only [a7, a9, aL]; rw [dE]; omega, by simp only [dY, dE]; exact ho'⟩
 rw [aa4 e2, aa5] at ho'
 rw [af, beq_iff_eq, beq_eq_false_iff_ne]
 refine ⟨fun e3 => ?_, fun e3 => ?_⟩
 ·rw [aa6 e3] at ho'
  simp only [Bool.true_or, Bool.or_true, aa7] at ho'
  exact ⟨qp (nth a.bl k.toNat), rfl, by rw [eZ, dE]; exact hlit, (strs (dz (qp (nth a.bl k.toNat)).lt), bH b), by simp only [ab0, cm], by simp only [a7, a9, aL]; rw [dE]; omega, by simp only [dY, dE]; exact ho'⟩
 rw [af, beq_iff_eq, beq_eq_false_iff_ne]
 refine ⟨fun e4 => ?_, fun e4 => ?_⟩
 ·rw [aa6 e4] at ho'
  simp only [Bool.true_or, Bool.or_true, aa7] at ho'
  exact ⟨qp (nth a.bl k.toNat), rfl, by rw [eZ, dE]; exact hlit, (strs (dz (qp (nth a.bl k.toNat)).lt), bH b), by simp only [ab0, cm], by simp only [a7, a9, aL]; rw [dE]; omega, by simp only [dY, dE]; exact ho'⟩
 rw [af, beq_iff_eq, beq_eq_false_iff_ne]
 refine ⟨fun e5 => ?_, fun e5 => ?_⟩
 ·rw [aa6 e5] at ho'
  simp only [Bool.true_or, Bool.or_true, aa7] at ho'
  exact ⟨qp (nth a.bl k.toNat), rfl, by rw [eZ, dE]; exact hlit, (strs (dz (qp (nth a.bl k.toNat)).lt), bH b), by simp only [ab0, cm], by simp only [a7, a9, aL]; rw [dE]; omega, by simp only [dY, dE]; exact ho'⟩
 rw [af, beq_iff_eq, beq_eq_false_iff_ne]
 refine ⟨fun e6 => ?_, fun e6 => ?_⟩
 ·rw [aa6 e6] at ho'
  simp only [Bool.true_or, Bool.or_true, aa7] at ho'
  exact ⟨qp (nth a.bl k.toNat), rfl, by rw [eZ, dE]; exact hlit, (strs (dz (qp (nth a.bl k.toNat)).lt), bH b), by simp only [ab0, cm], by simp only [a7, a9, aL]; rw [dE]; omega, by simp only [dY, dE]; exact ho'⟩
 rw [aa4 e3, aa4 e4, aa4 e5, aa4 e6] at ho'
 simp only [Bool.false_or, aa5] at ho'
 rw [af, beq_iff_eq, beq_eq_false_iff_ne]
 refine ⟨fun e7 => ?_, fun e7 => ?_⟩
 ·rw [aa6 e7, Bool.true_or, ab9] at ho'
  refine ⟨(a, k), rfl, ⟨h1, h2, h3, h4⟩, (strs (dw (aI a) k.toNat), bH b), rfl, by simp only [a7, a9, aL]; omega, af.2 ⟨fun f1 => ⟨(toStr (ad (ad (nth a.bl k.toNat) 1) 0), ai (ad (ad (nth a.bl k.toNat) 1) 1)), rfl, hcl, (strs (dc (aa (ai (ad (ad (nth a.bl k.toNat) 1) 1)))), bH b), by simp only [ab0, cm], by simp only [a7, a9, aL]; omega, ?_⟩, fun f1 => ?_⟩⟩
  ·rw [dY] at f1
   simp only [dY]
   rw [f1, ab9] at ho'; exact ho'
  ·rw [dY] at f1
   rw [f1, Bool.false_and] at ho'; exact ho'
 ·rw [aa4 e7, Bool.false_or] at ho'
  refine ⟨_, rfl, hcl, ?_⟩
  have hp := vO (toStr (ad (ad (nth a.bl k.toNat) 3) 1)) (aq (aa (ai (ad (ad (nth a.bl k.toNat) 1) 1)))) 0 (by omega)
  have hs : (cz (ad (nth a.bl k.toNat) 3)).s = toStr (ad (ad (nth a.bl k.toNat) 3) 1) := by rw [cy]; rfl
  simp only [ab0, cm, a9, hp]
  rw [ax, aa0, af]
  rw [hs] at ho'
  refine ⟨by omega, fun e8 => ?_, fun e8 => ?_⟩
  ·rw [e8, ab9] at ho'
   refine ⟨(a, k), rfl, ⟨h1, h2, h3, h4⟩, (strs (dw (aI a) k.toNat), bH b), rfl, by simp only [a7, a9, aL]; omega, af.2 ⟨fun f1 => ⟨(toStr (ad (ad (nth a.bl k.toNat) 1) 0), ai (ad (ad (nth a.bl k.toNat) 1) 1)), rfl, hcl, (strs (dc (aa (ai (ad (ad (nth a.bl k.toNat) 1) 1)))), bH b), by simp only [ab0, cm], by simp only [a7, a9, aL]; omega, ?_⟩, fun f1 => ?_⟩⟩
   ·rw [dY] at f1
    simp only [dY]
    rw [f1, ab9] at ho'; exact ho'
   ·rw [dY] at f1
    rw [f1, Bool.false_and] at ho'; exact ho'
  ·rw [e8, Bool.false_and] at ho'; exact ho'
noncomputable def I9 (κ : Kp) : Env := (OL κ).au 152 (aW NZ FX Lm)
theorem Ud (κ : Kp) : ay (I9 κ) := (XF κ).au (Tn κ) (U8 κ)
theorem RY (κ : Kp) : ah (I9 κ) := (Tn κ).au aH
def bJ (l : List Bool) : List AV := l.map fun b => .lit (.bool b)
theorem gT (l : List Bool) : (bJ l).length = l.length := by simp [bJ]
theorem EO (l : List Bool) (k : Nat) : Dn.toBool (nth (bJ l) k) = Rl.eu l k := by
 unfold Rl.eu
 rw [List.getD_eq_getElem?_getD]
 induction l generalizing k with
 | nil => rfl
 | cons a l ih =>
  cases k with
  | zero => rfl
  | succ k => simpa [bJ, nth] using ih k
structure Fq where
 a : bQ
 done : List Bool
 b : List ByteArray
 i : Int
 first : Int
abbrev Dx (a : Fq) : S := sp 38 [(1, .aB 0 0 (bJ a.done).length), (2, .mp 1), (3, .ptr 2 0 [] 0), (7, .int a.first), (11, .ae 55 a.a.bl), (12, .int a.a.bl.length), (13, .int a.i)] [.row 4 (bJ a.done), .map 9 4 (bH a.b), .box 41 (an a.a)]
theorem U2 (κ : Kp) (a : Fq) (es : List (Value × AV)) (I : Nat → S → Prop) (n : Nat) (K : Exit → S → Prop) : (vc (I9 κ) 12 126 none 2 (ag (Pr κ).toProgram 126 3) (sp 38 [(1, .aB 0 0 (bJ a.done).length), (2, .mp 1), (3, .ptr 2 0 [] 0), (7, .int a.first), (11, .ae 55 a.a.bl), (12, .int a.a.bl.length), (13, .int a.i)] [.row 4 (bJ a.done), .map 9 4 es, .box 41 (an a.a)]) (bK (I9 κ) 126 3 2 I n K)) = (
 letI z1 := IntKind.wrap IntKind.i64 (a.i + (1 : Int))
 letI z2 := bJ a.done
 letI z3 := List.length a.a.bl
 letI z4 := List.length z2
 aD (decide (a.i < (↑z3 : Int))) (bg (decide ((0 : Int) ≤ a.i) && decide (a.i < (↑z3 : Int))) (bg (decide ((0 : Int) ≤ a.i) && decide (a.i < (↑z4 : Int))) (aD
 (Dn.toBool (nth z2 (0 + a.i.toNat))) (∃ (m : Nat), m < n ∧ I m (sp 38 [(1, AV.aB 0 0 z4), (2, AV.mp 1), (3, AV.ptr 2 0 [] 0), (7, AV.int a.first), (11, AV.ae 55
 a.a.bl), (12, AV.int (↑z3 : Int)), (13, AV.int z1)] [Obj.row 4 z2, Dn.Obj.map 9 4 es, Obj.box 41 (an a.a)])) (∃ (a_1 : bQ × Int × List ByteArray), ([AV.mp 0, an
 a.a, AV.int a.i], [Dn.Obj.map 9 4 es]) = ([AV.mp 0, an a_1.1, AV.int a_1.2.1], [Dn.Obj.map 9 4 (bH a_1.2.2)]) ∧ (aM (aI a_1.1) = true ∧ (aX (aa (aV 52 a_1.1.hl
 a_1.1.bl)) ≤ 100000 ∧ a_1.1.bl.length ≤ 100000) ∧ (0 : Int) ≤ a_1.2.1 ∧ a_1.2.1 < (↑(a_1.1.bl.length) : Int)) ∧ aD (!l5 a_1.2.2 (aI a_1.1) a_1.2.1.toNat) (∃ (m
 : Nat), m < n ∧ I m (sp 38 [(1, AV.aB 0 0 z4), (2, AV.mp 1), (3, AV.ptr 2 0 [] 0), (7, AV.int a.first), (11, AV.ae 55 a.a.bl), (12, AV.int (↑z3 : Int)), (13,
 AV.int z1)] [Obj.row 4 z2, Dn.Obj.map 9 4 (bH a_1.2.2), Obj.box 41 (an a.a)])) (aD (toInt (ad (nth a.a.bl a.i.toNat) 0) != (1 : Int)) (K Exit.ret (sp 38 [(6,
 AV.int a.i)] [Obj.row 4 z2, Dn.Obj.map 9 4 (bH a_1.2.2)])) (aD (decide (a.first < (0 : Int))) (∃ (m : Nat), m < n ∧ I m (sp 38 [(1, AV.aB 0 0 z4), (2, AV.mp 1),
 (3, AV.ptr 2 0 [] 0), (7, AV.int a.i), (11, AV.ae 55 a.a.bl), (12, AV.int (↑z3 : Int)), (13, AV.int z1)] [Obj.row 4 z2, Dn.Obj.map 9 4 (bH a_1.2.2), Obj.box 41
 (an a.a)])) (∃ (m : Nat), m < n ∧ I m (sp 38 [(1, AV.aB 0 0 z4), (2, AV.mp 1), (3, AV.ptr 2 0 [] 0), (7, AV.int a.first), (11, AV.ae 55 a.a.bl), (12, AV.int
 (↑z3 : Int)), (13, AV.int z1)] [Obj.row 4 z2, Dn.Obj.map 9 4 (bH a_1.2.2), Obj.box 41 (an a.a)])))))))) (K (Exit.exit 0) (sp 38 [(7, AV.int a.first)] [Obj.row 4
 z2, Dn.Obj.map 9 4 es]))) := by kernel_rfl
def w8 (a : Fq) : Prop := aM (aI a.a) = true ∧ dh a.a ∧ 0 ≤ a.i ∧ a.i ≤ a.a.bl.length ∧ a.done.length = a.a.bl.length
def uU (a : Fq) : Int := kh (aI a.a) a.done a.b (a.a.bl.length - a.i.toNat) a.i.toNat a.first
def As (a : Fq) : Out (Exit × S) := .all (fun _ : Bool => True) fun e => .aD e (.one (.ret, sp 38 [(6, .int (uU a))] [.row 4 (bJ a.done), .map 9 4 (bH a.b)])) (.one (.exit 0, sp 38 [(7, .int (uU a))] [.row 4 (bJ a.done), .map 9 4 (bH a.b)]))
theorem Yv (κ : Kp) : bq (I9 κ) 12 126 3 (aO 2 Dx w8 As) := by
 refine aR (fun a => a.a.bl.length - a.i.toNat) ?_
 rintro ⟨a, done, b, i, first⟩ K ⟨h1, h2, h3, h4, h5⟩ ho
 simp only at h1 h2 h3 h4 h5
 rw [show (I9 κ).P = Pr κ from rfl]
 refine Eq.mpr (U2 κ ⟨a, done, b, i, first⟩ (bH b) _ _ K) ?_
 have ho1 := ho true trivial
 have ho2 := ho false trivial
 simp only [Out.run, aD, uU] at ho1 ho2
 simp only [Nat.zero_add, EO]
 have hbl := gT done
 have hl := h2.2
 rw [af, ax, ax, aa1, aa1, aa0, aa0, aa0, aa2]
 have go : i < a.bl.length → ∀ f : Int, kh (aI a) done b (a.bl.length - i.toNat) i.toNat first = kh (aI a) done b (a.bl.length - (i.toNat + 1)) (i.toNat + 1) f →
   ∃ m, m < a.bl.length - i.toNat ∧ fF Dx w8 As (fun a => a.a.bl.length - a.i.toNat) K m (Dx ⟨a, done, b, i + 1, f⟩) := by
  intro hi f hf
  refine ⟨_, ?_, ⟨a, done, b, i + 1, f⟩, rfl, ⟨h1, h2, by simp only; omega, by simp only; omega, h5⟩, rfl, ?_⟩
  ·simp only; omega
  ·intro e _
   simp only [Out.run, uU, show (i + 1).toNat = i.toNat + 1 by omega, ← hf]
   cases e
   ·exact ho2
   ·exact ho1
 refine ⟨fun hi => ⟨⟨h3, hi⟩, ⟨h3, by omega⟩, ?_⟩, fun hi => ?_⟩
 ·have hn := AN (aI a) done b (a.bl.length - (i.toNat + 1)) i.toNat first
  rw [show a.bl.length - (i.toNat + 1) + 1 = a.bl.length - i.toNat by omega] at hn
  have hk : i.toNat < a.bl.length := by omega
  have hop : (de (aI a).body i.toNat).op = toInt (ad (nth a.bl i.toNat) 0) := by
   rw [show (aI a).body = cu a.bl from rfl, jm _ hk]; rfl
  rw [hop] at hn
  rw [a8 (n := i + 1) (by omega) (by omega), af]
  refine ⟨fun e => go hi first (by rw [hn, e]; rfl), fun e => ⟨(a, i, b), rfl, ⟨h1, h2, h3, hi⟩, ?_⟩⟩
  rw [e, Bool.false_or] at hn
  simp only [af, Bool.not_eq_true', ab2, bne_iff_ne, bne_eq_false_iff_eq, aa0, aa2]
  refine ⟨fun e1 => go hi first (by rw [hn, e1]; rfl), fun e1 => ⟨fun e2 => ?_, fun e2 => ⟨fun e3 => go hi i ?_, fun e3 => go hi first ?_⟩⟩⟩
  ·rw [hn, e1, aa4 e2] at ho1
   simp only [Bool.not_true, aa5, Bool.not_false, aa7, Int.toNat_of_nonneg h3] at ho1
   exact ho1
  ·rw [hn, e1, aa6 e2, aa6 e3]
   simp only [Bool.not_true, aa5, aa7, Int.toNat_of_nonneg h3]
  ·rw [hn, e1, aa6 e2, aa4 e3]
   simp only [Bool.not_true, aa5]
 ·rw [show a.bl.length - i.toNat = 0 by omega] at ho2
  exact ho2
noncomputable def Io (κ : Kp) : Env := (I9 κ).aj 126 3 (aO 2 Dx w8 As)
theorem Qz (κ : Kp) : ay (Io κ) := (Ud κ).aj (RY κ) (Yv κ)
theorem Ny (κ : Kp) : ah (Io κ) := (RY κ).aj aG
theorem Tu (κ : Kp) (a : Fq) (K : AV → List Dn.Obj → Prop) : (bh (Io κ) 12 126 [an a.a, .aB 0 0 (bJ a.done).length, .mp 1] [.row 4 (bJ a.done), .map 9 4 (bH a.b)] K) = (
 letI z1 := Pg.toProgram (Env.P (I9 κ))
 ag z1 126 3 = ag z1 126 3 ∧ ∃ (a_1 : Fq), sp 38 [(1, AV.aB 0 0 (List.length (bJ a.done))), (2, AV.mp 1), (3, AV.ptr 2 0 [] 0), (7, AV.int (-1)), (11, AV.ae 55
 a.a.bl), (12, AV.int (↑(List.length a.a.bl) : Int)), (13, AV.int 0)] [Obj.row 4 (bJ a.done), Dn.Obj.map 9 4 (bH a.b), Obj.box 41 (an a.a)] = sp 38 [(1, AV.aB 0
 0 (List.length (bJ a_1.done))), (2, AV.mp 1), (3, AV.ptr 2 0 [] 0), (7, AV.int a_1.first), (11, AV.ae 55 a_1.a.bl), (12, AV.int (↑(List.length a_1.a.bl) :
 Int)), (13, AV.int a_1.i)] [Obj.row 4 (bJ a_1.done), Dn.Obj.map 9 4 (bH a_1.b), Obj.box 41 (an a_1.a)] ∧ (aM (aI a_1.a) = true ∧ (aX (aa (aV 52 a_1.a.hl
 a_1.a.bl)) ≤ 100000 ∧ List.length a_1.a.bl ≤ 100000) ∧ (0 : Int) ≤ a_1.i ∧ a_1.i ≤ (↑(List.length a_1.a.bl) : Int) ∧ a_1.done.length = List.length a_1.a.bl) ∧ ∀
 (y : Bool), True → aD y (K (AV.int (uU a_1)) [Obj.row 4 (bJ a_1.done), Dn.Obj.map 9 4 (bH a_1.b)]) (K (AV.int (uU a_1)) [Obj.row 4 (bJ a_1.done), Dn.Obj.map 9 4
 (bH a_1.b)])) := by kernel_rfl
def Oo (a : Fq) : List AV × List Dn.Obj := ([an a.a, .aB 0 0 (bJ a.done).length, .mp 1], [.row 4 (bJ a.done), .map 9 4 (bH a.b)])
def HA (a : Fq) : Prop := aM (aI a.a) = true ∧ dh a.a ∧ a.done.length = a.a.bl.length
def Le (a : Fq) : Out (AV × List Dn.Obj) := .one (.int (aC (aI a.a) a.done a.b), [.row 4 (bJ a.done), .map 9 4 (bH a.b)])
theorem gw (a : bQ) : (aI a).body.length = a.bl.length := xQ a.bl
theorem TW (κ : Kp) : bu (Io κ) 12 126 (aW Oo HA Le) := by
 refine ba ?_
 rintro ⟨a, done, b, i, first⟩ K ⟨h1, h2, h5⟩ ho
 refine Eq.mpr (Tu κ ⟨a, done, b, i, first⟩ K) ?_
 simp only at h1 h2 h5
 have ho' : K (.int (aC (aI a) done b)) [.row 4 (bJ done), .map 9 4 (bH b)] := ho
 unfold aC at ho'
 rw [gw] at ho'
 refine ⟨rfl, ⟨a, done, b, 0, -1⟩, rfl, ⟨h1, h2, by simp only; omega, by simp only; omega, h5⟩, ?_⟩
 intro e _
 cases e
 ·exact ho'
 ·exact ho'
noncomputable def Km (κ : Kp) : Env := (Io κ).au 126 (aW Oo HA Le)
theorem V5 (κ : Kp) : ay (Km κ) := (Qz κ).au (Ny κ) (TW κ)
theorem Se (κ : Kp) : ah (Km κ) := (Ny κ).au aH
def ints (l : List Nat) : List AV := l.map fun (k : Nat) => AV.lit (.int .i64 (k : Int))
theorem oM (l : List Nat) : (ints l).length = l.length := by simp [ints]
theorem Hh (l m : List Nat) : ints (l ++ m) = ints l ++ ints m := by simp [ints]
structure OT where
 a : bQ
 ks : List Nat
 done : List Bool
 b : List ByteArray
 i : Int
noncomputable abbrev M0 (a : bQ) (κ : Kp) : Dn.Obj :=
 .loop (gL (Pr κ).toProgram 55 4 .ready none (gy (bG 40) [(0, an a), (1, .ptr 0 0 [] 0), (2, .nil), (3, .lit .nilIface), (4, .ptr 1 0 [] 0), (5, .ptr 3 0 [] 0), (7, .mp 2), (8, an a), (9, .bL 125 [.ptr 4 0 [] 0])]))
noncomputable abbrev Cl (κ : Kp) (a : bQ) (ks : List Nat) (b : List ByteArray) : List Dn.Obj := [.box 41 (an a), .box 48 (.aB 6 0 (ints ks).length), .map 9 4 (bH b), .box 114 (.mp 2), .box 41 (an a), M0 a κ, .row 3 (ints ks)]
noncomputable abbrev Fw (κ : Kp) (a : OT) : S := sp 38 [(0, .ct 5), (1, .ptr 4 0 [] 0), (3, .mp 7), (4, .aB 8 0 (bJ a.done).length), (13, .int a.a.bl.length), (14, .int a.i)] (Cl κ a.a a.ks a.b ++ [.map 9 4 (bH a.b), .row 4 (bJ a.done)])
theorem Vv (κ : Kp) (a : bQ) (ks : List AV) (es es' : List (Value × AV)) (done : List AV) (i : Int) (I : Nat → S → Prop) (n : Nat) (K : Exit → S → Prop) : (vc (Km κ) 12 125 none 6 (ag (Pr κ).toProgram 125 3) (sp 38 [(0, .ct 5), (1, .ptr 4 0 [] 0), (3, .mp 7), (4, .aB 8 0 done.length), (13, .int a.bl.length), (14, .int i)] [.box 41 (an a), .box 48 (.aB 6 0 ks.length), .map 9 4 es, .box 114 (.mp 2), .box 41 (an a), M0 a κ, .row 3 ks, .map 9 4 es', .row 4 done]) (bK (Km κ) 125 3 6 I n K)) = (
 letI z1 := gL Tryz.prog 55 4 LoopState.ready none (gy (bG 40) [(0, an a), (1, AV.ptr 0 0 [] 0), (2, AV.nil), (3, AV.lit Value.nilIface), (4, AV.ptr 1 0 [] 0),
  (5, AV.ptr 3 0 [] 0), (7, AV.mp 2), (8, an a), (9, AV.bL 125 [AV.ptr 4 0 [] 0])])
 letI z2 := sp 38 [] [Obj.box 41 (an a), Obj.box 48 (AV.aB 6 0 ks.length), Dn.Obj.map 9 4 es, Obj.box 114 (AV.mp 2), Obj.box 41 (an a), Dn.Obj.loop z1, Obj.row 3
  ks]
 letI z3 := IntKind.wrap IntKind.i64 (i + (1 : Int))
 letI z4 := (0 : Int)
 letI z5 := Value × AV
 letI z6 := AV.aB 6 0 (ks.length + 1)
 aD (decide (i < (↑(a.bl.length) : Int))) (∃ (a_1 : Fq), ([an a, AV.aB 0 0 done.length, AV.mp 1], [Obj.row 4 done, Dn.Obj.map 9 4 es']) = ([an a_1.a, AV.aB 0 0
 (List.length (bJ a_1.done)), AV.mp 1], [Obj.row 4 (bJ a_1.done), Dn.Obj.map 9 4 (bH a_1.b)]) ∧ (aM (aI a_1.a) = true ∧ (aX (aa (aV 52 a_1.a.hl a_1.a.bl)) ≤
 100000 ∧ List.length a_1.a.bl ≤ 100000) ∧ a_1.done.length = List.length a_1.a.bl) ∧ aD (decide (aC (aI a_1.a) a_1.done a_1.b < z4)) (K Exit.ret z2) (bg (decide
 ((ks.length + 1 + 1) * 9 ≤ 70368744177664)) ((∃ (a_2 : bQ × Int), ([an a, AV.int (aC (aI a_1.a) a_1.done a_1.b)], aF) = ([an a_2.1, AV.int a_2.2], aF) ∧ (aM (aI
 a_2.1) = true ∧ (aX (aa (aV 52 a_2.1.hl a_2.1.bl)) ≤ 100000 ∧ a_2.1.bl.length ≤ 100000) ∧ z4 ≤ a_2.2 ∧ a_2.2 < (↑(a_2.1.bl.length) : Int)) ∧ ∃ (a_3 : List AV ×
 List z5), ([AV.mp 0, AV.ae 9 (strs (cD (aI a_2.1) a_2.2.toNat))], [Dn.Obj.map 9 4 es]) = ([AV.mp 0, AV.ae 9 a_3.1], [Dn.Obj.map 9 4 a_3.2]) ∧ a7 a_3 ∧ bg
 (decide (z4 ≤ aC (aI a_1.a) a_1.done a_1.b) && decide (aC (aI a_1.a) a_1.done a_1.b < (↑(done.length) : Int))) (∃ (a_4 : bQ × Int), ([an a, AV.int (aC (aI
 a_1.a) a_1.done a_1.b)], aF) = ([an a_4.1, AV.int a_4.2], aF) ∧ (aM (aI a_4.1) = true ∧ (aX (aa (aV 52 a_4.1.hl a_4.1.bl)) ≤ 100000 ∧ a_4.1.bl.length ≤ 100000)
 ∧ z4 ≤ a_4.2 ∧ a_4.2 < (↑(a_4.1.bl.length) : Int)) ∧ ∃ (a_5 : List AV × List z5), ([AV.mp 0, AV.ae 9 (strs (cD (aI a_4.1) a_4.2.toNat))], [Dn.Obj.map 9 4 (bH
 a_1.b)]) = ([AV.mp 0, AV.ae 9 a_5.1], [Dn.Obj.map 9 4 a_5.2]) ∧ a7 a_5 ∧ ∃ (m : Nat), m < n ∧ I m (sp 38 [(0, AV.ct 5), (1, AV.ptr 4 0 [] 0), (3, AV.mp 7), (4,
 AV.aB 8 0 done.length), (13, AV.int (↑(a.bl.length) : Int)), (14, AV.int z3)] [Obj.box 41 (an a), Obj.box 48 z6, Dn.Obj.map 9 4 (eP a_3.2 a_3.1), Obj.box 114
 (AV.mp 2), Obj.box 41 (an a), Dn.Obj.loop z1, Obj.row 3 (List.take ks.length ks ++ [AV.int (aC (aI a_1.a) a_1.done a_1.b)]), Dn.Obj.map 9 4 (eP a_5.2 a_5.1),
 Obj.row 4 (cf (bJ a_1.done) (0 + Int.toNat (aC (aI a_1.a) a_1.done a_1.b)) (AV.bool true))]))) ∧ ∃ (a_2 : bQ × Int), ([an a, AV.int (aC (aI a_1.a) a_1.done
 a_1.b)], aF) = ([an a_2.1, AV.int a_2.2], aF) ∧ (aM (aI a_2.1) = true ∧ (aX (aa (aV 52 a_2.1.hl a_2.1.bl)) ≤ 100000 ∧ a_2.1.bl.length ≤ 100000) ∧ z4 ≤ a_2.2 ∧
 a_2.2 < (↑(a_2.1.bl.length) : Int)) ∧ ∃ (a_3 : List AV × List z5), ([AV.mp 0, AV.ae 9 (strs (cD (aI a_2.1) a_2.2.toNat))], [Dn.Obj.map 9 4 es]) = ([AV.mp 0,
 AV.ae 9 a_3.1], [Dn.Obj.map 9 4 a_3.2]) ∧ a7 a_3 ∧ bg (decide (z4 ≤ aC (aI a_1.a) a_1.done a_1.b) && decide (aC (aI a_1.a) a_1.done a_1.b < (↑(done.length) :
 Int))) (∃ (a_4 : bQ × Int), ([an a, AV.int (aC (aI a_1.a) a_1.done a_1.b)], aF) = ([an a_4.1, AV.int a_4.2], aF) ∧ (aM (aI a_4.1) = true ∧ (aX (aa (aV 52
 a_4.1.hl a_4.1.bl)) ≤ 100000 ∧ a_4.1.bl.length ≤ 100000) ∧ z4 ≤ a_4.2 ∧ a_4.2 < (↑(a_4.1.bl.length) : Int)) ∧ ∃ (a_5 : List AV × List z5), ([AV.mp 0, AV.ae 9
 (strs (cD (aI a_4.1) a_4.2.toNat))], [Dn.Obj.map 9 4 (bH a_1.b)]) = ([AV.mp 0, AV.ae 9 a_5.1], [Dn.Obj.map 9 4 a_5.2]) ∧ a7 a_5 ∧ ∃ (m : Nat), m < n ∧ I m (sp
 38 [(0, AV.ct 5), (1, AV.ptr 4 0 [] 0), (3, AV.mp 7), (4, AV.aB 8 0 done.length), (13, AV.int (↑(a.bl.length) : Int)), (14, AV.int z3)] [Obj.box 41 (an a),
 Obj.box 48 z6, Dn.Obj.map 9 4 (eP a_3.2 a_3.1), Obj.box 114 (AV.mp 2), Obj.box 41 (an a), Dn.Obj.loop z1, Obj.row 3 (List.take ks.length ks ++ [AV.int (aC (aI
 a_1.a) a_1.done a_1.b)]), Dn.Obj.map 9 4 (eP a_5.2 a_5.1), Obj.row 4 (cf (bJ a_1.done) (0 + Int.toNat (aC (aI a_1.a) a_1.done a_1.b)) (AV.bool true))]))))) (K
 (Exit.exit 0) z2)) := by kernel_rfl
theorem nW : ∀ (l : List Bool) (k : Nat), cf (bJ l) k (.lit (.bool true)) = bJ (l.set k true)
 | [], _ => rfl
 | _ :: _, 0 => rfl
 | a :: l, k + 1 => by
  have := nW l k
  simp only [bJ] at this
  simp only [bJ, ac0, cf, List.set_cons_succ, this]
noncomputable def dT (a : OT) : List Nat := lL (aI a.a) (a.a.bl.length - a.i.toNat) a.done a.b
def DH (a : OT) : Prop := aM (aI a.a) = true ∧ dh a.a ∧ 0 ≤ a.i ∧ a.i ≤ a.a.bl.length ∧ a.done.length = a.a.bl.length ∧ a.ks.length ≤ a.i.toNat
noncomputable def Ir (κ : Kp) (a : OT) : Out (Exit × S) := .all (fun _ : Bool => True) fun e => .aD e (.one (.ret, sp 38 [] (Cl κ a.a (a.ks ++ dT a) (a.b ++ gd (aI a.a) (dT a)))))
 (.one (.exit 0, sp 38 [] (Cl κ a.a (a.ks ++ dT a) (a.b ++ gd (aI a.a) (dT a)))))
theorem uM {a : bQ} (h : dh a) {k : Nat} (hk : k < a.bl.length) : (cD (aI a) k).length ≤ 200000 := by
 have hlit := jx h hk
 have hol := pJ h k
 have hc := CT (cj (nth a.bl k))
 have hv := bZ [(cj (nth a.bl k)).x]
 have e1 := bZ [(cj (nth a.bl k)).x, (cj (nth a.bl k)).y]
 have e2 := bZ (cj (nth a.bl k)).a.l
 unfold cD
 rw [show (aI a).body = cu a.bl from rfl, jm _ hk]
 cases decide (7 ≤ (cj (nth a.bl k)).op) with
 | true => rw [aa7, ab8]; omega
 | false =>
  rw [aa5]
  simp only [dz, ik, ab8] at hlit ⊢; omega
theorem Wd (κ : Kp) : bq (Km κ) 12 125 3 (aO 6 (Fw κ) DH (Ir κ)) := by
 refine aR (fun a => a.a.bl.length - a.i.toNat) ?_
 rintro ⟨a, ks, done, b, i⟩ K ⟨h1, h2, h3, h4, h5, h6⟩ ho
 simp only at h1 h2 h3 h4 h5 h6
 rw [show (Km κ).P = Pr κ from rfl]
 refine Eq.mpr (Vv κ a (ints ks) (bH b) (bH b) (bJ done) i _ _ K) ?_
 have ho1 := ho true trivial
 have ho2 := ho false trivial
 simp only [Out.run, aD, dT] at ho1 ho2
 simp only [and_self]
 have hbl := gT done
 have hil := oM ks
 have hl := h2.2
 rw [af, aa0, aa2]
 refine ⟨fun hi => ⟨⟨a, done, b, 0, 0⟩, rfl, ⟨h1, h2, h5⟩, ?_⟩, fun hi => ?_⟩
 ·have hw := BH (aI a) (a.bl.length - (i.toNat + 1)) done b
  rw [show a.bl.length - (i.toNat + 1) + 1 = a.bl.length - i.toNat by omega] at hw
  rw [af, aa0, aa2]
  refine ⟨fun e => ?_, fun e => ?_⟩
  ·rw [hw, aa6 e] at ho1
   simp only [aa7, List.append_nil, gd, List.flatMap_nil] at ho1
   exact ho1
  ·rw [hw, aa4 e, aa5] at ho1 ho2
   rcases ot (aI a) done b with e0 | ⟨e1, e2, e3, _⟩
   ·rw [e0] at e; omega
   have e2' := e2
   rw [gw] at e2'
   have hg := uM h2 e2'
   rw [ax, aa0]
   refine ⟨by omega, (a, aC (aI a) done b), rfl, ⟨h1, h2, e1, by simp only; omega⟩, (strs (cD (aI a) (aC (aI a) done b).toNat), bH b), rfl, by simp only [a7, a9, aL]; omega, ?_⟩
   rw [ax, aa1, aa0, aa0]
   refine ⟨⟨e1, by show aC (aI a) done b < _; omega⟩, (a, aC (aI a) done b), rfl, ⟨h1, h2, e1, by simp only; omega⟩, (strs (cD (aI a) (aC (aI a) done b).toNat), bH b), rfl, by simp only [a7, a9, aL]; omega, ?_⟩
   rw [a8 (n := i + 1) (by omega) (by omega)]
   refine ⟨_, ?_, ⟨a, ks ++ [(aC (aI a) done b).toNat], done.set (aC (aI a) done b).toNat true, b ++ cD (aI a) (aC (aI a) done b).toNat, i + 1⟩, ?_, ⟨h1, h2, by simp only; omega, by simp only; omega, by simpa using h5, by simp only [ab8, List.length_singleton]; omega⟩, rfl, ?_⟩
   ·simp only; omega
   ·simp only [List.take_length]
    simp only [Fw, Cl, List.cons_append, List.nil_append, Nat.zero_add, nW, mG, gT, List.length_set, Hh, oM, ab8, List.length_singleton]
    simp only [ints, ac0, List.map_nil, Int.toNat_of_nonneg e1, List.length_singleton]
   ·have hg2 : ∀ l, b ++ gd (aI a) ((aC (aI a) done b).toNat :: l) = (b ++ cD (aI a) (aC (aI a) done b).toNat) ++ gd (aI a) l := fun l => by
     simp only [gd, List.flatMap_cons, List.append_assoc]
    have hk2 : ∀ l, ks ++ (aC (aI a) done b).toNat :: l = (ks ++ [(aC (aI a) done b).toNat]) ++ l := fun l => by simp
    rw [hg2, hk2] at ho1 ho2
    intro f _
    simp only [Out.run, dT, show (i + 1).toNat = i.toNat + 1 by omega]
    cases f
    ·exact ho2
    ·exact ho1
 ·rw [show a.bl.length - i.toNat = 0 by omega] at ho2
  simp only [lL, List.append_nil, gd, List.flatMap_nil] at ho2
  exact ho2
noncomputable def EK (κ : Kp) : Env := (Km κ).aj 125 3 (aO 6 (Fw κ) DH (Ir κ))
theorem Qg (κ : Kp) : ay (EK κ) := (V5 κ).aj (Se κ) (Wd κ)
theorem IV (κ : Kp) : ah (EK κ) := (Se κ).aj aG
end Go.Proofs.YtdpmikfheebicaaGreatDoor
namespace Go.Proofs.YtdpmikfheebicaaGreatDoor
open Go Go.Dn Go.Rl Go.Proofs Go.RowKit Go.Extern.Stop Go.Stop Go.Extern
theorem Oj (v : Value) (xT : TypeId) (w : World) : (Instr.typeAssert (.iface 159 v) xT 165 true).run Tryz.prog w = .ok (.tuple #[.nilIface, .bool false]) w := run_typeAssert_lacksB Tryz.underlying165 (by kernel_rfl) (by kernel_rfl) v xT w
theorem ED (v : Value) (xT : TypeId) (w : World) : (Instr.typeAssert (.iface 159 v) xT 167 true).run Tryz.prog w = .ok (.tuple #[.nilIface, .bool false]) w := run_typeAssert_lacksB Tryz.underlying167 (by kernel_rfl) (by kernel_rfl) v xT w
theorem zD (v : Value) (xT : TypeId) (w : World) : (Instr.typeAssert (.iface 159 v) xT 169 true).run Tryz.prog w = .ok (.tuple #[.iface 159 v, .bool true]) w := run_typeAssert_hasB Tryz.underlying169 (by kernel_rfl) v xT w
theorem um (v : Value) (w : World) : (Go.method 327 159 v "Unwrap").run Tryz.prog w = .ok (188, v) w := by kernel_rfl
set_option maxRecDepth 4000 in
theorem Eg (a : Addr) (w : World) :
  Calls Tryz.prog 87 #[.iface 189 (.pointer (some a)), .iface 189 (.pointer (some a)), .bool true] w fun e w' => e = .returned (.bool true) ∧ w' = w := by
 obtain ⟨i, hi, hcmp⟩ := Option.map_eq_some_iff.1 BL
 obtain ⟨j, hj, hjs⟩ := Option.map_eq_some_iff.1 Ba
 have heq := run_eql_iface_ptr_same (P := Tryz.prog) w a Tryz.underlying88 Tryz.underlying189 hi hcmp hj
 go_enter Tryz.func87, Tryz.ntmps87
 go_wp2
 refine wp_loop_rounds 1 ?_
 rw [rounds_succ]
 go_wp2
 go_ret
 exact ⟨rfl, rfl⟩
set_option maxRecDepth 8000 in
theorem IS (ja ra b : Addr) (cap : Nat) (w : World) (h1 : w.cell? ja = some (.slice (some ra) 1 cap)) (h2 : w.cell? ra = some (.iface 189 (.pointer (some b)))) :
  Calls Tryz.prog 56 #[.iface 159 (.pointer (some ja)), .iface 189 (.pointer (some b))] w fun e w' => e = .returned (.bool true) ∧ w' = w := by
 have h8 := @run_callFunc_extern Tryz.prog 86 _ Extern.ReflectliteType.typeOf Tryz.func86 (by kernel_rfl) (by kernel_rfl) (by kernel_rfl) (by kernel_rfl)
 have h32 := @run_callFunc_extern Tryz.prog 192 _ (Extern.ReflectliteType.method fun t => do Go.Extern.Rtype.noPackHeld "Comparable" t; pure (.bool (← typeInfo t).comparable)) Tryz.func192 (by kernel_rfl) (by kernel_rfl) (by kernel_rfl) (by kernel_rfl)
 have tT := uf
 have cT := lq
 have mR := gg
 have hne := run_eql_iface_types (P := Tryz.prog) 159 189 (.pointer (some ja)) (.pointer (some b)) Tryz.underlying88 (by decide)
 have n1 := Oj
 have n2 := ED
 have n3 := zD
 have mU := um
 go_enter Tryz.func56, Tryz.ntmps56
 go_wp2
 refine wp_loop_rounds 1 ?_
 rw [rounds_succ]
 go_wp2
 refine wp_loop_rounds 1 ?_
 rw [rounds_succ]
 go_wp2_with (first | (go_at_call 87; refine (Eg b _).mono ?_; rintro e w' ⟨rfl, rfl⟩))
 all_goals (go_ret; exact ⟨rfl, rfl⟩)
end Go.Proofs.YtdpmikfheebicaaGreatDoor
namespace Go.Proofs.YtdpmikfheebicaaGreatDoor
open Go Go.Dn Go.Rl Go.Proofs
attribute [local irreducible] bh vc
set_option maxRecDepth 20000
noncomputable def MS (κ : Kp) : Env := (EK κ).aj 85 3 (jI (EK κ) 12 85 3 3)
noncomputable def M3 (κ : Kp) : Env := (MS κ).aj 85 12 (jI (MS κ) 12 85 12 3)
theorem Uu (κ : Kp) : ay (MS κ) := (Qg κ).aj (IV κ) (pH (IV κ) 3)
theorem PC (κ : Kp) : ah (MS κ) := (IV κ).aj (jQ (IV κ) 3)
theorem Yp (κ : Kp) : ay (M3 κ) := (Uu κ).aj (PC κ) (pH (PC κ) 3)
theorem R3 (κ : Kp) : ah (M3 κ) := (PC κ).aj (jQ (PC κ) 3)
theorem yJ (κ : Kp) (K : AV → List Dn.Obj → Prop) : (bh (M3 κ) 12 85 [.ae 88 [.lit (ke κ)]] [] K) = (
 letI z1 := Pg.toProgram (Env.P (EK κ))
 letI z2 := Pg.toProgram (Env.P (MS κ))
 ag z1 85 3 = ag z1 85 3 ∧ ag z2 85 12 = ag z2 85 12 ∧ K (AV.gO 159 (AV.ptr 0 0 [] 0)) [Obj.box 161 (AV.agg [AV.aB 1 0 1]), Obj.row 88 [AV.lit (Value.iface 189
 (Value.pointer (some (Kp.stuck κ))))]]) := by kernel_rfl
abbrev wm : AV := .gO 159 (.ptr 0 0 [] 0)
abbrev wb (κ : Kp) : List Dn.Obj := [.box 161 (.agg [.aB 1 0 1]), .row 88 [.lit (ke κ)]]
def S1 (κ : Kp) (_ : Unit) : List AV × List Dn.Obj := ([.ae 88 [.lit (ke κ)]], [])
def Cf (_ : Unit) : Prop := True
def M8 (κ : Kp) (_ : Unit) : Out (AV × List Dn.Obj) := .one (wm, wb κ)
theorem cJ (κ : Kp) : bu (M3 κ) 12 85 (aW (S1 κ) Cf (M8 κ)) := by
 refine ba ?_
 rintro ⟨⟩ K _ ho
 refine Eq.mpr (yJ κ K) ?_
 exact ⟨rfl, rfl, ho⟩
def RM (κ : Kp) (_ : Unit) : List AV × List Dn.Obj := ([wm, .lit (ke κ)], wb κ)
def Oz (κ : Kp) (_ : Unit) : Out (AV × List Dn.Obj) := .one (.bool true, wb κ)
theorem qI (κ : Kp) : ∀ args st K, aW (RM κ) Cf (Oz κ) args st K → dF (Pr κ) 56 args st K := by
 rintro args st K ⟨_, h1, _, h3⟩
 obtain ⟨rfl, rfl⟩ := Prod.mk.inj h1
 refine ⟨⟨_, Tryz.func56, rfl⟩, fun C vs hC hI hst hm => ?_⟩
 obtain ⟨vs⟩ := vs
 match vs, hm with
 | [v1, v2], hm =>
  simp only [MT] at hm
  obtain ⟨a1, a2, a3, b1, b2, b3, _⟩ := hm
  have hv2 : v2 = ke κ := aK (C := C) ⟨b1, b2, b3⟩
  have r1 : Rel C wm v1 := ⟨a1, a2, a3⟩
  obtain ⟨c1, _⟩ := fk r1 rfl (by simp)
  simp only [M, c1] at a3
  obtain ⟨u, u1, u2, u3, u4, v, v1', v2', v3⟩ := a3
  have hv1 : v1 = .iface 159 u := by simpa using u1
  have hu : u.cells = #[u] := fx (by rw [u2]; rfl)
  have huv : v = u := by rw [hu] at v1'; simpa using v1'.symm
  subst huv
  have o0 := hI.obj 0 (by rw [hst]; simp)
  have o1 := hI.obj 1 (by rw [hst]; simp)
  rw [hst] at o0 o1
  simp only [ar, iT] at o0 o1
  obtain ⟨_, _, c, e, g1, _, g2⟩ := o0
  simp only [M, ML] at g2
  obtain ⟨⟨_, s, s1, _, s2⟩, _⟩ := g2
  have s3 := s2.1 88 [.lit (ke κ)] (by rw [hst]; rfl)
  obtain ⟨_, s3⟩ := s3
  rcases s3 with ⟨_, _, _, s3⟩ | ⟨n1, cap, q, rfl, s3, s4, _⟩
  ·cases s3
  have hq : q = ⟨(C.ι 1).block, 0, none⟩ := by
   rcases s3 with s3 | ⟨s3, s5⟩
   ·rw [s3, Nat.zero_mul]
   ·omega
  subst hq
  obtain ⟨_, o1⟩ := o1
  rcases o1 with ⟨o1, _⟩ | ⟨_, _, c', k1, _, _, _, k2⟩
  ·rw [n1] at o1; cases o1
  simp only [MR, M] at k2
  obtain ⟨⟨k2, _⟩, _⟩ := k2
  have hp : v = .pointer (some ⟨(C.ι 0).block, 0, none⟩) := (v3.2.1 161 _ (by rw [hst]; rfl)).2
  subst hp
  subst hv1 hv2
  refine (callsIn_wide.2 (IS ⟨(C.ι 0).block, 0, none⟩ ⟨(C.ι 1).block, 0, none⟩ κ.stuck cap C.w s1 k2)).mono ?_
  rintro e' w' ⟨rfl, rfl⟩
  exact ⟨_, .bool true, C, rfl, rfl, rfl, hI, aQ rfl, Ext.refl _ (by rw [hst]; exact Nat.le_refl _), by rw [hst]; exact h3⟩
 | [], hm => simp [MT] at hm
 | [_], hm => simp [MT] at hm
 | _ :: _ :: _ :: _, hm => simp [MT] at hm
noncomputable def EJ (κ : Kp) : Env := ((M3 κ).au 85 (aW (S1 κ) Cf (M8 κ))).au 56 (aW (RM κ) Cf (Oz κ))
theorem eJ (κ : Kp) : ay (EJ κ) := ((Yp κ).au (R3 κ) (cJ κ)).lC (qI κ)
theorem mJ (κ : Kp) : ah (EJ κ) := ((R3 κ).au aH).au aH
theorem Ws (κ : Kp) (a : bQ) (K : AV → List Dn.Obj → Prop) : (bh (EJ κ) 12 55 [an a] [] K) = (
 letI z1 := Value.iface 189 (Value.pointer (some (Kp.stuck κ)))
 letI z2 := AV.bj [AV.nil, AV.gO 159 (AV.ptr 0 0 [] 0)]
 letI z3 := AV.agg [AV.aB 1 0 1]
 letI z4 := Value × AV
 letI z5 := Pg.toProgram (Env.P (Km κ))
 bg (true && decide ((↑(a.bl.length) : Int) ≤ (↑(a.bl.length) : Int)) && decide ((Int.toNat (↑(a.bl.length) : Int) + 1) * 2 ≤ 70368744177664) && true) (ag z5 125
 3 = ag z5 125 3 ∧ ∃ (a_1 : OT), sp 38 [(0, AV.ct 5), (1, AV.ptr 4 0 [] 0), (3, AV.mp 7), (4, AV.aB 8 0 (Int.toNat (↑(a.bl.length) : Int))), (13, AV.int
 (↑(a.bl.length) : Int)), (14, AV.int 0)] [Obj.box 41 (an a), Obj.box 48 (AV.aB 6 0 0), Dn.Obj.map 9 4 [], Obj.box 114 (AV.mp 2), Obj.box 41 (an a), Dn.Obj.loop
 (gL Tryz.prog 55 4 LoopState.ready none (gy (bG 40) [(0, an a), (1, AV.ptr 0 0 [] 0), (2, AV.nil), (3, AV.lit Value.nilIface), (4, AV.ptr 1 0 [] 0), (5, AV.ptr
 3 0 [] 0), (7, AV.mp 2), (8, an a), (9, AV.bL 125 [AV.ptr 4 0 [] 0])])), Obj.row 3 [], Dn.Obj.map 9 4 [], Obj.row 4 (eE (AV.bool false) (Int.toNat
 (↑(a.bl.length) : Int)))] = sp 38 [(0, AV.ct 5), (1, AV.ptr 4 0 [] 0), (3, AV.mp 7), (4, AV.aB 8 0 (List.length (bJ a_1.done))), (13, AV.int (↑(List.length
 a_1.a.bl) : Int)), (14, AV.int a_1.i)] [Obj.box 41 (an a_1.a), Obj.box 48 (AV.aB 6 0 (List.length (ints a_1.ks))), Dn.Obj.map 9 4 (bH a_1.b), Obj.box 114 (AV.mp
 2), Obj.box 41 (an a_1.a), Dn.Obj.loop (gL Tryz.prog 55 4 LoopState.ready none (gy (bG 40) [(0, an a_1.a), (1, AV.ptr 0 0 [] 0), (2, AV.nil), (3, AV.lit
 Value.nilIface), (4, AV.ptr 1 0 [] 0), (5, AV.ptr 3 0 [] 0), (7, AV.mp 2), (8, an a_1.a), (9, AV.bL 125 [AV.ptr 4 0 [] 0])])), Obj.row 3 (ints a_1.ks),
 Dn.Obj.map 9 4 (bH a_1.b), Obj.row 4 (bJ a_1.done)] ∧ (aM (aI a_1.a) = true ∧ (aX (aa (aV 52 a_1.a.hl a_1.a.bl)) ≤ 100000 ∧ List.length a_1.a.bl ≤ 100000) ∧ (0
 : Int) ≤ a_1.i ∧ a_1.i ≤ (↑(List.length a_1.a.bl) : Int) ∧ a_1.done.length = List.length a_1.a.bl ∧ a_1.ks.length ≤ a_1.i.toNat) ∧ ∀ (y : Bool), True → aD y (aD
 (decide ((↑(List.length (ints (a_1.ks ++ dT a_1))) : Int) < (↑(List.length a_1.a.bl) : Int))) ((∃ (a : Unit), ([AV.ae 88 [AV.lit z1]], aF) = ([AV.ae 88 [AV.lit
 z1]], aF) ∧ True ∧ K z2 [Obj.box 161 z3, Obj.row 88 [AV.lit z1]]) ∧ ∃ (a : Unit), ([AV.ae 88 [AV.lit z1]], aF) = ([AV.ae 88 [AV.lit z1]], aF) ∧ True ∧ K z2
 [Obj.box 161 z3, Obj.row 88 [AV.lit z1]]) ((∃ (a : List AV), ([AV.ae 52 a_1.a.hl], aF) = ([AV.ae 52 a], aF) ∧ bn a ∧ ∃ (a_2 : List AV × List z4), ([AV.mp 0,
 AV.ae 9 (List.take (List.length (aq (aa a))) (List.drop 0 (strs (aq (aa a)))))], [Dn.Obj.map 9 4 (bH (a_1.b ++ gd (aI a_1.a) (dT a_1)))]) = ([AV.mp 0, AV.ae 9
 a_2.1], [Dn.Obj.map 9 4 a_2.2]) ∧ a7 a_2 ∧ aD (!fh a_2.2 a_2.1) (∃ (a : Unit), ([AV.ae 88 [AV.lit z1]], aF) = ([AV.ae 88 [AV.lit z1]], aF) ∧ True ∧ K z2
 [Obj.box 161 z3, Obj.row 88 [AV.lit z1]]) (K (AV.bj [AV.aB 0 0 (List.length (ints (a_1.ks ++ dT a_1))), AV.lit Value.nilIface]) [Obj.row 3 (ints (a_1.ks ++ dT
 a_1))])) ∧ ∃ (a : List AV), ([AV.ae 52 a_1.a.hl], aF) = ([AV.ae 52 a], aF) ∧ bn a ∧ ∃ (a_2 : List AV × List z4), ([AV.mp 0, AV.ae 9 (List.take (List.length (aq
 (aa a))) (List.drop 0 (strs (aq (aa a)))))], [Dn.Obj.map 9 4 (bH (a_1.b ++ gd (aI a_1.a) (dT a_1)))]) = ([AV.mp 0, AV.ae 9 a_2.1], [Dn.Obj.map 9 4 a_2.2]) ∧ a7
 a_2 ∧ aD (!fh a_2.2 a_2.1) (∃ (a : Unit), ([AV.ae 88 [AV.lit z1]], aF) = ([AV.ae 88 [AV.lit z1]], aF) ∧ True ∧ K z2 [Obj.box 161 z3, Obj.row 88 [AV.lit z1]]) (K
 (AV.bj [AV.aB 0 0 (List.length (ints (a_1.ks ++ dT a_1))), AV.lit Value.nilIface]) [Obj.row 3 (ints (a_1.ks ++ dT a_1))]))) (aD (decide ((↑(List.length (ints
 (a_1.ks ++ dT a_1))) : Int) < (↑(List.length a_1.a.bl) : Int))) ((∃ (a : Unit), ([AV.ae 88 [AV.lit z1]], aF) = ([AV.ae 88 [AV.lit z1]], aF) ∧ True ∧ K z2
 [Obj.box 161 z3, Obj.row 88 [AV.lit z1]]) ∧ ∃ (a : Unit), ([AV.ae 88 [AV.lit z1]], aF) = ([AV.ae 88 [AV.lit z1]], aF) ∧ True ∧ K z2 [Obj.box 161 z3, Obj.row 88
 [AV.lit z1]]) ((∃ (a : List AV), ([AV.ae 52 a_1.a.hl], aF) = ([AV.ae 52 a], aF) ∧ bn a ∧ ∃ (a_2 : List AV × List z4), ([AV.mp 0, AV.ae 9 (List.take (List.length
 (aq (aa a))) (List.drop 0 (strs (aq (aa a)))))], [Dn.Obj.map 9 4 (bH (a_1.b ++ gd (aI a_1.a) (dT a_1)))]) = ([AV.mp 0, AV.ae 9 a_2.1], [Dn.Obj.map 9 4 a_2.2]) ∧
 a7 a_2 ∧ aD (!fh a_2.2 a_2.1) (∃ (a : Unit), ([AV.ae 88 [AV.lit z1]], aF) = ([AV.ae 88 [AV.lit z1]], aF) ∧ True ∧ K z2 [Obj.box 161 z3, Obj.row 88 [AV.lit z1]])
 (K (AV.bj [AV.aB 0 0 (List.length (ints (a_1.ks ++ dT a_1))), AV.lit Value.nilIface]) [Obj.row 3 (ints (a_1.ks ++ dT a_1))])) ∧ ∃ (a : List AV), ([AV.ae 52
 a_1.a.hl], aF) = ([AV.ae 52 a], aF) ∧ bn a ∧ ∃ (a_2 : List AV × List z4), ([AV.mp 0, AV.ae 9 (List.take (List.length (aq (aa a))) (List.drop 0 (strs (aq (aa
 a)))))], [Dn.Obj.map 9 4 (bH (a_1.b ++ gd (aI a_1.a) (dT a_1)))]) = ([AV.mp 0, AV.ae 9 a_2.1], [Dn.Obj.map 9 4 a_2.2]) ∧ a7 a_2 ∧ aD (!fh a_2.2 a_2.1) (∃ (a :
 Unit), ([AV.ae 88 [AV.lit z1]], aF) = ([AV.ae 88 [AV.lit z1]], aF) ∧ True ∧ K z2 [Obj.box 161 z3, Obj.row 88 [AV.lit z1]]) (K (AV.bj [AV.aB 0 0 (List.length
 (ints (a_1.ks ++ dT a_1))), AV.lit Value.nilIface]) [Obj.row 3 (ints (a_1.ks ++ dT a_1))]))))) := by kernel_rfl
def Eb (a : bQ) : List AV × List Dn.Obj := ([an a], [])
def Hr (a : bQ) : Prop := aM (aI a) = true ∧ dh a
noncomputable def IF (κ : Kp) (a : bQ) : Out (AV × List Dn.Obj) := .aD (jH (aI a)) (.one (.bj [.aB 0 0 (eV (aI a)).length, .lit .nilIface], [.row 3 (ints (eV (aI a)))])) (.one (.bj [.nil, wm], wb κ))
theorem qY (n : Nat) : eE (.lit (.bool false)) n = bJ (List.replicate n false) := by simp [eE, bJ]
theorem TY (κ : Kp) : bu (EJ κ) 12 55 (aW Eb Hr (IF κ)) := by
 refine ba ?_
 rintro a K ⟨h1, h2⟩ ho
 refine Eq.mpr (Ws κ a K) ?_
 simp only [and_self]
 simp only [IF, Out.run, af] at ho
 have hl := h2.2
 have hw : dT ⟨a, [], List.replicate a.bl.length false, [], 0⟩ = eV (aI a) := by
  unfold dT eV
  rw [gw]; rfl
 have hc := mV h2
 have hv := bZ (aa a.hl)
 have hs : jH (aI a) = (decide (a.bl.length ≤ (eV (aI a)).length) && hasB (gd (aI a) (eV (aI a))) (aq (aa a.hl))) := by
  unfold jH; rw [gw]; rfl
 rw [hs] at ho
 simp only [ax, aa1, aa0, Int.toNat_natCast]
 refine ⟨⟨⟨⟨trivial, by omega⟩, by omega⟩, trivial⟩, trivial, ⟨a, [], List.replicate a.bl.length false, [], 0⟩, ?_, ⟨h1, h2, by simp only; omega, by simp only; omega, by simp, by simp⟩, ?_⟩
 ·simp only [qY, gT, List.length_replicate]; rfl
 ·intro y _
  rw [hw]
  cases y <;>
  ·simp only [oM, List.nil_append, af, aa0, aa2, Bool.not_eq_true', ab2, reduceCtorEq, false_implies, true_implies, and_true, true_and]
   refine ⟨fun e => ?_, fun e => ?_⟩
   ·rw [aa4 (show ¬ a.bl.length ≤ (eV (aI a)).length by omega), Bool.false_and] at ho
    exact ⟨(), ho.2 rfl⟩
   ·rw [aa6 (show a.bl.length ≤ (eV (aI a)).length by omega), ab9] at ho
    refine ⟨a.hl, rfl, hc, (strs (aq (aa a.hl)), bH (gd (aI a) (eV (aI a)))), ?_, ?_, ?_⟩
    ·simp only [ab0, cm]
    ·simp only [a7, a9, aL]; omega
    ·simp only [dY]
     exact ⟨fun e2 => ⟨(), ho.2 e2⟩, fun e2 => ho.1 e2⟩
noncomputable def Nw (κ : Kp) : Env := (EJ κ).au 55 (aW Eb Hr (IF κ))
theorem WL (κ : Kp) : ay (Nw κ) := (eJ κ).au (mJ κ) (TY κ)
theorem Sz (κ : Kp) : ah (Nw κ) := (mJ κ).au aH
theorem y7 (κ : Kp) (a : bQ) (K : AV → List Dn.Obj → Prop) : (bh (Nw κ) 12 27 [an a] [] K) = (
 letI z1 := Value.iface 189 (Value.pointer (some (Kp.stuck κ)))
 bg (decide (a.hl.length ≤ 9223372036854775807) && decide (a.bl.length ≤ 9223372036854775807)) (aD (!aM {head := { rel := a.rel, l := aa a.hl }, body := cu a.bl }) (K (AV.bj [AV.nil, AV.int 30]) []) (∃ (a_1 : bQ), ([AV.agg [AV.agg [AV.str a.rel, AV.ae 52 a.hl], AV.ae 55 a.bl, AV.int a.line]], aF) = ([AV.agg [AV.agg [AV.str a_1.rel, AV.ae 52 a_1.hl], AV.ae 55 a_1.bl, AV.int a_1.line]], aF) ∧ (aM (aI a_1) = true ∧ aX (aa (aV 52 a_1.hl a_1.bl)) ≤ 100000 ∧ a_1.bl.length ≤ 100000) ∧ aD (jH (aI a_1)) (K (AV.bj [AV.aB 0 0 (List.length (eV (aI a_1))), AV.int 0]) [Obj.row 3 (ints (eV (aI a_1)))]) (∃ (a : Unit), ([AV.gO 159 (AV.ptr 0 0 [] 0), AV.lit z1], [Obj.box 161 (AV.agg [AV.aB 1 0 1]), Obj.row 88 [AV.lit z1]]) = ([AV.gO 159 (AV.ptr 0 0 [] 0), AV.lit z1], [Obj.box 161 (AV.agg [AV.aB 1 0 1]), Obj.row 88 [AV.lit z1]]) ∧ True ∧ K (AV.bj [AV.nil, AV.int 60]) [])))) := by kernel_rfl
def L9 (a : bQ) : Out (AV × List Dn.Obj) := .aD (aM (aI a)) (.aD (jH (aI a)) (.one (.bj [.aB 0 0 (eV (aI a)).length, .int 0], [.row 3 (ints (eV (aI a)))])) (.one (.bj [.nil, .int 60], []))) (.one (.bj [.nil, .int 30], []))
theorem c7 (κ : Kp) : bu (Nw κ) 12 27 (aW Eb dh L9) := by
 refine ba ?_
 rintro a K h2 ho
 refine Eq.mpr (y7 κ a K) ?_
 simp only [L9, Out.run, af] at ho
 have hc := mV h2
 have hl1 := fu (aa a.hl)
 rw [eG] at hl1
 have hl := h2.2
 rw [ax, aa1, aa0, aa0]
 refine ⟨⟨by omega, by omega⟩, ?_⟩
 have hr : aM ⟨⟨a.rel, aa a.hl⟩, cu a.bl⟩ = aM (aI a) := rfl
 rw [hr]
 simp only [af, Bool.not_eq_true', ab2]
 refine ⟨fun e => ho.2 e, fun e => ⟨a, rfl, ⟨e, h2⟩, fun e2 => (ho.1 e).1 e2, fun e2 => ⟨(), trivial, trivial, (ho.1 e).2 e2⟩⟩⟩
noncomputable def E7 (κ : Kp) : Env := (Nw κ).au 27 (aW Eb dh L9)
theorem e7 (κ : Kp) : ay (E7 κ) := (WL κ).au (Sz κ) (c7 κ)
theorem m7 (κ : Kp) : ah (E7 κ) := (Sz κ).au aH
theorem DY {a : bQ} (h : jH (aI a) = true) : (eV (aI a)).length = a.bl.length := by
 have h1 := EE (aI a)
 rw [gw] at h1
 simp only [jH, aa1, aa0, gw] at h
 omega
noncomputable abbrev J8 (κ : Kp) : Env := E7 κ
theorem YJ (κ : Kp) : ay (J8 κ) := e7 κ
theorem Tp (κ : Kp) : ah (J8 κ) := m7 κ
end Go.Proofs.YtdpmikfheebicaaGreatDoor
