import Derived.Test.YtdpmikfheebicaaGreatDoorDqM3
import Derived.Test.YtdpmikfheebicaaGreatDoorDqM1
import Derived.Test.YtdpmikfheebicaaGreatDoorDqM2
namespace Go.Proofs.YtdpmikfheebicaaGreatDoor
open Go Go.Dn Go.Rl Go.Proofs
attribute [local irreducible] a9 vc
set_option maxRecDepth 20000
theorem WO (κ : Kp) (l : List AV) (s : ByteArray) (i : Int) (I : Nat → S → Prop) (n : Nat) (K : Exit → S → Prop) : (vc (LH κ) 12 171 none 0 (ag (Pr κ).toProgram 171 2) (sp 19 [(0, .ae 9 l), (1, .lit (.string s)), (7, .int l.length), (8, .int i)] []) (bC (LH κ) 171 2 0 I n K)) = (
 ax (decide (i < (↑(l.length) : Int))) (aZ (decide ((0 : Int) ≤ i) && decide (i < (↑(l.length) : Int))) (ax (ByteArray.toList s == ByteArray.toList (toStr (nth
 l i.toNat))) (K Exit.ret (sp 19 [(4, AV.int i)] [])) (∃ (m : Nat), m < n ∧ I m (sp 19 [(0, AV.ae 9 l), (1, AV.str s), (7, AV.int (↑(l.length) : Int)), (8,
 AV.int (IntKind.wrap IntKind.i64 (i + (1 : Int))))] [])))) (K (Exit.exit 0) (sp 19 [] []))) := by kernel_rfl
abbrev Ql (a : List AV × ByteArray × Int) : S := sp 19 [(0, .ae 9 a.1), (1, .lit (.string a.2.1)), (7, .int a.1.length), (8, .int a.2.2)] []
def zw (a : List AV × ByteArray × Int) : Prop := a.1.length ≤ aI ∧ 0 ≤ a.2.2 ∧ a.2.2 ≤ a.1.length
def DP (a : List AV × ByteArray × Int) : Out (Exit × S) := .ax (decide (bm a.2.1 (a.1.drop a.2.2.toNat) a.2.2 ≥ 0)) (.one (.ret, sp 19 [(4, .int (bm a.2.1 (a.1.drop a.2.2.toNat) a.2.2))] [])) (.one (.exit 0, sp 19 [] []))
theorem l65 (κ : Kp) : bg (LH κ) 12 171 2 (aK 0 Ql zw DP) := by
 refine aO (fun a => a.1.length - a.2.2.toNat) ?_
 rintro ⟨l, s, i⟩ K ⟨h1, h2, h3⟩ ho
 simp only at h1 h2 h3
 rw [show (LH κ).P = Pr κ from rfl]
 refine Eq.mpr (WO κ l s i _ _ K) ?_
 simp only [aI] at h1
 simp only [DP, Out.run, af] at ho
 simp only [af, aq, aa0, aa2, aa1]
 refine ⟨fun hi => ⟨⟨h2, hi⟩, fun e => ?_, fun e => ?_⟩, fun hi => ?_⟩
 ·rw [ab1 (show i.toNat < l.length by omega), ← bx l i.toNat (by omega), bm, show gC s (toStr (nth l i.toNat)) = true from e, aa7, aa6 (show i ≥ 0 from h2)] at ho
  exact ho.1 rfl
 ·rw [aU (n := i + 1) (by omega) (by omega)]
  refine ⟨_, ?_, (l, s, i + 1), rfl, ⟨by simpa [aI] using h1, by simp only; omega, by simp only; omega⟩, rfl, ?_⟩
  ·simp only; omega
  ·rw [ab1 (show i.toNat < l.length by omega), ← bx l i.toNat (by omega), bm, show gC s (toStr (nth l i.toNat)) = false from e, aa5] at ho
   simp only [DP, Out.run, af, show (i + 1).toNat = i.toNat + 1 by omega]
   exact ho
 ·rw [aa8 (by omega)] at ho
  exact ho.2 rfl
noncomputable def I7 (κ : Kp) : Env := (LH κ).aj 171 2 (aK 0 Ql zw DP)
theorem Rz (κ : Kp) : aw (I7 κ) := (Yv κ).aj (S6 κ) (l65 κ)
theorem Qe (κ : Kp) : ai (I7 κ) := (S6 κ).aj aE
theorem y65 (κ : Kp) (l : List AV) (s : ByteArray) (K : AV → List Dn.Obj → Prop) : (a9 (I7 κ) 12 171 [.ae 9 l, .lit (.string s)] [] K) = (
 letI z1 := Pg.toProgram (Env.P (LH κ))
 ag z1 171 2 = ag z1 171 2 ∧ ∃ (a : List AV × ByteArray × Int), sp 19 [(0, AV.ae 9 l), (1, AV.str s), (7, AV.int (↑(l.length) : Int)), (8, AV.int 0)] [] = sp 19
 [(0, AV.ae 9 a.1), (1, AV.str a.2.1), (7, AV.int (↑(a.1.length) : Int)), (8, AV.int (a.2.2))] [] ∧ (a.1.length ≤ 9223372036854775807 ∧ (0 : Int) ≤ a.2.2 ∧ a.2.2
 ≤ (↑(a.1.length) : Int)) ∧ ax (decide (bm a.2.1 (List.drop (Int.toNat (a.2.2)) a.1) (a.2.2) ≥ (0 : Int))) (K (AV.int (bm a.2.1 (List.drop (Int.toNat (a.2.2))
 a.1) (a.2.2))) []) (K (AV.int (-1)) [])) := by kernel_rfl
def Ka : List AV → Option (Bool × AV)
 | [.ae 9 l, .lit (.string s)] => some (decide (l.length ≤ aI), .int (bm s l 0))
 | _ => none
theorem pz (s : ByteArray) : ∀ (l : List AV) (i : Int), ¬ bm s l i ≥ 0 → 0 ≤ i → bm s l i = -1
 | [], _, _, _ => rfl
 | a :: l, i, h, h0 => by
  simp only [bm] at h ⊢
  cases e : gC s (toStr a) with
  | true => rw [e] at h; exact absurd h0 h
  | false => rw [e] at h; exact pz s l (i + 1) h (by omega)
theorem p65 (κ : Kp) : bM (I7 κ) 12 171 Ka := by
 intro args x hh
 unfold Ka at hh
 split at hh
 ·rename_i l s
  simp only [aa3, aa9, aa0] at hh
  obtain ⟨h1, rfl⟩ := hh
  refine ⟨_, rfl, rfl, ?_⟩
  refine Eq.mpr (y65 κ l s _) ?_
  refine ⟨rfl, (l, s, 0), rfl, ⟨h1, by simp only; omega, by simp only; omega⟩, ?_⟩
  simp only [ab8, ab0, af, aa0, aa2]
  exact ⟨fun _ => trivial, fun e => by rw [pz s l 0 e (by omega)]⟩
 ·cases hh
noncomputable def PH (κ : Kp) : Env := (I7 κ).au 171 Ka
theorem e65 (κ : Kp) : aw (PH κ) := (Rz κ).au (Qe κ) (p65 κ)
theorem UE (κ : Kp) : ai (PH κ) := (Qe κ).au
theorem y63 (κ : Kp) (l : List AV) (s : ByteArray) (K : AV → List Dn.Obj → Prop) : (a9 (PH κ) 12 169 [.ae 9 l, .lit (.string s)] [] K) = (
 aZ (decide (l.length ≤ 9223372036854775807)) (K (AV.bool (decide (bm s l (0 : Int) ≥ (0 : Int)))) [])) := by kernel_rfl
def RW : List AV → Option (Bool × AV)
 | [.ae 9 l, .lit (.string s)] => some (decide (l.length ≤ aI), .bool (decide (bm s l 0 ≥ 0)))
 | _ => none
theorem V7 (κ : Kp) : bM (PH κ) 12 169 RW := by
 intro args x hh
 unfold RW at hh
 split at hh
 ·rename_i l s
  simp only [aa3, aa9, aa0] at hh
  obtain ⟨h1, rfl⟩ := hh
  refine ⟨_, rfl, rfl, ?_⟩
  refine Eq.mpr (y63 κ l s _) ?_
  rw [aq, aa0]
  exact ⟨h1, rfl⟩
 ·cases hh
noncomputable def Pf (κ : Kp) : Env := (PH κ).au 169 RW
theorem e63 (κ : Kp) : aw (Pf κ) := (e65 κ).au (UE κ) (V7 κ)
theorem TF (κ : Kp) : ai (Pf κ) := (UE κ).au
theorem y24 (κ : Kp) (a : b5) (k : Int) (K : AV → List Dn.Obj → Prop) : (a9 (Pf κ) 12 82 [aF a, .int k] [] K) = (
 letI z1 := nth a.bl k.toNat
 letI z2 := ad z1 2
 letI z3 := toInt (ad z2 0)
 letI z4 := toStr (ad z2 1)
 letI z5 := toInt (ad z2 2)
 letI z6 := ah (ad z2 3)
 aZ (decide ((0 : Int) ≤ k) && decide (k < (↑(a.bl.length) : Int))) (ax (decide ((7 : Int) ≤ toInt (ad z1 0))) (((∃ (a_1 : List AV), ([AV.ae 52 [AV.agg [AV.int
 z3, AV.str z4, AV.int z5, AV.ae 52 z6]]], az) = ([AV.ae 52 a_1], az) ∧ bu a_1 ∧ ∃ (a_2 : b5 × Int), ([aF a, AV.int k], az) = ([aF a_2.1, AV.int a_2.2], az) ∧
 (aG (aL a_2.1) = true ∧ (aH (aa (aX 52 a_2.1.hl a_2.1.bl)) ≤ 100000 ∧ a_2.1.bl.length ≤ 100000) ∧ (0 : Int) ≤ a_2.2 ∧ a_2.2 < (↑(a_2.1.bl.length) : Int)) ∧ aZ
 (decide ((List.length (an (aa a_1)) + List.length (strs (dj (aL a_2.1) a_2.2.toNat)) + 1) * 17 ≤ 70368744177664)) (K (AV.ae 9 (List.take (List.length (an (aa
 a_1)) + List.length (strs (dj (aL a_2.1) a_2.2.toNat))) (List.drop 0 (List.take (List.length (an (aa a_1))) (strs (an (aa a_1))) ++ strs (dj (aL a_2.1)
 a_2.2.toNat))))) [])) ∧ ∃ (a_1 : List AV), ([AV.ae 52 [AV.agg [AV.int z3, AV.str z4, AV.int z5, AV.ae 52 z6]]], az) = ([AV.ae 52 a_1], az) ∧ bu a_1 ∧ ∃ (a_2 :
 b5 × Int), ([aF a, AV.int k], az) = ([aF a_2.1, AV.int a_2.2], az) ∧ (aG (aL a_2.1) = true ∧ (aH (aa (aX 52 a_2.1.hl a_2.1.bl)) ≤ 100000 ∧ a_2.1.bl.length ≤
 100000) ∧ (0 : Int) ≤ a_2.2 ∧ a_2.2 < (↑(a_2.1.bl.length) : Int)) ∧ aZ (decide ((List.length (an (aa a_1)) + List.length (strs (dj (aL a_2.1) a_2.2.toNat)) + 1)
 * 17 ≤ 70368744177664)) (K (AV.ae 9 (List.take (List.length (an (aa a_1)) + List.length (strs (dj (aL a_2.1) a_2.2.toNat))) (List.drop 0 (List.take (List.length
 (an (aa a_1))) (strs (an (aa a_1))) ++ strs (dj (aL a_2.1) a_2.2.toNat))))) [])) ∧ ∃ (a_1 : List AV), ([AV.ae 52 [AV.agg [AV.int z3, AV.str z4, AV.int z5, AV.ae
 52 z6]]], az) = ([AV.ae 52 a_1], az) ∧ bu a_1 ∧ ∃ (a_2 : b5 × Int), ([aF a, AV.int k], az) = ([aF a_2.1, AV.int a_2.2], az) ∧ (aG (aL a_2.1) = true ∧ (aH (aa
 (aX 52 a_2.1.hl a_2.1.bl)) ≤ 100000 ∧ a_2.1.bl.length ≤ 100000) ∧ (0 : Int) ≤ a_2.2 ∧ a_2.2 < (↑(a_2.1.bl.length) : Int)) ∧ aZ (decide ((List.length (an (aa
 a_1)) + List.length (strs (dj (aL a_2.1) a_2.2.toNat)) + 1) * 17 ≤ 70368744177664)) (K (AV.ae 9 (List.take (List.length (an (aa a_1)) + List.length (strs (dj
 (aL a_2.1) a_2.2.toNat))) (List.drop 0 (List.take (List.length (an (aa a_1))) (strs (an (aa a_1))) ++ strs (dj (aL a_2.1) a_2.2.toNat))))) [])) (∃ (a_1 : LA),
 ([AV.agg [AV.int (toInt (ad z1 0)), AV.agg [AV.str (toStr (ad (ad z1 1) 0)), AV.ae 52 (ah (ad (ad z1 1) 1))], AV.agg [AV.int z3, AV.str z4, AV.int z5, AV.ae 52
 z6], AV.agg [AV.int (toInt (ad (ad z1 3) 0)), AV.str (toStr (ad (ad z1 3) 1)), AV.int (toInt (ad (ad z1 3) 2)), AV.ae 52 (ah (ad (ad z1 3) 3))]]], az) =
 ([AV.agg [AV.int a_1.op, AV.agg [AV.str a_1.s, AV.ae 52 a_1.l], AV.agg [AV.int a_1.o1, AV.str a_1.s1, AV.int a_1.n1, AV.ae 52 a_1.l1], AV.agg [AV.int a_1.o2,
 AV.str a_1.s2, AV.int a_1.n2, AV.ae 52 a_1.l2]]], az) ∧ fP a_1 ∧ K (AV.ae 9 (List.take (List.length (cx (LA.lt a_1))) (List.drop 0 (strs (cx (LA.lt a_1))))))
 []))) := by kernel_rfl
def LW (a : b5 × Int) : Out (AV × List Dn.Obj) := .one (.ae 9 (strs (eM (aL a.1) a.2.toNat)), [])
theorem y9 (l : Lt) : aH [l.x] ≤ dC l := by
 simp only [dC, aH]; omega
theorem EU (x : AV) : aa [oM 52 (ad x 2)] = [(bz x).x] := by
 simp only [aa, ac2, ac3, ob]; rfl
theorem qV {a : b5} (h : bZ a) (k : Nat) : (dj (aL a) k).length ≤ 100000 := by
 have h5 : (cQ (aL a)).length ≤ 100000 := by
  have h6 := cq (aa (aX 52 a.hl a.bl))
  rw [jh 52 a.rel a.hl a.bl] at h6
  exact Nat.le_trans h6 h.1
 have h7 := jV (cQ (aL a)) []
 refine Nat.le_trans (List.length_filter_le _ _) ?_
 unfold bq
 cases aG (aL a)
 ·simp
 ·rw [aa7]; omega
theorem YO (κ : Kp) : bJ (Pf κ) 12 82 (a8 JY x8 LW) := by
 refine bh ?_
 rintro ⟨a, k⟩ K ⟨h1, h2, h3, h4⟩ ho
 refine Eq.mpr (y24 κ a k K) ?_
 simp only at h1 h2 h3 h4
 have hk : k.toNat < a.bl.length := by omega
 have hlit := fj h2 hk
 have hv := cq [(bz (nth a.bl k.toNat)).x]
 have hc := y9 (bz (nth a.bl k.toNat))
 have ho' : K (.ae 9 (strs (eM (aL a) k.toNat))) [] := ho
 unfold eM at ho'
 rw [show (aL a).body = bn a.bl from rfl, fM _ hk, show (bz (nth a.bl k.toNat)).op = toInt (ad (nth a.bl k.toNat) 0) from rfl] at ho'
 simp only [and_self]
 rw [aq, aa1, aa0, aa0, af, aa0, aa2]
 refine ⟨⟨h3, h4⟩, fun e => ?_, fun e => ?_⟩
 ·rw [aa6 e] at ho'
  refine ⟨[oM 52 (ad (nth a.bl k.toNat) 2)], rfl, by simp only [bu, EU]; omega, (a, k), rfl, ⟨h1, h2, h3, h4⟩, ?_⟩
  have hol := qV h2 k.toNat
  simp only [EU, aM, ab0, cB, aq, aa0]
  refine ⟨by omega, ?_⟩
  rw [← gn, List.take_of_length_le (by simp [aM])]
  exact ho'
 ·rw [aa4 e] at ho'
  refine ⟨nf (nth a.bl k.toNat), rfl, by rw [fP, cM]; exact hlit, ?_⟩
  simp only [cM, ab0, cB]
  exact ho'
noncomputable def OK (κ : Kp) : Env := (Pf κ).ar 82 (a8 JY x8 LW)
theorem XJ (κ : Kp) : aw (OK κ) := (e63 κ).ar (TF κ) (YO κ)
theorem S7 (κ : Kp) : ai (OK κ) := (TF κ).ar aJ
theorem y52 (κ : Kp) (a : b5) (k : Int) (es : List (Value × AV)) (K : AV → List Dn.Obj → Prop) : (a9 (OK κ) 12 152 [.mp 0, aF a, .int k] [.map 9 4 es] K) = (
 letI z1 := Value × AV
 letI z2 := AV.bool false
 letI z3 := (0 : Int)
 letI z4 := K z2 [Dn.Obj.map 9 4 es]
 aZ (decide (z3 ≤ k) && decide (k < (↑(a.bl.length) : Int))) (ax (toInt (ad (nth a.bl k.toNat) 0) == (1 : Int)) (∃ (a_1 : ByteArray × List AV), ([AV.agg [AV.str
 (toStr (ad (ad (nth a.bl k.toNat) 1) 0)), AV.ae 52 (ah (ad (ad (nth a.bl k.toNat) 1) 1))]], az) = ([AV.agg [AV.str a_1.1, AV.ae 52 a_1.2]], az) ∧ jz a_1 ∧ ∃ (a
 : List AV × List z1), ([AV.mp 0, AV.ae 9 (List.take (List.length (cZ (aa a_1.2))) (List.drop 0 (strs (cZ (aa a_1.2)))))], [Dn.Obj.map 9 4 es]) = ([AV.mp 0,
 AV.ae 9 a.1], [Dn.Obj.map 9 4 a.2]) ∧ br a ∧ K (AV.bool (gm a.2 a.1)) [Dn.Obj.map 9 4 a.2]) (ax (toInt (ad (nth a.bl k.toNat) 0) == (3 : Int)) (∃ (a_1 : TA),
 ([AV.mp 0, AV.agg [AV.int (toInt (ad (ad (nth a.bl k.toNat) 2) 0)), AV.str (toStr (ad (ad (nth a.bl k.toNat) 2) 1)), AV.int (toInt (ad (ad (nth a.bl k.toNat) 2)
 2)), AV.ae 52 (ah (ad (ad (nth a.bl k.toNat) 2) 3))], AV.agg [AV.int (toInt (ad (ad (nth a.bl k.toNat) 3) 0)), AV.str (toStr (ad (ad (nth a.bl k.toNat) 3) 1)),
 AV.int (toInt (ad (ad (nth a.bl k.toNat) 3) 2)), AV.ae 52 (ah (ad (ad (nth a.bl k.toNat) 3) 3))]], [Dn.Obj.map 9 4 es]) = ([AV.mp 0, AV.agg [AV.int a_1.o1,
 AV.str a_1.s1, AV.int a_1.n1, AV.ae 52 a_1.l1], AV.agg [AV.int a_1.o2, AV.str a_1.s2, AV.int a_1.n2, AV.ae 52 a_1.l2]], [Dn.Obj.map 9 4 a_1.es]) ∧ pb a_1 ∧ ax
 (uY a_1.es (TA.x a_1) (TA.y a_1)) (K (AV.bool true) [Dn.Obj.map 9 4 a_1.es]) (∃ (a_2 : TA), ([AV.mp 0, AV.agg [AV.int (toInt (ad (ad (nth a.bl k.toNat) 3) 0)),
 AV.str (toStr (ad (ad (nth a.bl k.toNat) 3) 1)), AV.int (toInt (ad (ad (nth a.bl k.toNat) 3) 2)), AV.ae 52 (ah (ad (ad (nth a.bl k.toNat) 3) 3))], AV.agg
 [AV.int (toInt (ad (ad (nth a.bl k.toNat) 2) 0)), AV.str (toStr (ad (ad (nth a.bl k.toNat) 2) 1)), AV.int (toInt (ad (ad (nth a.bl k.toNat) 2) 2)), AV.ae 52 (ah
 (ad (ad (nth a.bl k.toNat) 2) 3))]], [Dn.Obj.map 9 4 a_1.es]) = ([AV.mp 0, AV.agg [AV.int a_2.o1, AV.str a_2.s1, AV.int a_2.n1, AV.ae 52 a_2.l1], AV.agg [AV.int
 a_2.o2, AV.str a_2.s2, AV.int a_2.n2, AV.ae 52 a_2.l2]], [Dn.Obj.map 9 4 a_2.es]) ∧ pb a_2 ∧ ax (uY a_2.es (TA.x a_2) (TA.y a_2)) (K (AV.bool true) [Dn.Obj.map
 9 4 a_2.es]) (∃ (a_3 : LA), ([AV.agg [AV.int (toInt (ad (nth a.bl k.toNat) 0)), AV.agg [AV.str (toStr (ad (ad (nth a.bl k.toNat) 1) 0)), AV.ae 52 (ah (ad (ad
 (nth a.bl k.toNat) 1) 1))], AV.agg [AV.int (toInt (ad (ad (nth a.bl k.toNat) 2) 0)), AV.str (toStr (ad (ad (nth a.bl k.toNat) 2) 1)), AV.int (toInt (ad (ad (nth
 a.bl k.toNat) 2) 2)), AV.ae 52 (ah (ad (ad (nth a.bl k.toNat) 2) 3))], AV.agg [AV.int (toInt (ad (ad (nth a.bl k.toNat) 3) 0)), AV.str (toStr (ad (ad (nth a.bl
 k.toNat) 3) 1)), AV.int (toInt (ad (ad (nth a.bl k.toNat) 3) 2)), AV.ae 52 (ah (ad (ad (nth a.bl k.toNat) 3) 3))]]], az) = ([AV.agg [AV.int a_3.op, AV.agg
 [AV.str a_3.s, AV.ae 52 a_3.l], AV.agg [AV.int a_3.o1, AV.str a_3.s1, AV.int a_3.n1, AV.ae 52 a_3.l1], AV.agg [AV.int a_3.o2, AV.str a_3.s2, AV.int a_3.n2,
 AV.ae 52 a_3.l2]]], az) ∧ fP a_3 ∧ ∃ (a : List AV × List z1), ([AV.mp 0, AV.ae 9 (List.take (List.length (cx (LA.lt a_3))) (List.drop 0 (strs (cx (LA.lt
 a_3)))))], [Dn.Obj.map 9 4 a_2.es]) = ([AV.mp 0, AV.ae 9 a.1], [Dn.Obj.map 9 4 a.2]) ∧ br a ∧ K (AV.bool (gm a.2 a.1)) [Dn.Obj.map 9 4 a.2]))) (ax (toInt (ad
 (nth a.bl k.toNat) 0) == (2 : Int)) (∃ (a_1 : LA), ([AV.agg [AV.int (toInt (ad (nth a.bl k.toNat) 0)), AV.agg [AV.str (toStr (ad (ad (nth a.bl k.toNat) 1) 0)),
 AV.ae 52 (ah (ad (ad (nth a.bl k.toNat) 1) 1))], AV.agg [AV.int (toInt (ad (ad (nth a.bl k.toNat) 2) 0)), AV.str (toStr (ad (ad (nth a.bl k.toNat) 2) 1)),
 AV.int (toInt (ad (ad (nth a.bl k.toNat) 2) 2)), AV.ae 52 (ah (ad (ad (nth a.bl k.toNat) 2) 3))], AV.agg [AV.int (toInt (ad (ad (nth a.bl k.toNat) 3) 0)),
 AV.str (toStr (ad (ad (nth a.bl k.toNat) 3) 1)), AV.int (toInt (ad (ad (nth a.bl k.toNat) 3) 2)), AV.ae 52 (ah (ad (ad (nth a.bl k.toNat) 3) 3))]]], az) =
 ([AV.agg [AV.int a_1.op, AV.agg [AV.str a_1.s, AV.ae 52 a_1.l], AV.agg [AV.int a_1.o1, AV.str a_1.s1, AV.int a_1.n1, AV.ae 52 a_1.l1], AV.agg [AV.int a_1.o2,
 AV.str a_1.s2, AV.int a_1.n2, AV.ae 52 a_1.l2]]], az) ∧ fP a_1 ∧ ∃ (a : List AV × List z1), ([AV.mp 0, AV.ae 9 (List.take (List.length (cx (LA.lt a_1)))
 (List.drop 0 (strs (cx (LA.lt a_1)))))], [Dn.Obj.map 9 4 es]) = ([AV.mp 0, AV.ae 9 a.1], [Dn.Obj.map 9 4 a.2]) ∧ br a ∧ K (AV.bool (gm a.2 a.1)) [Dn.Obj.map 9 4
 a.2]) (ax (toInt (ad (nth a.bl k.toNat) 0) == (4 : Int)) (∃ (a_1 : LA), ([AV.agg [AV.int (toInt (ad (nth a.bl k.toNat) 0)), AV.agg [AV.str (toStr (ad (ad (nth
 a.bl k.toNat) 1) 0)), AV.ae 52 (ah (ad (ad (nth a.bl k.toNat) 1) 1))], AV.agg [AV.int (toInt (ad (ad (nth a.bl k.toNat) 2) 0)), AV.str (toStr (ad (ad (nth a.bl
 k.toNat) 2) 1)), AV.int (toInt (ad (ad (nth a.bl k.toNat) 2) 2)), AV.ae 52 (ah (ad (ad (nth a.bl k.toNat) 2) 3))], AV.agg [AV.int (toInt (ad (ad (nth a.bl
 k.toNat) 3) 0)), AV.str (toStr (ad (ad (nth a.bl k.toNat) 3) 1)), AV.int (toInt (ad (ad (nth a.bl k.toNat) 3) 2)), AV.ae 52 (ah (ad (ad (nth a.bl k.toNat) 3)
 3))]]], az) = ([AV.agg [AV.int a_1.op, AV.agg [AV.str a_1.s, AV.ae 52 a_1.l], AV.agg [AV.int a_1.o1, AV.str a_1.s1, AV.int a_1.n1, AV.ae 52 a_1.l1], AV.agg
 [AV.int a_1.o2, AV.str a_1.s2, AV.int a_1.n2, AV.ae 52 a_1.l2]]], az) ∧ fP a_1 ∧ ∃ (a : List AV × List z1), ([AV.mp 0, AV.ae 9 (List.take (List.length (cx
 (LA.lt a_1))) (List.drop 0 (strs (cx (LA.lt a_1)))))], [Dn.Obj.map 9 4 es]) = ([AV.mp 0, AV.ae 9 a.1], [Dn.Obj.map 9 4 a.2]) ∧ br a ∧ K (AV.bool (gm a.2 a.1))
 [Dn.Obj.map 9 4 a.2]) (ax (toInt (ad (nth a.bl k.toNat) 0) == (5 : Int)) (∃ (a_1 : LA), ([AV.agg [AV.int (toInt (ad (nth a.bl k.toNat) 0)), AV.agg [AV.str
 (toStr (ad (ad (nth a.bl k.toNat) 1) 0)), AV.ae 52 (ah (ad (ad (nth a.bl k.toNat) 1) 1))], AV.agg [AV.int (toInt (ad (ad (nth a.bl k.toNat) 2) 0)), AV.str
 (toStr (ad (ad (nth a.bl k.toNat) 2) 1)), AV.int (toInt (ad (ad (nth a.bl k.toNat) 2) 2)), AV.ae 52 (ah (ad (ad (nth a.bl k.toNat) 2) 3))], AV.agg [AV.int
 (toInt (ad (ad (nth a.bl k.toNat) 3) 0)), AV.str (toStr (ad (ad (nth a.bl k.toNat) 3) 1)), AV.int (toInt (ad (ad (nth a.bl k.toNat) 3) 2)), AV.ae 52 (ah (ad (ad
 (nth a.bl k.toNat) 3) 3))]]], az) = ([AV.agg [AV.int a_1.op, AV.agg [AV.str a_1.s, AV.ae 52 a_1.l], AV.agg [AV.int a_1.o1, AV.str a_1.s1, AV.int a_1.n1, AV.ae
 52 a_1.l1], AV.agg [AV.int a_1.o2, AV.str a_1.s2, AV.int a_1.n2, AV.ae 52 a_1.l2]]], az) ∧ fP a_1 ∧ ∃ (a : List AV × List z1), ([AV.mp 0, AV.ae 9 (List.take
 (List.length (cx (LA.lt a_1))) (List.drop 0 (strs (cx (LA.lt a_1)))))], [Dn.Obj.map 9 4 es]) = ([AV.mp 0, AV.ae 9 a.1], [Dn.Obj.map 9 4 a.2]) ∧ br a ∧ K
 (AV.bool (gm a.2 a.1)) [Dn.Obj.map 9 4 a.2]) (ax (toInt (ad (nth a.bl k.toNat) 0) == (6 : Int)) (∃ (a_1 : LA), ([AV.agg [AV.int (toInt (ad (nth a.bl k.toNat)
 0)), AV.agg [AV.str (toStr (ad (ad (nth a.bl k.toNat) 1) 0)), AV.ae 52 (ah (ad (ad (nth a.bl k.toNat) 1) 1))], AV.agg [AV.int (toInt (ad (ad (nth a.bl k.toNat)
 2) 0)), AV.str (toStr (ad (ad (nth a.bl k.toNat) 2) 1)), AV.int (toInt (ad (ad (nth a.bl k.toNat) 2) 2)), AV.ae 52 (ah (ad (ad (nth a.bl k.toNat) 2) 3))],
 AV.agg [AV.int (toInt (ad (ad (nth a.bl k.toNat) 3) 0)), AV.str (toStr (ad (ad (nth a.bl k.toNat) 3) 1)), AV.int (toInt (ad (ad (nth a.bl k.toNat) 3) 2)), AV.ae
 52 (ah (ad (ad (nth a.bl k.toNat) 3) 3))]]], az) = ([AV.agg [AV.int a_1.op, AV.agg [AV.str a_1.s, AV.ae 52 a_1.l], AV.agg [AV.int a_1.o1, AV.str a_1.s1, AV.int
 a_1.n1, AV.ae 52 a_1.l1], AV.agg [AV.int a_1.o2, AV.str a_1.s2, AV.int a_1.n2, AV.ae 52 a_1.l2]]], az) ∧ fP a_1 ∧ ∃ (a : List AV × List z1), ([AV.mp 0, AV.ae 9
 (List.take (List.length (cx (LA.lt a_1))) (List.drop 0 (strs (cx (LA.lt a_1)))))], [Dn.Obj.map 9 4 es]) = ([AV.mp 0, AV.ae 9 a.1], [Dn.Obj.map 9 4 a.2]) ∧ br a
 ∧ K (AV.bool (gm a.2 a.1)) [Dn.Obj.map 9 4 a.2]) (ax (toInt (ad (nth a.bl k.toNat) 0) == (7 : Int)) ((∃ (a_1 : b5 × Int), ([aF a, AV.int k], az) = ([aF a_1.1,
 AV.int a_1.2], az) ∧ (aG (aL a_1.1) = true ∧ (aH (aa (aX 52 a_1.1.hl a_1.1.bl)) ≤ 100000 ∧ a_1.1.bl.length ≤ 100000) ∧ z3 ≤ a_1.2 ∧ a_1.2 < (↑(a_1.1.bl.length)
 : Int)) ∧ ∃ (a_2 : List AV × List z1), ([AV.mp 0, AV.ae 9 (strs (dj (aL a_1.1) a_1.2.toNat))], [Dn.Obj.map 9 4 es]) = ([AV.mp 0, AV.ae 9 a_2.1], [Dn.Obj.map 9 4
 a_2.2]) ∧ br a_2 ∧ ax (gm a_2.2 a_2.1) (∃ (a_3 : ByteArray × List AV), ([AV.agg [AV.str (toStr (ad (ad (nth a.bl k.toNat) 1) 0)), AV.ae 52 (ah (ad (ad (nth a.bl
 k.toNat) 1) 1))]], az) = ([AV.agg [AV.str a_3.1, AV.ae 52 a_3.2]], az) ∧ jz a_3 ∧ ∃ (a : List AV × List z1), ([AV.mp 0, AV.ae 9 (List.take (List.length (cZ (aa
 a_3.2))) (List.drop 0 (strs (cZ (aa a_3.2)))))], [Dn.Obj.map 9 4 a_2.2]) = ([AV.mp 0, AV.ae 9 a.1], [Dn.Obj.map 9 4 a.2]) ∧ br a ∧ K (AV.bool (gm a.2 a.1))
 [Dn.Obj.map 9 4 a.2]) (K z2 [Dn.Obj.map 9 4 a_2.2])) ∧ (∃ (a_1 : b5 × Int), ([aF a, AV.int k], az) = ([aF a_1.1, AV.int a_1.2], az) ∧ (aG (aL a_1.1) = true ∧
 (aH (aa (aX 52 a_1.1.hl a_1.1.bl)) ≤ 100000 ∧ a_1.1.bl.length ≤ 100000) ∧ z3 ≤ a_1.2 ∧ a_1.2 < (↑(a_1.1.bl.length) : Int)) ∧ ∃ (a_2 : List AV × List z1),
 ([AV.mp 0, AV.ae 9 (strs (dj (aL a_1.1) a_1.2.toNat))], [Dn.Obj.map 9 4 es]) = ([AV.mp 0, AV.ae 9 a_2.1], [Dn.Obj.map 9 4 a_2.2]) ∧ br a_2 ∧ ax (gm a_2.2 a_2.1)
 (∃ (a_3 : ByteArray × List AV), ([AV.agg [AV.str (toStr (ad (ad (nth a.bl k.toNat) 1) 0)), AV.ae 52 (ah (ad (ad (nth a.bl k.toNat) 1) 1))]], az) = ([AV.agg
 [AV.str a_3.1, AV.ae 52 a_3.2]], az) ∧ jz a_3 ∧ ∃ (a : List AV × List z1), ([AV.mp 0, AV.ae 9 (List.take (List.length (cZ (aa a_3.2))) (List.drop 0 (strs (cZ
 (aa a_3.2)))))], [Dn.Obj.map 9 4 a_2.2]) = ([AV.mp 0, AV.ae 9 a.1], [Dn.Obj.map 9 4 a.2]) ∧ br a ∧ K (AV.bool (gm a.2 a.1)) [Dn.Obj.map 9 4 a.2]) (K z2
 [Dn.Obj.map 9 4 a_2.2])) ∧ (∃ (a_1 : b5 × Int), ([aF a, AV.int k], az) = ([aF a_1.1, AV.int a_1.2], az) ∧ (aG (aL a_1.1) = true ∧ (aH (aa (aX 52 a_1.1.hl
 a_1.1.bl)) ≤ 100000 ∧ a_1.1.bl.length ≤ 100000) ∧ z3 ≤ a_1.2 ∧ a_1.2 < (↑(a_1.1.bl.length) : Int)) ∧ ∃ (a_2 : List AV × List z1), ([AV.mp 0, AV.ae 9 (strs (dj
 (aL a_1.1) a_1.2.toNat))], [Dn.Obj.map 9 4 es]) = ([AV.mp 0, AV.ae 9 a_2.1], [Dn.Obj.map 9 4 a_2.2]) ∧ br a_2 ∧ ax (gm a_2.2 a_2.1) (∃ (a_3 : ByteArray × List
 AV), ([AV.agg [AV.str (toStr (ad (ad (nth a.bl k.toNat) 1) 0)), AV.ae 52 (ah (ad (ad (nth a.bl k.toNat) 1) 1))]], az) = ([AV.agg [AV.str a_3.1, AV.ae 52
 a_3.2]], az) ∧ jz a_3 ∧ ∃ (a : List AV × List z1), ([AV.mp 0, AV.ae 9 (List.take (List.length (cZ (aa a_3.2))) (List.drop 0 (strs (cZ (aa a_3.2)))))],
 [Dn.Obj.map 9 4 a_2.2]) = ([AV.mp 0, AV.ae 9 a.1], [Dn.Obj.map 9 4 a.2]) ∧ br a ∧ K (AV.bool (gm a.2 a.1)) [Dn.Obj.map 9 4 a.2]) (K z2 [Dn.Obj.map 9 4 a_2.2]))
 ∧ ∃ (a_1 : b5 × Int), ([aF a, AV.int k], az) = ([aF a_1.1, AV.int a_1.2], az) ∧ (aG (aL a_1.1) = true ∧ (aH (aa (aX 52 a_1.1.hl a_1.1.bl)) ≤ 100000 ∧
 a_1.1.bl.length ≤ 100000) ∧ z3 ≤ a_1.2 ∧ a_1.2 < (↑(a_1.1.bl.length) : Int)) ∧ ∃ (a_2 : List AV × List z1), ([AV.mp 0, AV.ae 9 (strs (dj (aL a_1.1)
 a_1.2.toNat))], [Dn.Obj.map 9 4 es]) = ([AV.mp 0, AV.ae 9 a_2.1], [Dn.Obj.map 9 4 a_2.2]) ∧ br a_2 ∧ ax (gm a_2.2 a_2.1) (∃ (a_3 : ByteArray × List AV),
 ([AV.agg [AV.str (toStr (ad (ad (nth a.bl k.toNat) 1) 0)), AV.ae 52 (ah (ad (ad (nth a.bl k.toNat) 1) 1))]], az) = ([AV.agg [AV.str a_3.1, AV.ae 52 a_3.2]], az)
 ∧ jz a_3 ∧ ∃ (a : List AV × List z1), ([AV.mp 0, AV.ae 9 (List.take (List.length (cZ (aa a_3.2))) (List.drop 0 (strs (cZ (aa a_3.2)))))], [Dn.Obj.map 9 4
 a_2.2]) = ([AV.mp 0, AV.ae 9 a.1], [Dn.Obj.map 9 4 a.2]) ∧ br a ∧ K (AV.bool (gm a.2 a.1)) [Dn.Obj.map 9 4 a.2]) (K z2 [Dn.Obj.map 9 4 a_2.2])) ((∃ (a_1 : List
 AV), ([AV.ae 52 (ah (ad (ad (nth a.bl k.toNat) 1) 1))], az) = ([AV.ae 52 a_1], az) ∧ bu a_1 ∧ aZ (decide (List.length (List.take (List.length (an (aa a_1)))
 (List.drop 0 (strs (an (aa a_1))))) ≤ 9223372036854775807)) (ax (decide (bm (toStr (ad (ad (nth a.bl k.toNat) 3) 1)) (List.take (List.length (an (aa a_1)))
 (List.drop 0 (strs (an (aa a_1))))) z3 ≥ z3)) (∃ (a_2 : b5 × Int), ([aF a, AV.int k], az) = ([aF a_2.1, AV.int a_2.2], az) ∧ (aG (aL a_2.1) = true ∧ (aH (aa (aX
 52 a_2.1.hl a_2.1.bl)) ≤ 100000 ∧ a_2.1.bl.length ≤ 100000) ∧ z3 ≤ a_2.2 ∧ a_2.2 < (↑(a_2.1.bl.length) : Int)) ∧ ∃ (a_3 : List AV × List z1), ([AV.mp 0, AV.ae 9
 (strs (dj (aL a_2.1) a_2.2.toNat))], [Dn.Obj.map 9 4 es]) = ([AV.mp 0, AV.ae 9 a_3.1], [Dn.Obj.map 9 4 a_3.2]) ∧ br a_3 ∧ ax (gm a_3.2 a_3.1) (∃ (a_4 :
 ByteArray × List AV), ([AV.agg [AV.str (toStr (ad (ad (nth a.bl k.toNat) 1) 0)), AV.ae 52 (ah (ad (ad (nth a.bl k.toNat) 1) 1))]], az) = ([AV.agg [AV.str a_4.1,
 AV.ae 52 a_4.2]], az) ∧ jz a_4 ∧ ∃ (a : List AV × List z1), ([AV.mp 0, AV.ae 9 (List.take (List.length (cZ (aa a_4.2))) (List.drop 0 (strs (cZ (aa a_4.2)))))],
 [Dn.Obj.map 9 4 a_3.2]) = ([AV.mp 0, AV.ae 9 a.1], [Dn.Obj.map 9 4 a.2]) ∧ br a ∧ K (AV.bool (gm a.2 a.1)) [Dn.Obj.map 9 4 a.2]) (K z2 [Dn.Obj.map 9 4 a_3.2]))
 z4)) ∧ (∃ (a_1 : List AV), ([AV.ae 52 (ah (ad (ad (nth a.bl k.toNat) 1) 1))], az) = ([AV.ae 52 a_1], az) ∧ bu a_1 ∧ aZ (decide (List.length (List.take
 (List.length (an (aa a_1))) (List.drop 0 (strs (an (aa a_1))))) ≤ 9223372036854775807)) (ax (decide (bm (toStr (ad (ad (nth a.bl k.toNat) 3) 1)) (List.take
 (List.length (an (aa a_1))) (List.drop 0 (strs (an (aa a_1))))) z3 ≥ z3)) (∃ (a_2 : b5 × Int), ([aF a, AV.int k], az) = ([aF a_2.1, AV.int a_2.2], az) ∧ (aG (aL
 a_2.1) = true ∧ (aH (aa (aX 52 a_2.1.hl a_2.1.bl)) ≤ 100000 ∧ a_2.1.bl.length ≤ 100000) ∧ z3 ≤ a_2.2 ∧ a_2.2 < (↑(a_2.1.bl.length) : Int)) ∧ ∃ (a_3 : List AV ×
 List z1), ([AV.mp 0, AV.ae 9 (strs (dj (aL a_2.1) a_2.2.toNat))], [Dn.Obj.map 9 4 es]) = ([AV.mp 0, AV.ae 9 a_3.1], [Dn.Obj.map 9 4 a_3.2]) ∧ br a_3 ∧ ax (gm
 a_3.2 a_3.1) (∃ (a_4 : ByteArray × List AV), ([AV.agg [AV.str (toStr (ad (ad (nth a.bl k.toNat) 1) 0)), AV.ae 52 (ah (ad (ad (nth a.bl k.toNat) 1) 1))]], az) =
 ([AV.agg [AV.str a_4.1, AV.ae 52 a_4.2]], az) ∧ jz a_4 ∧ ∃ (a : List AV × List z1), ([AV.mp 0, AV.ae 9 (List.take (List.length (cZ (aa a_4.2))) (List.drop 0
 (strs (cZ (aa a_4.2)))))], [Dn.Obj.map 9 4 a_3.2]) = ([AV.mp 0, AV.ae 9 a.1], [Dn.Obj.map 9 4 a.2]) ∧ br a ∧ K (AV.bool (gm a.2 a.1)) [Dn.Obj.map 9 4 a.2]) (K
 z2 [Dn.Obj.map 9 4 a_3.2])) z4)) ∧ (∃ (a_1 : List AV), ([AV.ae 52 (ah (ad (ad (nth a.bl k.toNat) 1) 1))], az) = ([AV.ae 52 a_1], az) ∧ bu a_1 ∧ aZ (decide
 (List.length (List.take (List.length (an (aa a_1))) (List.drop 0 (strs (an (aa a_1))))) ≤ 9223372036854775807)) (ax (decide (bm (toStr (ad (ad (nth a.bl
 k.toNat) 3) 1)) (List.take (List.length (an (aa a_1))) (List.drop 0 (strs (an (aa a_1))))) z3 ≥ z3)) (∃ (a_2 : b5 × Int), ([aF a, AV.int k], az) = ([aF a_2.1,
 AV.int a_2.2], az) ∧ (aG (aL a_2.1) = true ∧ (aH (aa (aX 52 a_2.1.hl a_2.1.bl)) ≤ 100000 ∧ a_2.1.bl.length ≤ 100000) ∧ z3 ≤ a_2.2 ∧ a_2.2 < (↑(a_2.1.bl.length)
 : Int)) ∧ ∃ (a_3 : List AV × List z1), ([AV.mp 0, AV.ae 9 (strs (dj (aL a_2.1) a_2.2.toNat))], [Dn.Obj.map 9 4 es]) = ([AV.mp 0, AV.ae 9 a_3.1], [Dn.Obj.map 9 4
 a_3.2]) ∧ br a_3 ∧ ax (gm a_3.2 a_3.1) (∃ (a_4 : ByteArray × List AV), ([AV.agg [AV.str (toStr (ad (ad (nth a.bl k.toNat) 1) 0)), AV.ae 52 (ah (ad (ad (nth a.bl
 k.toNat) 1) 1))]], az) = ([AV.agg [AV.str a_4.1, AV.ae 52 a_4.2]], az) ∧ jz a_4 ∧ ∃ (a : List AV × List z1), ([AV.mp 0, AV.ae 9 (List.take (List.length (cZ (aa
 a_4.2))) (List.drop 0 (strs (cZ (aa a_4.2)))))], [Dn.Obj.map 9 4 a_3.2]) = ([AV.mp 0, AV.ae 9 a.1], [Dn.Obj.map 9 4 a.2]) ∧ br a ∧ K (AV.bool (gm a.2 a.1))
 [Dn.Obj.map 9 4 a.2]) (K z2 [Dn.Obj.map 9 4 a_3.2])) z4)) ∧ ∃ (a_1 : List AV), ([AV.ae 52 (ah (ad (ad (nth a.bl k.toNat) 1) 1))], az) = ([AV.ae 52 a_1], az) ∧
 bu a_1 ∧ aZ (decide (List.length (List.take (List.length (an (aa a_1))) (List.drop 0 (strs (an (aa a_1))))) ≤ 9223372036854775807)) (ax (decide (bm (toStr (ad
 (ad (nth a.bl k.toNat) 3) 1)) (List.take (List.length (an (aa a_1))) (List.drop 0 (strs (an (aa a_1))))) z3 ≥ z3)) (∃ (a_2 : b5 × Int), ([aF a, AV.int k], az) =
 ([aF a_2.1, AV.int a_2.2], az) ∧ (aG (aL a_2.1) = true ∧ (aH (aa (aX 52 a_2.1.hl a_2.1.bl)) ≤ 100000 ∧ a_2.1.bl.length ≤ 100000) ∧ z3 ≤ a_2.2 ∧ a_2.2 <
 (↑(a_2.1.bl.length) : Int)) ∧ ∃ (a_3 : List AV × List z1), ([AV.mp 0, AV.ae 9 (strs (dj (aL a_2.1) a_2.2.toNat))], [Dn.Obj.map 9 4 es]) = ([AV.mp 0, AV.ae 9
 a_3.1], [Dn.Obj.map 9 4 a_3.2]) ∧ br a_3 ∧ ax (gm a_3.2 a_3.1) (∃ (a_4 : ByteArray × List AV), ([AV.agg [AV.str (toStr (ad (ad (nth a.bl k.toNat) 1) 0)), AV.ae
 52 (ah (ad (ad (nth a.bl k.toNat) 1) 1))]], az) = ([AV.agg [AV.str a_4.1, AV.ae 52 a_4.2]], az) ∧ jz a_4 ∧ ∃ (a : List AV × List z1), ([AV.mp 0, AV.ae 9
 (List.take (List.length (cZ (aa a_4.2))) (List.drop 0 (strs (cZ (aa a_4.2)))))], [Dn.Obj.map 9 4 a_3.2]) = ([AV.mp 0, AV.ae 9 a.1], [Dn.Obj.map 9 4 a.2]) ∧ br a
 ∧ K (AV.bool (gm a.2 a.1)) [Dn.Obj.map 9 4 a.2]) (K z2 [Dn.Obj.map 9 4 a_3.2])) z4)))))))))) := by kernel_rfl
def PM (a : b5 × Int × List ByteArray) : List AV × List Dn.Obj := ([.mp 0, aF a.1, .int a.2.1], [.map 9 4 (cv a.2.2)])
def Jc (a : b5 × Int × List ByteArray) : Prop := aG (aL a.1) = true ∧ bZ a.1 ∧ 0 ≤ a.2.1 ∧ a.2.1 < a.1.bl.length
def LL (a : b5 × Int × List ByteArray) : Out (AV × List Dn.Obj) := .one (.bool (kq a.2.2 (aL a.1) a.2.1.toNat), [.map 9 4 (cv a.2.2)])
theorem Jj (x y : AV) (es : List (Value × AV)) : (TA.mk (toInt (ad x 0)) (toStr (ad x 1)) (toInt (ad x 2)) (ah (ad x 3)) (toInt (ad y 0)) (toStr (ad y 1)) (toInt (ad y 2)) (ah (ad y 3)) es).x = bI x := by rw [bX]; rfl
theorem yK (x y : AV) (es : List (Value × AV)) : (TA.mk (toInt (ad x 0)) (toStr (ad x 1)) (toInt (ad x 2)) (ah (ad x 3)) (toInt (ad y 0)) (toStr (ad y 1)) (toInt (ad y 2)) (ah (ad y 3)) es).y = bI y := by rw [bX]; rfl
def Gc (x y : AV) (es : List (Value × AV)) : TA := TA.mk (toInt (ad x 0)) (toStr (ad x 1)) (toInt (ad x 2)) (ah (ad x 3)) (toInt (ad y 0)) (toStr (ad y 1)) (toInt (ad y 2)) (ah (ad y 3)) es
theorem Zl (κ : Kp) : bJ (OK κ) 12 152 (a8 PM Jc LL) := by
 refine bh ?_
 rintro ⟨a, k, b⟩ K ⟨h1, h2, h3, h4⟩ ho
 refine Eq.mpr (y52 κ a k (cv b) K) ?_
 simp only at h1 h2 h3 h4
 have hk : k.toNat < a.bl.length := by omega
 have hlit := fj h2 hk
 have ho' : K (.bool (kq b (aL a) k.toNat)) [.map 9 4 (cv b)] := ho
 unfold kq at ho'
 rw [show (aL a).body = bn a.bl from rfl, fM _ hk, show (bz (nth a.bl k.toNat)).op = toInt (ad (nth a.bl k.toNat) 0) from rfl, show (bz (nth a.bl k.toNat)).a.l = aa (ah (ad (ad (nth a.bl k.toNat) 1) 1)) from rfl,
  show (bz (nth a.bl k.toNat)).x = bI (ad (nth a.bl k.toNat) 2) from rfl, show (bz (nth a.bl k.toNat)).y = bI (ad (nth a.bl k.toNat) 3) from rfl] at ho'
 have hlc : dC (bz (nth a.bl k.toNat)) = aH [bI (ad (nth a.bl k.toNat) 2), bI (ad (nth a.bl k.toNat) 3)] + aH (aa (ah (ad (ad (nth a.bl k.toNat) 1) 1))) := rfl
 have hcl : aH (aa (ah (ad (ad (nth a.bl k.toNat) 1) 1))) ≤ 100000 := by omega
 have hcx : aH [bI (ad (nth a.bl k.toNat) 2)] ≤ 100000 ∧ aH [bI (ad (nth a.bl k.toNat) 3)] ≤ 100000 := by
  simp only [aH] at hlc ⊢; omega
 have hvl := cq (aa (ah (ad (ad (nth a.bl k.toNat) 1) 1)))
 have hrl := AK (aa (ah (ad (ad (nth a.bl k.toNat) 1) 1)))
 have hol := qV h2 k.toNat
 have hll : (cx (bz (nth a.bl k.toNat))).length ≤ 100000 := by
  have e1 := cq [(bz (nth a.bl k.toNat)).x, (bz (nth a.bl k.toNat)).y]
  have e2 := cq (bz (nth a.bl k.toNat)).a.l
  simp only [cx, dC, ab9] at hlit ⊢; omega
 simp only [and_self]
 rw [aq, aa1, aa0, aa0]
 refine ⟨⟨h3, h4⟩, ?_⟩
 rw [af, beq_iff_eq, beq_eq_false_iff_ne]
 refine ⟨fun e1 => ?_, fun e1 => ?_⟩
 ·rw [aa6 e1, aa7] at ho'
  refine ⟨(toStr (ad (ad (nth a.bl k.toNat) 1) 0), ah (ad (ad (nth a.bl k.toNat) 1) 1)), rfl, hcl, (strs (cZ (aa (ah (ad (ad (nth a.bl k.toNat) 1) 1)))), cv b), by simp only [ab0, cB], by simp only [br, aM, aI]; omega, ?_⟩
  simp only [er]; exact ho'
 rw [aa4 e1, aa5] at ho'
 rw [af, beq_iff_eq, beq_eq_false_iff_ne]
 refine ⟨fun e2 => ?_, fun e2 => ?_⟩
 ·rw [aa6 e2, aa7] at ho'
  refine ⟨Gc (ad (nth a.bl k.toNat) 2) (ad (nth a.bl k.toNat) 3) (cv b), rfl, by unfold pb Gc; rw [yK]; exact hcx.2, ?_⟩
  unfold Gc
  rw [Jj, yK, xL]
  rw [af]
  refine ⟨fun f1 => by rw [f1] at ho'; exact ho', fun f1 => ?_⟩
  rw [f1, Bool.false_or] at ho'
  refine ⟨Gc (ad (nth a.bl k.toNat) 3) (ad (nth a.bl k.toNat) 2) (cv b), rfl, by unfold pb Gc; rw [yK]; exact hcx.1, ?_⟩
  unfold Gc
  rw [Jj, yK, xL, af]
  refine ⟨fun f2 => by rw [f2] at ho'; exact ho', fun f2 => ?_⟩
  rw [f2, Bool.false_or] at ho'
  exact ⟨nf (nth a.bl k.toNat), rfl, by rw [fP, cM]; exact hlit, (strs (cx (nf (nth a.bl k.toNat)).lt), cv b), by simp only [ab0, cB], by simp only [br, aM, aI]; rw [cM]; omega, by simp only [er, cM]; exact ho'⟩
 rw [aa4 e2, aa5] at ho'
 rw [af, beq_iff_eq, beq_eq_false_iff_ne]
 refine ⟨fun e3 => ?_, fun e3 => ?_⟩
 ·rw [aa6 e3] at ho'
  simp only [Bool.true_or, Bool.or_true, aa7] at ho'
  exact ⟨nf (nth a.bl k.toNat), rfl, by rw [fP, cM]; exact hlit, (strs (cx (nf (nth a.bl k.toNat)).lt), cv b), by simp only [ab0, cB], by simp only [br, aM, aI]; rw [cM]; omega, by simp only [er, cM]; exact ho'⟩
 rw [af, beq_iff_eq, beq_eq_false_iff_ne]
 refine ⟨fun e4 => ?_, fun e4 => ?_⟩
 ·rw [aa6 e4] at ho'
  simp only [Bool.true_or, Bool.or_true, aa7] at ho'
  exact ⟨nf (nth a.bl k.toNat), rfl, by rw [fP, cM]; exact hlit, (strs (cx (nf (nth a.bl k.toNat)).lt), cv b), by simp only [ab0, cB], by simp only [br, aM, aI]; rw [cM]; omega, by simp only [er, cM]; exact ho'⟩
 rw [af, beq_iff_eq, beq_eq_false_iff_ne]
 refine ⟨fun e5 => ?_, fun e5 => ?_⟩
 ·rw [aa6 e5] at ho'
  simp only [Bool.true_or, Bool.or_true, aa7] at ho'
  exact ⟨nf (nth a.bl k.toNat), rfl, by rw [fP, cM]; exact hlit, (strs (cx (nf (nth a.bl k.toNat)).lt), cv b), by simp only [ab0, cB], by simp only [br, aM, aI]; rw [cM]; omega, by simp only [er, cM]; exact ho'⟩
 rw [af, beq_iff_eq, beq_eq_false_iff_ne]
 refine ⟨fun e6 => ?_, fun e6 => ?_⟩
 ·rw [aa6 e6] at ho'
  simp only [Bool.true_or, Bool.or_true, aa7] at ho'
  exact ⟨nf (nth a.bl k.toNat), rfl, by rw [fP, cM]; exact hlit, (strs (cx (nf (nth a.bl k.toNat)).lt), cv b), by simp only [ab0, cB], by simp only [br, aM, aI]; rw [cM]; omega, by simp only [er, cM]; exact ho'⟩
 rw [aa4 e3, aa4 e4, aa4 e5, aa4 e6] at ho'
 simp only [Bool.false_or, aa5] at ho'
 rw [af, beq_iff_eq, beq_eq_false_iff_ne]
 refine ⟨fun e7 => ?_, fun e7 => ?_⟩
 ·rw [aa6 e7, Bool.true_or, ac0] at ho'
  refine ⟨(a, k), rfl, ⟨h1, h2, h3, h4⟩, (strs (dj (aL a) k.toNat), cv b), rfl, by simp only [br, aM, aI]; omega, af.2 ⟨fun f1 => ⟨(toStr (ad (ad (nth a.bl k.toNat) 1) 0), ah (ad (ad (nth a.bl k.toNat) 1) 1)), rfl, hcl, (strs (cZ (aa (ah (ad (ad (nth a.bl k.toNat) 1) 1)))), cv b), by simp only [ab0, cB], by simp only [br, aM, aI]; omega, ?_⟩, fun f1 => ?_⟩⟩
  ·rw [er] at f1
   simp only [er]
   rw [f1, ac0] at ho'; exact ho'
  ·rw [er] at f1
   rw [f1, Bool.false_and] at ho'; exact ho'
 ·rw [aa4 e7, Bool.false_or] at ho'
  refine ⟨_, rfl, hcl, ?_⟩
  have hp := fO (toStr (ad (ad (nth a.bl k.toNat) 3) 1)) (an (aa (ah (ad (ad (nth a.bl k.toNat) 1) 1)))) 0 (by omega)
  have hs : (bI (ad (nth a.bl k.toNat) 3)).s = toStr (ad (ad (nth a.bl k.toNat) 3) 1) := by rw [bX]; rfl
  simp only [ab0, cB, aM, hp]
  rw [aq, aa0, af]
  rw [hs] at ho'
  refine ⟨by omega, fun e8 => ?_, fun e8 => ?_⟩
  ·rw [e8, ac0] at ho'
   refine ⟨(a, k), rfl, ⟨h1, h2, h3, h4⟩, (strs (dj (aL a) k.toNat), cv b), rfl, by simp only [br, aM, aI]; omega, af.2 ⟨fun f1 => ⟨(toStr (ad (ad (nth a.bl k.toNat) 1) 0), ah (ad (ad (nth a.bl k.toNat) 1) 1)), rfl, hcl, (strs (cZ (aa (ah (ad (ad (nth a.bl k.toNat) 1) 1)))), cv b), by simp only [ab0, cB], by simp only [br, aM, aI]; omega, ?_⟩, fun f1 => ?_⟩⟩
   ·rw [er] at f1
    simp only [er]
    rw [f1, ac0] at ho'; exact ho'
   ·rw [er] at f1
    rw [f1, Bool.false_and] at ho'; exact ho'
  ·rw [e8, Bool.false_and] at ho'; exact ho'
noncomputable def K5 (κ : Kp) : Env := (OK κ).ar 152 (a8 PM Jc LL)
theorem XW (κ : Kp) : aw (K5 κ) := (XJ κ).ar (S7 κ) (Zl κ)
theorem Vd (κ : Kp) : ai (K5 κ) := (S7 κ).ar aJ
def bw (l : List Bool) : List AV := l.map fun b => .lit (.bool b)
theorem fk (l : List Bool) : (bw l).length = l.length := by simp [bw]
theorem wU (l : List Bool) (k : Nat) : Dn.toBool (nth (bw l) k) = Rl.eR l k := by
 unfold Rl.eR
 rw [List.getD_eq_getElem?_getD]
 induction l generalizing k with
 | nil => rfl
 | cons a l ih =>
  cases k with
  | zero => rfl
  | succ k => simpa [bw, nth] using ih k
structure Ja where
 a : b5
 done : List Bool
 b : List ByteArray
 i : Int
 first : Int
abbrev DI (a : Ja) : S := sp 38 [(1, .a7 0 0 (bw a.done).length), (2, .mp 1), (3, .ptr 2 0 [] 0), (7, .int a.first), (11, .ae 55 a.a.bl), (12, .int a.a.bl.length), (13, .int a.i)] [.row 4 (bw a.done), .map 9 4 (cv a.b), .box 41 (aF a.a)]
theorem Xe (κ : Kp) (a : Ja) (es : List (Value × AV)) (I : Nat → S → Prop) (n : Nat) (K : Exit → S → Prop) : (vc (K5 κ) 12 126 none 2 (ag (Pr κ).toProgram 126 3) (sp 38 [(1, .a7 0 0 (bw a.done).length), (2, .mp 1), (3, .ptr 2 0 [] 0), (7, .int a.first), (11, .ae 55 a.a.bl), (12, .int a.a.bl.length), (13, .int a.i)] [.row 4 (bw a.done), .map 9 4 es, .box 41 (aF a.a)]) (bC (K5 κ) 126 3 2 I n K)) = (
 letI z1 := AV.agg [AV.agg [AV.str (a.a.rel), AV.ae 52 (a.a.hl)], AV.ae 55 (a.a.bl), AV.int (a.a.line)]
 letI z2 := IntKind.wrap IntKind.i64 (a.i + (1 : Int))
 letI z3 := List.length (a.a.bl)
 letI z4 := bw a.done
 letI z5 := List.length z4
 ax (decide (a.i < (↑z3 : Int))) (aZ (decide ((0 : Int) ≤ a.i) && decide (a.i < (↑z3 : Int))) (aZ (decide ((0 : Int) ≤ a.i) && decide (a.i < (↑z5 : Int))) (ax
 (Dn.toBool (nth z4 (0 + a.i.toNat))) (∃ (m : Nat), m < n ∧ I m (sp 38 [(1, AV.a7 0 0 z5), (2, AV.mp 1), (3, AV.ptr 2 0 [] 0), (7, AV.int a.first), (11, AV.ae 55
 (a.a.bl)), (12, AV.int (↑z3 : Int)), (13, AV.int z2)] [Obj.row 4 z4, Dn.Obj.map 9 4 es, Obj.box 41 z1])) (∃ (a_1 : b5 × Int × List ByteArray), ([AV.mp 0, AV.agg
 [AV.agg [AV.str (a.a.rel), AV.ae 52 (a.a.hl)], AV.ae 55 (a.a.bl), AV.int (a.a.line)], AV.int a.i], [Dn.Obj.map 9 4 es]) = ([AV.mp 0, aF a_1.1, AV.int a_1.2.1],
 [Dn.Obj.map 9 4 (cv (a_1.2.2))]) ∧ (aG (aL a_1.1) = true ∧ (aH (aa (aX 52 a_1.1.hl a_1.1.bl)) ≤ 100000 ∧ a_1.1.bl.length ≤ 100000) ∧ (0 : Int) ≤ a_1.2.1 ∧
 a_1.2.1 < (↑(a_1.1.bl.length) : Int)) ∧ ax (!kq (a_1.2.2) (aL a_1.1) a_1.2.1.toNat) (∃ (m : Nat), m < n ∧ I m (sp 38 [(1, AV.a7 0 0 z5), (2, AV.mp 1), (3,
 AV.ptr 2 0 [] 0), (7, AV.int a.first), (11, AV.ae 55 (a.a.bl)), (12, AV.int (↑z3 : Int)), (13, AV.int z2)] [Obj.row 4 z4, Dn.Obj.map 9 4 (cv (a_1.2.2)), Obj.box
 41 z1])) (ax (toInt (ad (nth (a.a.bl) a.i.toNat) 0) != (1 : Int)) (K Exit.ret (sp 38 [(6, AV.int a.i)] [Obj.row 4 z4, Dn.Obj.map 9 4 (cv (a_1.2.2))])) (ax
 (decide (a.first < (0 : Int))) (∃ (m : Nat), m < n ∧ I m (sp 38 [(1, AV.a7 0 0 z5), (2, AV.mp 1), (3, AV.ptr 2 0 [] 0), (7, AV.int a.i), (11, AV.ae 55
 (a.a.bl)), (12, AV.int (↑z3 : Int)), (13, AV.int z2)] [Obj.row 4 z4, Dn.Obj.map 9 4 (cv (a_1.2.2)), Obj.box 41 z1])) (∃ (m : Nat), m < n ∧ I m (sp 38 [(1, AV.a7
 0 0 z5), (2, AV.mp 1), (3, AV.ptr 2 0 [] 0), (7, AV.int a.first), (11, AV.ae 55 (a.a.bl)), (12, AV.int (↑z3 : Int)), (13, AV.int z2)] [Obj.row 4 z4, Dn.Obj.map
 9 4 (cv (a_1.2.2)), Obj.box 41 z1])))))))) (K (Exit.exit 0) (sp 38 [(7, AV.int a.first)] [Obj.row 4 z4, Dn.Obj.map 9 4 es]))) := by kernel_rfl
def y3 (a : Ja) : Prop := aG (aL a.a) = true ∧ bZ a.a ∧ 0 ≤ a.i ∧ a.i ≤ a.a.bl.length ∧ a.done.length = a.a.bl.length
def wF (a : Ja) : Int := jG (aL a.a) a.done a.b (a.a.bl.length - a.i.toNat) a.i.toNat a.first
def B3 (a : Ja) : Out (Exit × S) := .all (fun _ : Bool => True) fun e => .ax e (.one (.ret, sp 38 [(6, .int (wF a))] [.row 4 (bw a.done), .map 9 4 (cv a.b)])) (.one (.exit 0, sp 38 [(7, .int (wF a))] [.row 4 (bw a.done), .map 9 4 (cv a.b)]))
theorem l36 (κ : Kp) : bg (K5 κ) 12 126 3 (aK 2 DI y3 B3) := by
 refine aO (fun a => a.a.bl.length - a.i.toNat) ?_
 rintro ⟨a, done, b, i, first⟩ K ⟨h1, h2, h3, h4, h5⟩ ho
 simp only at h1 h2 h3 h4 h5
 rw [show (K5 κ).P = Pr κ from rfl]
 refine Eq.mpr (Xe κ ⟨a, done, b, i, first⟩ (cv b) _ _ K) ?_
 have ho1 := ho true trivial
 have ho2 := ho false trivial
 simp only [Out.run, ax, wF] at ho1 ho2
 simp only [Nat.zero_add, wU]
 have hbl := fk done
 have hl := h2.2
 rw [af, aq, aq, aa1, aa1, aa0, aa0, aa0, aa2]
 have go : i < a.bl.length → ∀ f : Int, jG (aL a) done b (a.bl.length - i.toNat) i.toNat first = jG (aL a) done b (a.bl.length - (i.toNat + 1)) (i.toNat + 1) f →
   ∃ m, m < a.bl.length - i.toNat ∧ fp DI y3 B3 (fun a => a.a.bl.length - a.i.toNat) K m (DI ⟨a, done, b, i + 1, f⟩) := by
  intro hi f hf
  refine ⟨_, ?_, ⟨a, done, b, i + 1, f⟩, rfl, ⟨h1, h2, by simp only; omega, by simp only; omega, h5⟩, rfl, ?_⟩
  ·simp only; omega
  ·intro e _
   simp only [Out.run, wF, show (i + 1).toNat = i.toNat + 1 by omega, ← hf]
   cases e
   ·exact ho2
   ·exact ho1
 refine ⟨fun hi => ⟨⟨h3, hi⟩, ⟨h3, by omega⟩, ?_⟩, fun hi => ?_⟩
 ·have hn := Cf (aL a) done b (a.bl.length - (i.toNat + 1)) i.toNat first
  rw [show a.bl.length - (i.toNat + 1) + 1 = a.bl.length - i.toNat by omega] at hn
  have hk : i.toNat < a.bl.length := by omega
  have hop : (bj (aL a).body i.toNat).op = toInt (ad (nth a.bl i.toNat) 0) := by
   rw [show (aL a).body = bn a.bl from rfl, fM _ hk]; rfl
  rw [hop] at hn
  rw [aU (n := i + 1) (by omega) (by omega), af]
  refine ⟨fun e => go hi first (by rw [hn, e]; rfl), fun e => ⟨(a, i, b), rfl, ⟨h1, h2, h3, hi⟩, ?_⟩⟩
  rw [e, Bool.false_or] at hn
  simp only [af, Bool.not_eq_true', ab2, bne_iff_ne, bne_eq_false_iff_eq, aa0, aa2]
  refine ⟨fun e1 => go hi first (by rw [hn, e1]; rfl), fun e1 => ⟨fun e2 => ?_, fun e2 => ⟨fun e3 => go hi i ?_, fun e3 => go hi first ?_⟩⟩⟩
  ·rw [hn, e1, aa4 e2] at ho1
   simp only [Bool.not_true, aa5, Bool.not_false, aa7, Int.toNat_of_nonneg h3] at ho1
   exact ho1
  ·rw [hn, e1, aa6 e2, aa6 e3]
   simp only [Bool.not_true, aa5, aa7, Int.toNat_of_nonneg h3]
  ·rw [hn, e1, aa6 e2, aa4 e3]
   simp only [Bool.not_true, aa5]
 ·rw [show a.bl.length - i.toNat = 0 by omega] at ho2
  exact ho2
noncomputable def HG (κ : Kp) : Env := (K5 κ).aj 126 3 (aK 2 DI y3 B3)
theorem Sn (κ : Kp) : aw (HG κ) := (XW κ).aj (Vd κ) (l36 κ)
theorem Om (κ : Kp) : ai (HG κ) := (Vd κ).aj aE
theorem y36 (κ : Kp) (a : Ja) (K : AV → List Dn.Obj → Prop) : (a9 (HG κ) 12 126 [aF a.a, .a7 0 0 (bw a.done).length, .mp 1] [.row 4 (bw a.done), .map 9 4 (cv a.b)] K) = (
 letI z1 := Pg.toProgram (Env.P (K5 κ))
 ag z1 126 3 = ag z1 126 3 ∧ ∃ (a_1 : Ja), sp 38 [(1, AV.a7 0 0 (List.length (bw a.done))), (2, AV.mp 1), (3, AV.ptr 2 0 [] 0), (7, AV.int (-1)), (11, AV.ae 55
 (a.a.bl)), (12, AV.int (↑(List.length (a.a.bl)) : Int)), (13, AV.int 0)] [Obj.row 4 (bw a.done), Dn.Obj.map 9 4 (cv a.b), Obj.box 41 (AV.agg [AV.agg [AV.str
 (a.a.rel), AV.ae 52 (a.a.hl)], AV.ae 55 (a.a.bl), AV.int (a.a.line)])] = sp 38 [(1, AV.a7 0 0 (List.length (bw a_1.done))), (2, AV.mp 1), (3, AV.ptr 2 0 [] 0),
 (7, AV.int a_1.first), (11, AV.ae 55 (a_1.a.bl)), (12, AV.int (↑(List.length (a_1.a.bl)) : Int)), (13, AV.int a_1.i)] [Obj.row 4 (bw a_1.done), Dn.Obj.map 9 4
 (cv a_1.b), Obj.box 41 (AV.agg [AV.agg [AV.str (a_1.a.rel), AV.ae 52 (a_1.a.hl)], AV.ae 55 (a_1.a.bl), AV.int (a_1.a.line)])] ∧ (aG (aL a_1.a) = true ∧ (aH (aa
 (aX 52 (a_1.a.hl) (a_1.a.bl))) ≤ 100000 ∧ List.length (a_1.a.bl) ≤ 100000) ∧ (0 : Int) ≤ a_1.i ∧ a_1.i ≤ (↑(List.length (a_1.a.bl)) : Int) ∧ a_1.done.length =
 List.length (a_1.a.bl)) ∧ ∀ (y : Bool), True → ax y (K (AV.int (wF a_1)) [Obj.row 4 (bw a_1.done), Dn.Obj.map 9 4 (cv a_1.b)]) (K (AV.int (wF a_1)) [Obj.row 4
 (bw a_1.done), Dn.Obj.map 9 4 (cv a_1.b)])) := by kernel_rfl
def N4 (a : Ja) : List AV × List Dn.Obj := ([aF a.a, .a7 0 0 (bw a.done).length, .mp 1], [.row 4 (bw a.done), .map 9 4 (cv a.b)])
def Hm (a : Ja) : Prop := aG (aL a.a) = true ∧ bZ a.a ∧ a.done.length = a.a.bl.length
def L9 (a : Ja) : Out (AV × List Dn.Obj) := .one (.int (cU (aL a.a) a.done a.b), [.row 4 (bw a.done), .map 9 4 (cv a.b)])
theorem fo (a : b5) : (aL a).body.length = a.bl.length := sW a.bl
theorem Zg (κ : Kp) : bJ (HG κ) 12 126 (a8 N4 Hm L9) := by
 refine bh ?_
 rintro ⟨a, done, b, i, first⟩ K ⟨h1, h2, h5⟩ ho
 refine Eq.mpr (y36 κ ⟨a, done, b, i, first⟩ K) ?_
 simp only at h1 h2 h5
 have ho' : K (.int (cU (aL a) done b)) [.row 4 (bw done), .map 9 4 (cv b)] := ho
 unfold cU at ho'
 rw [fo] at ho'
 refine ⟨rfl, ⟨a, done, b, 0, -1⟩, rfl, ⟨h1, h2, by simp only; omega, by simp only; omega, h5⟩, ?_⟩
 intro e _
 cases e
 ·exact ho'
 ·exact ho'
noncomputable def JU (κ : Kp) : Env := (HG κ).ar 126 (a8 N4 Hm L9)
theorem e36 (κ : Kp) : aw (JU κ) := (Sn κ).ar (Om κ) (Zg κ)
theorem Un (κ : Kp) : ai (JU κ) := (Om κ).ar aJ
def ints (l : List Nat) : List AV := l.map fun (k : Nat) => AV.lit (.int .i64 (k : Int))
theorem je (l : List Nat) : (ints l).length = l.length := by simp [ints]
theorem Bp (l m : List Nat) : ints (l ++ m) = ints l ++ ints m := by simp [ints]
structure Oc where
 a : b5
 ks : List Nat
 done : List Bool
 b : List ByteArray
 i : Int
noncomputable abbrev O7 (a : b5) (κ : Kp) : Dn.Obj :=
 .loop (oP (Pr κ).toProgram 55 4 .ready none (nZ (dc 40) [(0, aF a), (1, .ptr 0 0 [] 0), (2, .nil), (3, .lit .nilIface), (4, .ptr 1 0 [] 0), (5, .ptr 3 0 [] 0), (7, .mp 2), (8, aF a), (9, .dq 125 [.ptr 4 0 [] 0])]))
noncomputable abbrev EM (κ : Kp) (a : b5) (ks : List Nat) (b : List ByteArray) : List Dn.Obj := [.box 41 (aF a), .box 48 (.a7 6 0 (ints ks).length), .map 9 4 (cv b), .box 114 (.mp 2), .box 41 (aF a), O7 a κ, .row 3 (ints ks)]
noncomputable abbrev JI (κ : Kp) (a : Oc) : S := sp 38 [(0, .dv 5), (1, .ptr 4 0 [] 0), (3, .mp 7), (4, .a7 8 0 (bw a.done).length), (13, .int a.a.bl.length), (14, .int a.i)] (EM κ a.a a.ks a.b ++ [.map 9 4 (cv a.b), .row 4 (bw a.done)])
theorem Yj (κ : Kp) (a : b5) (ks : List AV) (es es' : List (Value × AV)) (done : List AV) (i : Int) (I : Nat → S → Prop) (n : Nat) (K : Exit → S → Prop) : (vc (JU κ) 12 125 none 6 (ag (Pr κ).toProgram 125 3) (sp 38 [(0, .dv 5), (1, .ptr 4 0 [] 0), (3, .mp 7), (4, .a7 8 0 done.length), (13, .int a.bl.length), (14, .int i)] [.box 41 (aF a), .box 48 (.a7 6 0 ks.length), .map 9 4 es, .box 114 (.mp 2), .box 41 (aF a), O7 a κ, .row 3 ks, .map 9 4 es', .row 4 done]) (bC (JU κ) 125 3 6 I n K)) = (
 letI z1 := oP Tryz.prog 55 4 LoopState.ready none (nZ (dc 40) [(0, aF a), (1, AV.ptr 0 0 [] 0), (2, AV.nil), (3, AV.lit Value.nilIface), (4, AV.ptr 1 0 [] 0),
  (5, AV.ptr 3 0 [] 0), (7, AV.mp 2), (8, aF a), (9, AV.dq 125 [AV.ptr 4 0 [] 0])])
 letI z2 := sp 38 [] [Obj.box 41 (aF a), Obj.box 48 (AV.a7 6 0 ks.length), Dn.Obj.map 9 4 es, Obj.box 114 (AV.mp 2), Obj.box 41 (aF a), Dn.Obj.loop z1, Obj.row 3
  ks]
 letI z3 := IntKind.wrap IntKind.i64 (i + (1 : Int))
 letI z4 := (0 : Int)
 letI z5 := Value × AV
 letI z6 := AV.a7 6 0 (ks.length + 1)
 ax (decide (i < (↑(a.bl.length) : Int))) (∃ (a_1 : Ja), ([aF a, AV.a7 0 0 done.length, AV.mp 1], [Obj.row 4 done, Dn.Obj.map 9 4 es']) = ([AV.agg [AV.agg
 [AV.str (a_1.a.rel), AV.ae 52 (a_1.a.hl)], AV.ae 55 (a_1.a.bl), AV.int (a_1.a.line)], AV.a7 0 0 (List.length (bw a_1.done)), AV.mp 1], [Obj.row 4 (bw a_1.done),
 Dn.Obj.map 9 4 (cv a_1.b)]) ∧ (aG (aL a_1.a) = true ∧ (aH (aa (aX 52 (a_1.a.hl) (a_1.a.bl))) ≤ 100000 ∧ List.length (a_1.a.bl) ≤ 100000) ∧ a_1.done.length =
 List.length (a_1.a.bl)) ∧ ax (decide (cU (aL a_1.a) a_1.done a_1.b < z4)) (K Exit.ret z2) (aZ (decide ((ks.length + 1 + 1) * 9 ≤ 70368744177664)) ((∃ (a_2 : b5
 × Int), ([aF a, AV.int (cU (aL a_1.a) a_1.done a_1.b)], az) = ([aF a_2.1, AV.int a_2.2], az) ∧ (aG (aL a_2.1) = true ∧ (aH (aa (aX 52 a_2.1.hl a_2.1.bl)) ≤
 100000 ∧ a_2.1.bl.length ≤ 100000) ∧ z4 ≤ a_2.2 ∧ a_2.2 < (↑(a_2.1.bl.length) : Int)) ∧ ∃ (a_3 : List AV × List z5), ([AV.mp 0, AV.ae 9 (strs (eM (aL a_2.1)
 a_2.2.toNat))], [Dn.Obj.map 9 4 es]) = ([AV.mp 0, AV.ae 9 a_3.1], [Dn.Obj.map 9 4 a_3.2]) ∧ br a_3 ∧ aZ (decide (z4 ≤ cU (aL a_1.a) a_1.done a_1.b) && decide
 (cU (aL a_1.a) a_1.done a_1.b < (↑(done.length) : Int))) (∃ (a_4 : b5 × Int), ([aF a, AV.int (cU (aL a_1.a) a_1.done a_1.b)], az) = ([aF a_4.1, AV.int a_4.2],
 az) ∧ (aG (aL a_4.1) = true ∧ (aH (aa (aX 52 a_4.1.hl a_4.1.bl)) ≤ 100000 ∧ a_4.1.bl.length ≤ 100000) ∧ z4 ≤ a_4.2 ∧ a_4.2 < (↑(a_4.1.bl.length) : Int)) ∧ ∃
 (a_5 : List AV × List z5), ([AV.mp 0, AV.ae 9 (strs (eM (aL a_4.1) a_4.2.toNat))], [Dn.Obj.map 9 4 (cv a_1.b)]) = ([AV.mp 0, AV.ae 9 a_5.1], [Dn.Obj.map 9 4
 a_5.2]) ∧ br a_5 ∧ ∃ (m : Nat), m < n ∧ I m (sp 38 [(0, AV.dv 5), (1, AV.ptr 4 0 [] 0), (3, AV.mp 7), (4, AV.a7 8 0 done.length), (13, AV.int (↑(a.bl.length) :
 Int)), (14, AV.int z3)] [Obj.box 41 (aF a), Obj.box 48 z6, Dn.Obj.map 9 4 (gK a_3.2 a_3.1), Obj.box 114 (AV.mp 2), Obj.box 41 (aF a), Dn.Obj.loop z1, Obj.row 3
 (List.take ks.length ks ++ [AV.int (cU (aL a_1.a) a_1.done a_1.b)]), Dn.Obj.map 9 4 (gK a_5.2 a_5.1), Obj.row 4 (cC (bw a_1.done) (0 + Int.toNat (cU (aL a_1.a)
 a_1.done a_1.b)) (AV.bool true))]))) ∧ ∃ (a_2 : b5 × Int), ([aF a, AV.int (cU (aL a_1.a) a_1.done a_1.b)], az) = ([aF a_2.1, AV.int a_2.2], az) ∧ (aG (aL a_2.1)
 = true ∧ (aH (aa (aX 52 a_2.1.hl a_2.1.bl)) ≤ 100000 ∧ a_2.1.bl.length ≤ 100000) ∧ z4 ≤ a_2.2 ∧ a_2.2 < (↑(a_2.1.bl.length) : Int)) ∧ ∃ (a_3 : List AV × List
 z5), ([AV.mp 0, AV.ae 9 (strs (eM (aL a_2.1) a_2.2.toNat))], [Dn.Obj.map 9 4 es]) = ([AV.mp 0, AV.ae 9 a_3.1], [Dn.Obj.map 9 4 a_3.2]) ∧ br a_3 ∧ aZ (decide (z4
 ≤ cU (aL a_1.a) a_1.done a_1.b) && decide (cU (aL a_1.a) a_1.done a_1.b < (↑(done.length) : Int))) (∃ (a_4 : b5 × Int), ([aF a, AV.int (cU (aL a_1.a) a_1.done
 a_1.b)], az) = ([aF a_4.1, AV.int a_4.2], az) ∧ (aG (aL a_4.1) = true ∧ (aH (aa (aX 52 a_4.1.hl a_4.1.bl)) ≤ 100000 ∧ a_4.1.bl.length ≤ 100000) ∧ z4 ≤ a_4.2 ∧
 a_4.2 < (↑(a_4.1.bl.length) : Int)) ∧ ∃ (a_5 : List AV × List z5), ([AV.mp 0, AV.ae 9 (strs (eM (aL a_4.1) a_4.2.toNat))], [Dn.Obj.map 9 4 (cv a_1.b)]) =
 ([AV.mp 0, AV.ae 9 a_5.1], [Dn.Obj.map 9 4 a_5.2]) ∧ br a_5 ∧ ∃ (m : Nat), m < n ∧ I m (sp 38 [(0, AV.dv 5), (1, AV.ptr 4 0 [] 0), (3, AV.mp 7), (4, AV.a7 8 0
 done.length), (13, AV.int (↑(a.bl.length) : Int)), (14, AV.int z3)] [Obj.box 41 (aF a), Obj.box 48 z6, Dn.Obj.map 9 4 (gK a_3.2 a_3.1), Obj.box 114 (AV.mp 2),
 Obj.box 41 (aF a), Dn.Obj.loop z1, Obj.row 3 (List.take ks.length ks ++ [AV.int (cU (aL a_1.a) a_1.done a_1.b)]), Dn.Obj.map 9 4 (gK a_5.2 a_5.1), Obj.row 4 (cC
 (bw a_1.done) (0 + Int.toNat (cU (aL a_1.a) a_1.done a_1.b)) (AV.bool true))]))))) (K (Exit.exit 0) z2)) := by kernel_rfl
theorem pj : ∀ (l : List Bool) (k : Nat), cC (bw l) k (.lit (.bool true)) = bw (l.set k true)
 | [], _ => rfl
 | _ :: _, 0 => rfl
 | a :: l, k + 1 => by
  have := pj l k
  simp only [bw] at this
  simp only [bw, ac2, cC, List.set_cons_succ, this]
noncomputable def ej (a : Oc) : List Nat := mq (aL a.a) (a.a.bl.length - a.i.toNat) a.done a.b
def DK (a : Oc) : Prop := aG (aL a.a) = true ∧ bZ a.a ∧ 0 ≤ a.i ∧ a.i ≤ a.a.bl.length ∧ a.done.length = a.a.bl.length ∧ a.ks.length ≤ a.i.toNat
noncomputable def HF (κ : Kp) (a : Oc) : Out (Exit × S) := .all (fun _ : Bool => True) fun e => .ax e (.one (.ret, sp 38 [] (EM κ a.a (a.ks ++ ej a) (a.b ++ fR (aL a.a) (ej a)))))
 (.one (.exit 0, sp 38 [] (EM κ a.a (a.ks ++ ej a) (a.b ++ fR (aL a.a) (ej a)))))
theorem Gl {a : b5} (h : bZ a) {k : Nat} (hk : k < a.bl.length) : (eM (aL a) k).length ≤ 200000 := by
 have hlit := fj h hk
 have hol := qV h k
 have hc := y9 (bz (nth a.bl k))
 have hv := cq [(bz (nth a.bl k)).x]
 have e1 := cq [(bz (nth a.bl k)).x, (bz (nth a.bl k)).y]
 have e2 := cq (bz (nth a.bl k)).a.l
 unfold eM
 rw [show (aL a).body = bn a.bl from rfl, fM _ hk]
 cases decide (7 ≤ (bz (nth a.bl k)).op) with
 | true => rw [aa7, ab9]; omega
 | false =>
  rw [aa5]
  simp only [cx, dC, ab9] at hlit ⊢; omega
theorem Yy (κ : Kp) : bg (JU κ) 12 125 3 (aK 6 (JI κ) DK (HF κ)) := by
 refine aO (fun a => a.a.bl.length - a.i.toNat) ?_
 rintro ⟨a, ks, done, b, i⟩ K ⟨h1, h2, h3, h4, h5, h6⟩ ho
 simp only at h1 h2 h3 h4 h5 h6
 rw [show (JU κ).P = Pr κ from rfl]
 refine Eq.mpr (Yj κ a (ints ks) (cv b) (cv b) (bw done) i _ _ K) ?_
 have ho1 := ho true trivial
 have ho2 := ho false trivial
 simp only [Out.run, ax, ej] at ho1 ho2
 simp only [and_self]
 have hbl := fk done
 have hil := je ks
 have hl := h2.2
 rw [af, aa0, aa2]
 refine ⟨fun hi => ⟨⟨a, done, b, 0, 0⟩, rfl, ⟨h1, h2, h5⟩, ?_⟩, fun hi => ?_⟩
 ·have hw := Db (aL a) (a.bl.length - (i.toNat + 1)) done b
  rw [show a.bl.length - (i.toNat + 1) + 1 = a.bl.length - i.toNat by omega] at hw
  rw [af, aa0, aa2]
  refine ⟨fun e => ?_, fun e => ?_⟩
  ·rw [hw, aa6 e] at ho1
   simp only [aa7, List.append_nil, fR, List.flatMap_nil] at ho1
   exact ho1
  ·rw [hw, aa4 e, aa5] at ho1 ho2
   rcases vn (aL a) done b with e0 | ⟨e1, e2, e3, _⟩
   ·rw [e0] at e; omega
   have e2' := e2
   rw [fo] at e2'
   have hg := Gl h2 e2'
   rw [aq, aa0]
   refine ⟨by omega, (a, cU (aL a) done b), rfl, ⟨h1, h2, e1, by simp only; omega⟩, (strs (eM (aL a) (cU (aL a) done b).toNat), cv b), rfl, by simp only [br, aM, aI]; omega, ?_⟩
   rw [aq, aa1, aa0, aa0]
   refine ⟨⟨e1, by show cU (aL a) done b < _; omega⟩, (a, cU (aL a) done b), rfl, ⟨h1, h2, e1, by simp only; omega⟩, (strs (eM (aL a) (cU (aL a) done b).toNat), cv b), rfl, by simp only [br, aM, aI]; omega, ?_⟩
   rw [aU (n := i + 1) (by omega) (by omega)]
   refine ⟨_, ?_, ⟨a, ks ++ [(cU (aL a) done b).toNat], done.set (cU (aL a) done b).toNat true, b ++ eM (aL a) (cU (aL a) done b).toNat, i + 1⟩, ?_, ⟨h1, h2, by simp only; omega, by simp only; omega, by simpa using h5, by simp only [ab9, List.length_singleton]; omega⟩, rfl, ?_⟩
   ·simp only; omega
   ·simp only [List.take_length]
    simp only [JI, EM, List.cons_append, List.nil_append, Nat.zero_add, pj, qK, fk, List.length_set, Bp, je, ab9, List.length_singleton]
    simp only [ints, ac2, ac3, Int.toNat_of_nonneg e1, List.length_singleton]
   ·have hg2 : ∀ l, b ++ fR (aL a) ((cU (aL a) done b).toNat :: l) = (b ++ eM (aL a) (cU (aL a) done b).toNat) ++ fR (aL a) l := fun l => by
     simp only [fR, List.flatMap_cons, List.append_assoc]
    have hk2 : ∀ l, ks ++ (cU (aL a) done b).toNat :: l = (ks ++ [(cU (aL a) done b).toNat]) ++ l := fun l => by simp
    rw [hg2, hk2] at ho1 ho2
    intro f _
    simp only [Out.run, ej, show (i + 1).toNat = i.toNat + 1 by omega]
    cases f
    ·exact ho2
    ·exact ho1
 ·rw [show a.bl.length - i.toNat = 0 by omega] at ho2
  simp only [mq, List.append_nil, fR, List.flatMap_nil] at ho2
  exact ho2
noncomputable def Gk (κ : Kp) : Env := (JU κ).aj 125 3 (aK 6 (JI κ) DK (HF κ))
theorem Sv (κ : Kp) : aw (Gk κ) := (e36 κ).aj (Un κ) (Yy κ)
theorem K3 (κ : Kp) : ai (Gk κ) := (Un κ).aj aE
end Go.Proofs.YtdpmikfheebicaaGreatDoor
namespace Go.Proofs.YtdpmikfheebicaaGreatDoor
open Go Go.Dn Go.Rl Go.Proofs Go.RowKit Go.Extern.Stop Go.Stop Go.Extern
theorem QI (v : Value) (xT : TypeId) (w : World) : (Instr.typeAssert (.iface 159 v) xT 165 true).run Tryz.prog w = .ok (.tuple #[.nilIface, .bool false]) w := run_typeAssert_lacksB Tryz.underlying165 (by kernel_rfl) (by kernel_rfl) v xT w
theorem FJ (v : Value) (xT : TypeId) (w : World) : (Instr.typeAssert (.iface 159 v) xT 167 true).run Tryz.prog w = .ok (.tuple #[.nilIface, .bool false]) w := run_typeAssert_lacksB Tryz.underlying167 (by kernel_rfl) (by kernel_rfl) v xT w
theorem AE (v : Value) (xT : TypeId) (w : World) : (Instr.typeAssert (.iface 159 v) xT 169 true).run Tryz.prog w = .ok (.tuple #[.iface 159 v, .bool true]) w := run_typeAssert_hasB Tryz.underlying169 (by kernel_rfl) v xT w
theorem v5 (v : Value) (w : World) : (Go.method 327 159 v "Unwrap").run Tryz.prog w = .ok (188, v) w := by kernel_rfl
set_option maxRecDepth 4000 in
theorem FT (a : Addr) (w : World) :
  Calls Tryz.prog 87 #[.iface 189 (.pointer (some a)), .iface 189 (.pointer (some a)), .bool true] w fun e w' => e = .returned (.bool true) ∧ w' = w := by
 obtain ⟨i, hi, hcmp⟩ := Option.map_eq_some_iff.1 B7
 obtain ⟨j, hj, hjs⟩ := Option.map_eq_some_iff.1 B0
 have heq := run_eql_iface_ptr_same (P := Tryz.prog) w a Tryz.underlying88 Tryz.underlying189 hi hcmp hj
 go_enter Tryz.func87, Tryz.ntmps87
 go_wp2
 refine wp_loop_rounds 1 ?_
 rw [rounds_succ]
 go_wp2
 go_ret
 exact ⟨rfl, rfl⟩
set_option maxRecDepth 8000 in
theorem KP (ja ra b : Addr) (cap : Nat) (w : World) (h1 : w.cell? ja = some (.slice (some ra) 1 cap)) (h2 : w.cell? ra = some (.iface 189 (.pointer (some b)))) :
  Calls Tryz.prog 56 #[.iface 159 (.pointer (some ja)), .iface 189 (.pointer (some b))] w fun e w' => e = .returned (.bool true) ∧ w' = w := by
 have h8 := @run_callFunc_extern Tryz.prog 86 _ Extern.ReflectliteType.typeOf Tryz.func86 (by kernel_rfl) (by kernel_rfl) (by kernel_rfl) (by kernel_rfl)
 have h32 := @run_callFunc_extern Tryz.prog 192 _ (Extern.ReflectliteType.method fun t => do Go.Extern.Rtype.noPackHeld "Comparable" t; pure (.bool (← typeInfo t).comparable)) Tryz.func192 (by kernel_rfl) (by kernel_rfl) (by kernel_rfl) (by kernel_rfl)
 have tT := u6
 have cT := l4
 have mR := gY
 have hne := run_eql_iface_types (P := Tryz.prog) 159 189 (.pointer (some ja)) (.pointer (some b)) Tryz.underlying88 (by decide)
 have n1 := QI
 have n2 := FJ
 have n3 := AE
 have mU := v5
 go_enter Tryz.func56, Tryz.ntmps56
 go_wp2
 refine wp_loop_rounds 1 ?_
 rw [rounds_succ]
 go_wp2
 refine wp_loop_rounds 1 ?_
 rw [rounds_succ]
 go_wp2_with (first | (go_at_call 87; refine (FT b _).mono ?_; rintro e w' ⟨rfl, rfl⟩))
 all_goals (go_ret; exact ⟨rfl, rfl⟩)
end Go.Proofs.YtdpmikfheebicaaGreatDoor
namespace Go.Proofs.YtdpmikfheebicaaGreatDoor
open Go Go.Dn Go.Rl Go.Proofs
attribute [local irreducible] a9 vc
set_option maxRecDepth 20000
noncomputable def NM (κ : Kp) : Env := (Gk κ).aj 85 3 (kj (Gk κ) 12 85 3 3)
noncomputable def Qv (κ : Kp) : Env := (NM κ).aj 85 12 (kj (NM κ) 12 85 12 3)
theorem YN (κ : Kp) : aw (NM κ) := (Sv κ).aj (K3 κ) (rl (K3 κ) 3)
theorem QQ (κ : Kp) : ai (NM κ) := (K3 κ).aj (kD (K3 κ) 3)
theorem Vz (κ : Kp) : aw (Qv κ) := (YN κ).aj (QQ κ) (rl (QQ κ) 3)
theorem Uz (κ : Kp) : ai (Qv κ) := (QQ κ).aj (kD (QQ κ) 3)
theorem yJ (κ : Kp) (K : AV → List Dn.Obj → Prop) : (a9 (Qv κ) 12 85 [.ae 88 [.lit (lB κ)]] [] K) = (
 letI z1 := Pg.toProgram (Env.P (Gk κ))
 letI z2 := Pg.toProgram (Env.P (NM κ))
 ag z1 85 3 = ag z1 85 3 ∧ ag z2 85 12 = ag z2 85 12 ∧ K (AV.jb 159 (AV.ptr 0 0 [] 0)) [Obj.box 161 (AV.agg [AV.a7 1 0 1]), Obj.row 88 [AV.lit (Value.iface 189
 (Value.pointer (some (Kp.stuck κ))))]]) := by kernel_rfl
abbrev xM : AV := .jb 159 (.ptr 0 0 [] 0)
abbrev zr (κ : Kp) : List Dn.Obj := [.box 161 (.agg [.a7 1 0 1]), .row 88 [.lit (lB κ)]]
def UT (κ : Kp) (_ : Unit) : List AV × List Dn.Obj := ([.ae 88 [.lit (lB κ)]], [])
def D2 (_ : Unit) : Prop := True
def OC (κ : Kp) (_ : Unit) : Out (AV × List Dn.Obj) := .one (xM, zr κ)
theorem cJ (κ : Kp) : bJ (Qv κ) 12 85 (a8 (UT κ) D2 (OC κ)) := by
 refine bh ?_
 rintro ⟨⟩ K _ ho
 refine Eq.mpr (yJ κ K) ?_
 exact ⟨rfl, rfl, ho⟩
def S4 (κ : Kp) (_ : Unit) : List AV × List Dn.Obj := ([xM, .lit (lB κ)], zr κ)
def Qy (κ : Kp) (_ : Unit) : Out (AV × List Dn.Obj) := .one (.bool true, zr κ)
theorem qI (κ : Kp) : ∀ args st K, a8 (S4 κ) D2 (Qy κ) args st K → dz (Pr κ) 56 args st K := by
 rintro args st K ⟨_, h1, _, h3⟩
 obtain ⟨rfl, rfl⟩ := Prod.mk.inj h1
 refine ⟨⟨_, Tryz.func56, rfl⟩, fun C vs hC hI hst hm => ?_⟩
 obtain ⟨vs⟩ := vs
 match vs, hm with
 | [v1, v2], hm =>
  simp only [MT] at hm
  obtain ⟨a1, a2, a3, b1, b2, b3, _⟩ := hm
  have hv2 : v2 = lB κ := aR (C := C) ⟨b1, b2, b3⟩
  have r1 : Rel C xM v1 := ⟨a1, a2, a3⟩
  obtain ⟨c1, _⟩ := gl r1 rfl (by simp)
  simp only [M, c1] at a3
  obtain ⟨u, u1, u2, u3, u4, v, v1', v2', v3⟩ := a3
  have hv1 : v1 = .iface 159 u := by simpa using u1
  have hu : u.cells = #[u] := kZ (by rw [u2]; rfl)
  have huv : v = u := by rw [hu] at v1'; simpa using v1'.symm
  subst huv
  have o0 := hI.obj 0 (by rw [hst]; simp)
  have o1 := hI.obj 1 (by rw [hst]; simp)
  rw [hst] at o0 o1
  simp only [aD, lG] at o0 o1
  obtain ⟨_, _, c, e, g1, _, g2⟩ := o0
  simp only [M, ML] at g2
  obtain ⟨⟨_, s, s1, _, s2⟩, _⟩ := g2
  have s3 := s2 88 [.lit (lB κ)] (by rw [hst]; rfl)
  obtain ⟨_, s3⟩ := s3
  rcases s3 with ⟨_, _, _, s3⟩ | ⟨n1, cap, q, rfl, s3, s4, _⟩
  ·cases s3
  have hq : q = ⟨(C.ι 1).block, 0, none⟩ := by
   rcases s3 with s3 | ⟨s3, s5⟩
   ·rw [s3, Nat.zero_mul]
   ·omega
  subst hq
  obtain ⟨_, o1⟩ := o1
  rcases o1 with ⟨o1, _⟩ | ⟨_, _, c', k1, _, _, _, k2⟩
  ·rw [n1] at o1; cases o1
  simp only [MR, M] at k2
  obtain ⟨⟨k2, _⟩, _⟩ := k2
  have hp : v = .pointer (some ⟨(C.ι 0).block, 0, none⟩) := (v3.2.1 161 _ (by rw [hst]; rfl)).2
  subst hp
  subst hv1 hv2
  refine (callsIn_wide.2 (KP ⟨(C.ι 0).block, 0, none⟩ ⟨(C.ι 1).block, 0, none⟩ κ.stuck cap C.w s1 k2)).mono ?_
  rintro e' w' ⟨rfl, rfl⟩
  exact ⟨_, .bool true, C, rfl, rfl, rfl, hI, bc rfl, Ext.refl _ (by rw [hst]; exact Nat.le_refl _), by rw [hst]; exact h3⟩
 | [], hm => simp [MT] at hm
 | [_], hm => simp [MT] at hm
 | _ :: _ :: _ :: _, hm => simp [MT] at hm
noncomputable def EJ (κ : Kp) : Env := ((Qv κ).ar 85 (a8 (UT κ) D2 (OC κ))).ar 56 (a8 (S4 κ) D2 (Qy κ))
theorem eJ (κ : Kp) : aw (EJ κ) := ((Vz κ).ar (Uz κ) (cJ κ)).iN (qI κ)
theorem mJ (κ : Kp) : ai (EJ κ) := ((Uz κ).ar aJ).ar aJ
theorem ZC (κ : Kp) (a : b5) (K : AV → List Dn.Obj → Prop) : (a9 (EJ κ) 12 55 [aF a] [] K) = (
 letI z1 := Value.iface 189 (Value.pointer (some (Kp.stuck κ)))
 letI z2 := AV.bR [AV.nil, AV.jb 159 (AV.ptr 0 0 [] 0)]
 letI z3 := AV.agg [AV.a7 1 0 1]
 letI z4 := Value × AV
 letI z5 := Pg.toProgram (Env.P (JU κ))
 aZ (true && decide ((↑(a.bl.length) : Int) ≤ (↑(a.bl.length) : Int)) && decide ((Int.toNat (↑(a.bl.length) : Int) + 1) * 2 ≤ 70368744177664) && true) (ag z5 125
 3 = ag z5 125 3 ∧ ∃ (a_1 : Oc), sp 38 [(0, AV.dv 5), (1, AV.ptr 4 0 [] 0), (3, AV.mp 7), (4, AV.a7 8 0 (Int.toNat (↑(a.bl.length) : Int))), (13, AV.int
 (↑(a.bl.length) : Int)), (14, AV.int 0)] [Obj.box 41 (aF a), Obj.box 48 (AV.a7 6 0 0), Dn.Obj.map 9 4 [], Obj.box 114 (AV.mp 2), Obj.box 41 (aF a), Dn.Obj.loop
 (oP Tryz.prog 55 4 LoopState.ready none (nZ (dc 40) [(0, aF a), (1, AV.ptr 0 0 [] 0), (2, AV.nil), (3, AV.lit Value.nilIface), (4, AV.ptr 1 0 [] 0), (5, AV.ptr
 3 0 [] 0), (7, AV.mp 2), (8, aF a), (9, AV.dq 125 [AV.ptr 4 0 [] 0])])), Obj.row 3 [], Dn.Obj.map 9 4 [], Obj.row 4 (eI (AV.bool false) (Int.toNat
 (↑(a.bl.length) : Int)))] = sp 38 [(0, AV.dv 5), (1, AV.ptr 4 0 [] 0), (3, AV.mp 7), (4, AV.a7 8 0 (List.length (bw a_1.done))), (13, AV.int (↑(List.length
 (a_1.a.bl)) : Int)), (14, AV.int a_1.i)] [Obj.box 41 (AV.agg [AV.agg [AV.str (a_1.a.rel), AV.ae 52 (a_1.a.hl)], AV.ae 55 (a_1.a.bl), AV.int (a_1.a.line)]),
 Obj.box 48 (AV.a7 6 0 (List.length (ints a_1.ks))), Dn.Obj.map 9 4 (cv a_1.b), Obj.box 114 (AV.mp 2), Obj.box 41 (AV.agg [AV.agg [AV.str (a_1.a.rel), AV.ae 52
 (a_1.a.hl)], AV.ae 55 (a_1.a.bl), AV.int (a_1.a.line)]), Dn.Obj.loop (oP Tryz.prog 55 4 LoopState.ready none (nZ (dc 40) [(0, AV.agg [AV.agg [AV.str
 (a_1.a.rel), AV.ae 52 (a_1.a.hl)], AV.ae 55 (a_1.a.bl), AV.int (a_1.a.line)]), (1, AV.ptr 0 0 [] 0), (2, AV.nil), (3, AV.lit Value.nilIface), (4, AV.ptr 1 0 []
 0), (5, AV.ptr 3 0 [] 0), (7, AV.mp 2), (8, AV.agg [AV.agg [AV.str (a_1.a.rel), AV.ae 52 (a_1.a.hl)], AV.ae 55 (a_1.a.bl), AV.int (a_1.a.line)]), (9, AV.dq 125
 [AV.ptr 4 0 [] 0])])), Obj.row 3 (ints a_1.ks), Dn.Obj.map 9 4 (cv a_1.b), Obj.row 4 (bw a_1.done)] ∧ (aG (aL a_1.a) = true ∧ (aH (aa (aX 52 (a_1.a.hl)
 (a_1.a.bl))) ≤ 100000 ∧ List.length (a_1.a.bl) ≤ 100000) ∧ (0 : Int) ≤ a_1.i ∧ a_1.i ≤ (↑(List.length (a_1.a.bl)) : Int) ∧ a_1.done.length = List.length
 (a_1.a.bl) ∧ a_1.ks.length ≤ a_1.i.toNat) ∧ ∀ (y : Bool), True → ax y (ax (decide ((↑(List.length (ints (a_1.ks ++ ej a_1))) : Int) < (↑(List.length (a_1.a.bl))
 : Int))) ((∃ (a : Unit), ([AV.ae 88 [AV.lit z1]], az) = ([AV.ae 88 [AV.lit z1]], az) ∧ True ∧ K z2 [Obj.box 161 z3, Obj.row 88 [AV.lit z1]]) ∧ ∃ (a : Unit),
 ([AV.ae 88 [AV.lit z1]], az) = ([AV.ae 88 [AV.lit z1]], az) ∧ True ∧ K z2 [Obj.box 161 z3, Obj.row 88 [AV.lit z1]]) ((∃ (a : List AV), ([AV.ae 52 (a_1.a.hl)],
 az) = ([AV.ae 52 a], az) ∧ bu a ∧ ∃ (a_2 : List AV × List z4), ([AV.mp 0, AV.ae 9 (List.take (List.length (an (aa a))) (List.drop 0 (strs (an (aa a)))))],
 [Dn.Obj.map 9 4 (cv (a_1.b ++ fR (aL a_1.a) (ej a_1)))]) = ([AV.mp 0, AV.ae 9 a_2.1], [Dn.Obj.map 9 4 a_2.2]) ∧ br a_2 ∧ ax (!gm a_2.2 a_2.1) (∃ (a : Unit),
 ([AV.ae 88 [AV.lit z1]], az) = ([AV.ae 88 [AV.lit z1]], az) ∧ True ∧ K z2 [Obj.box 161 z3, Obj.row 88 [AV.lit z1]]) (K (AV.bR [AV.a7 0 0 (List.length (ints
 (a_1.ks ++ ej a_1))), AV.lit Value.nilIface]) [Obj.row 3 (ints (a_1.ks ++ ej a_1))])) ∧ ∃ (a : List AV), ([AV.ae 52 (a_1.a.hl)], az) = ([AV.ae 52 a], az) ∧ bu a
 ∧ ∃ (a_2 : List AV × List z4), ([AV.mp 0, AV.ae 9 (List.take (List.length (an (aa a))) (List.drop 0 (strs (an (aa a)))))], [Dn.Obj.map 9 4 (cv (a_1.b ++ fR (aL
 a_1.a) (ej a_1)))]) = ([AV.mp 0, AV.ae 9 a_2.1], [Dn.Obj.map 9 4 a_2.2]) ∧ br a_2 ∧ ax (!gm a_2.2 a_2.1) (∃ (a : Unit), ([AV.ae 88 [AV.lit z1]], az) = ([AV.ae
 88 [AV.lit z1]], az) ∧ True ∧ K z2 [Obj.box 161 z3, Obj.row 88 [AV.lit z1]]) (K (AV.bR [AV.a7 0 0 (List.length (ints (a_1.ks ++ ej a_1))), AV.lit
 Value.nilIface]) [Obj.row 3 (ints (a_1.ks ++ ej a_1))]))) (ax (decide ((↑(List.length (ints (a_1.ks ++ ej a_1))) : Int) < (↑(List.length (a_1.a.bl)) : Int)))
 ((∃ (a : Unit), ([AV.ae 88 [AV.lit z1]], az) = ([AV.ae 88 [AV.lit z1]], az) ∧ True ∧ K z2 [Obj.box 161 z3, Obj.row 88 [AV.lit z1]]) ∧ ∃ (a : Unit), ([AV.ae 88
 [AV.lit z1]], az) = ([AV.ae 88 [AV.lit z1]], az) ∧ True ∧ K z2 [Obj.box 161 z3, Obj.row 88 [AV.lit z1]]) ((∃ (a : List AV), ([AV.ae 52 (a_1.a.hl)], az) =
 ([AV.ae 52 a], az) ∧ bu a ∧ ∃ (a_2 : List AV × List z4), ([AV.mp 0, AV.ae 9 (List.take (List.length (an (aa a))) (List.drop 0 (strs (an (aa a)))))], [Dn.Obj.map
 9 4 (cv (a_1.b ++ fR (aL a_1.a) (ej a_1)))]) = ([AV.mp 0, AV.ae 9 a_2.1], [Dn.Obj.map 9 4 a_2.2]) ∧ br a_2 ∧ ax (!gm a_2.2 a_2.1) (∃ (a : Unit), ([AV.ae 88
 [AV.lit z1]], az) = ([AV.ae 88 [AV.lit z1]], az) ∧ True ∧ K z2 [Obj.box 161 z3, Obj.row 88 [AV.lit z1]]) (K (AV.bR [AV.a7 0 0 (List.length (ints (a_1.ks ++ ej
 a_1))), AV.lit Value.nilIface]) [Obj.row 3 (ints (a_1.ks ++ ej a_1))])) ∧ ∃ (a : List AV), ([AV.ae 52 (a_1.a.hl)], az) = ([AV.ae 52 a], az) ∧ bu a ∧ ∃ (a_2 :
 List AV × List z4), ([AV.mp 0, AV.ae 9 (List.take (List.length (an (aa a))) (List.drop 0 (strs (an (aa a)))))], [Dn.Obj.map 9 4 (cv (a_1.b ++ fR (aL a_1.a) (ej
 a_1)))]) = ([AV.mp 0, AV.ae 9 a_2.1], [Dn.Obj.map 9 4 a_2.2]) ∧ br a_2 ∧ ax (!gm a_2.2 a_2.1) (∃ (a : Unit), ([AV.ae 88 [AV.lit z1]], az) = ([AV.ae 88 [AV.lit
 z1]], az) ∧ True ∧ K z2 [Obj.box 161 z3, Obj.row 88 [AV.lit z1]]) (K (AV.bR [AV.a7 0 0 (List.length (ints (a_1.ks ++ ej a_1))), AV.lit Value.nilIface]) [Obj.row
 3 (ints (a_1.ks ++ ej a_1))]))))) := by kernel_rfl
def Gq (a : b5) : List AV × List Dn.Obj := ([aF a], [])
def Ih (a : b5) : Prop := aG (aL a) = true ∧ bZ a
noncomputable def I0 (κ : Kp) (a : b5) : Out (AV × List Dn.Obj) := .ax (iw (aL a)) (.one (.bR [.a7 0 0 (gw (aL a)).length, .lit .nilIface], [.row 3 (ints (gw (aL a)))])) (.one (.bR [.nil, xM], zr κ))
theorem ss (n : Nat) : eI (.lit (.bool false)) n = bw (List.replicate n false) := by simp [eI, bw]
theorem c17 (κ : Kp) : bJ (EJ κ) 12 55 (a8 Gq Ih (I0 κ)) := by
 refine bh ?_
 rintro a K ⟨h1, h2⟩ ho
 refine Eq.mpr (ZC κ a K) ?_
 simp only [and_self]
 simp only [I0, Out.run, af] at ho
 have hl := h2.2
 have hw : ej ⟨a, [], List.replicate a.bl.length false, [], 0⟩ = gw (aL a) := by
  unfold ej gw
  rw [fo]; rfl
 have hc := kG h2
 have hv := cq (aa a.hl)
 have hs : iw (aL a) = (decide (a.bl.length ≤ (gw (aL a)).length) && hasB (fR (aL a) (gw (aL a))) (an (aa a.hl))) := by
  unfold iw; rw [fo]; rfl
 rw [hs] at ho
 simp only [aq, aa1, aa0, Int.toNat_natCast]
 refine ⟨⟨⟨⟨trivial, by omega⟩, by omega⟩, trivial⟩, trivial, ⟨a, [], List.replicate a.bl.length false, [], 0⟩, ?_, ⟨h1, h2, by simp only; omega, by simp only; omega, by simp, by simp⟩, ?_⟩
 ·simp only [ss, fk, List.length_replicate]; rfl
 ·intro y _
  rw [hw]
  cases y <;>
  ·simp only [je, List.nil_append, af, aa0, aa2, Bool.not_eq_true', ab2, reduceCtorEq, false_implies, true_implies, and_true, true_and]
   refine ⟨fun e => ?_, fun e => ?_⟩
   ·rw [aa4 (show ¬ a.bl.length ≤ (gw (aL a)).length by omega), Bool.false_and] at ho
    exact ⟨(), ho.2 rfl⟩
   ·rw [aa6 (show a.bl.length ≤ (gw (aL a)).length by omega), ac0] at ho
    refine ⟨a.hl, rfl, hc, (strs (an (aa a.hl)), cv (fR (aL a) (gw (aL a)))), ?_, ?_, ?_⟩
    ·simp only [ab0, cB]
    ·simp only [br, aM, aI]; omega
    ·simp only [er]
     exact ⟨fun e2 => ⟨(), ho.2 e2⟩, fun e2 => ho.1 e2⟩
noncomputable def OZ (κ : Kp) : Env := (EJ κ).ar 55 (a8 Gq Ih (I0 κ))
theorem ZQ (κ : Kp) : aw (OZ κ) := (eJ κ).ar (mJ κ) (c17 κ)
theorem Ve (κ : Kp) : ai (OZ κ) := (mJ κ).ar aJ
theorem y7 (κ : Kp) (a : b5) (K : AV → List Dn.Obj → Prop) : (a9 (OZ κ) 12 27 [aF a] [] K) = (
 letI z1 := Value.iface 189 (Value.pointer (some (Kp.stuck κ)))
 aZ (decide (a.hl.length ≤ 9223372036854775807) && decide (a.bl.length ≤ 9223372036854775807)) (ax (!aG {head := { rel := a.rel, l := aa a.hl }, body := bn a.bl }) (K (AV.bR [AV.nil, AV.int 30]) []) (∃ (a_1 : b5), ([AV.agg [AV.agg [AV.str a.rel, AV.ae 52 a.hl], AV.ae 55 a.bl, AV.int a.line]], az) = ([AV.agg [AV.agg [AV.str a_1.rel, AV.ae 52 a_1.hl], AV.ae 55 a_1.bl, AV.int a_1.line]], az) ∧ (aG (aL a_1) = true ∧ aH (aa (aX 52 a_1.hl a_1.bl)) ≤ 100000 ∧ a_1.bl.length ≤ 100000) ∧ ax (iw (aL a_1)) (K (AV.bR [AV.a7 0 0 (List.length (gw (aL a_1))), AV.int 0]) [Obj.row 3 (ints (gw (aL a_1)))]) (∃ (a : Unit), ([AV.jb 159 (AV.ptr 0 0 [] 0), AV.lit z1], [Obj.box 161 (AV.agg [AV.a7 1 0 1]), Obj.row 88 [AV.lit z1]]) = ([AV.jb 159 (AV.ptr 0 0 [] 0), AV.lit z1], [Obj.box 161 (AV.agg [AV.a7 1 0 1]), Obj.row 88 [AV.lit z1]]) ∧ True ∧ K (AV.bR [AV.nil, AV.int 60]) [])))) := by kernel_rfl
def Gy (a : b5) : Out (AV × List Dn.Obj) := .ax (aG (aL a)) (.ax (iw (aL a)) (.one (.bR [.a7 0 0 (gw (aL a)).length, .int 0], [.row 3 (ints (gw (aL a)))])) (.one (.bR [.nil, .int 60], []))) (.one (.bR [.nil, .int 30], []))
theorem c7 (κ : Kp) : bJ (OZ κ) 12 27 (a8 Gq bZ Gy) := by
 refine bh ?_
 rintro a K h2 ho
 refine Eq.mpr (y7 κ a K) ?_
 simp only [Gy, Out.run, af] at ho
 have hc := kG h2
 have hl1 := dh (aa a.hl)
 rw [cL] at hl1
 have hl := h2.2
 rw [aq, aa1, aa0, aa0]
 refine ⟨⟨by omega, by omega⟩, ?_⟩
 have hr : aG ⟨⟨a.rel, aa a.hl⟩, bn a.bl⟩ = aG (aL a) := rfl
 rw [hr]
 simp only [af, Bool.not_eq_true', ab2]
 refine ⟨fun e => ho.2 e, fun e => ⟨a, rfl, ⟨e, h2⟩, fun e2 => (ho.1 e).1 e2, fun e2 => ⟨(), trivial, trivial, (ho.1 e).2 e2⟩⟩⟩
noncomputable def E7 (κ : Kp) : Env := (OZ κ).ar 27 (a8 Gq bZ Gy)
theorem e7 (κ : Kp) : aw (E7 κ) := (ZQ κ).ar (Ve κ) (c7 κ)
theorem m7 (κ : Kp) : ai (E7 κ) := (Ve κ).ar aJ
noncomputable abbrev RC (κ : Kp) : Env := E7 κ
theorem Q1 (κ : Kp) : aw (RC κ) := e7 κ
theorem m10 (κ : Kp) : ai (RC κ) := m7 κ
end Go.Proofs.YtdpmikfheebicaaGreatDoor
