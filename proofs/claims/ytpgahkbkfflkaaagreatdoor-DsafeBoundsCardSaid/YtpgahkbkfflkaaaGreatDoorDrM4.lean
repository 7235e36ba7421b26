import Derived.Test.YtpgahkbkfflkaaaGreatDoorDrM3
import Derived.Test.YtpgahkbkfflkaaaGreatDoorDrM1
import Derived.Test.YtpgahkbkfflkaaaGreatDoorDrM2
namespace Go.Proofs.YtpgahkbkfflkaaaGreatDoor
open Go Go.Dn Go.Rl Go.Proofs
attribute [local irreducible] funA vc
set_option maxRecDepth 20000
theorem x65 (κ : Kp) (l : List AV) (s : ByteArray) (i : Int) (I : Nat → S → Prop) (n : Nat) (K : Exit → S → Prop) : (vc (E39 κ) 12 96 none 0 (loopCode (Pr κ).toProgram 96 2) (sp 19 [(0, .lst 9 l), (1, .lit (.string s)), (7, .int l.length), (8, .int i)] []) (loopK (E39 κ) 96 2 0 I n K)) = (
  brn (decide (i < (↑(List.length l) : Int))) (cnd (decide ((0 : Int) ≤ i) && decide (i < (↑(List.length l) : Int))) (brn (ByteArray.toList s == ByteArray.toList
  (toStr (nth l (Int.toNat i)))) (K Exit.ret (sp 19 [(4, AV.int i)] [])) (∃ (m : Nat), m < n ∧ I m (sp 19 [(0, AV.lst 9 l), (1, AV.str s), (7, AV.int
  (↑(List.length l) : Int)), (8, AV.int (IntKind.wrap IntKind.i64 (i + (1 : Int))))] [])))) (K (Exit.exit 0) (sp 19 [] []))) := by kernel_rfl
abbrev st65 (a : List AV × ByteArray × Int) : S := sp 19 [(0, .lst 9 a.1), (1, .lit (.string a.2.1)), (7, .int a.1.length), (8, .int a.2.2)] []
def side65 (a : List AV × ByteArray × Int) : Prop := a.1.length ≤ maxI ∧ 0 ≤ a.2.2 ∧ a.2.2 ≤ a.1.length
def out65 (a : List AV × ByteArray × Int) : Out (Exit × S) := .brn (decide (placeS a.2.1 (a.1.drop a.2.2.toNat) a.2.2 ≥ 0)) (.one (.ret, sp 19 [(4, .int (placeS a.2.1 (a.1.drop a.2.2.toNat) a.2.2))] [])) (.one (.exit 0, sp 19 [] []))
theorem l65 (κ : Kp) : LoopOk (E39 κ) 12 96 2 (loopE 0 st65 side65 out65) := by
  refine loopE_ok (fun a => a.1.length - a.2.2.toNat) ?_
  rintro ⟨l, s, i⟩ K ⟨h1, h2, h3⟩ ho
  simp only at h1 h2 h3
  rw [show (E39 κ).P = Pr κ from rfl]
  refine Eq.mpr (x65 κ l s i _ _ K) ?_
  simp only [maxI] at h1
  simp only [out65, Out.run, brn_iff] at ho
  simp only [brn_iff, cnd_iff, decide_eq_true_eq, decide_eq_false_iff_not, Bool.and_eq_true]
  refine ⟨fun hi => ⟨⟨h2, hi⟩, fun e => ?_, fun e => ?_⟩, fun hi => ?_⟩
  · rw [List.drop_eq_getElem_cons (show i.toNat < l.length by omega), ← nth_get l i.toNat (by omega), placeS, show eqS s (toStr (nth l i.toNat)) = true from e, cond_true, decide_eq_true (show i ≥ 0 from h2)] at ho
    exact ho.1 rfl
  · rw [wrap_ok (n := i + 1) (by omega) (by omega)]
    refine ⟨_, ?_, (l, s, i + 1), rfl, ⟨by simpa [maxI] using h1, by simp only; omega, by simp only; omega⟩, rfl, ?_⟩
    · simp only; omega
    · rw [List.drop_eq_getElem_cons (show i.toNat < l.length by omega), ← nth_get l i.toNat (by omega), placeS, show eqS s (toStr (nth l i.toNat)) = false from e, cond_false] at ho
      simp only [out65, Out.run, brn_iff, show (i + 1).toNat = i.toNat + 1 by omega]
      exact ho
  · rw [List.drop_eq_nil_of_le (by omega)] at ho
    exact ho.2 rfl
noncomputable def E65l (κ : Kp) : Env := (E39 κ).addLoop 96 2 (loopE 0 st65 side65 out65)
theorem e65l (κ : Kp) : EnvOK (E65l κ) := (e39 κ).addLoop (m39 κ) (l65 κ)
theorem m65l (κ : Kp) : EnvMono (E65l κ) := (m39 κ).addLoop loopE_mono
theorem y65 (κ : Kp) (l : List AV) (s : ByteArray) (K : AV → List Dn.Obj → Prop) : (funA (E65l κ) 12 96 [.lst 9 l, .lit (.string s)] [] K) = (
  loopCode (Pg.toProgram (Env.P (E39 κ))) 96 2 = loopCode (Pg.toProgram (Env.P (E39 κ))) 96 2 ∧ ∃ (a : List AV × ByteArray × Int), sp 19 [(0, AV.lst 9 l), (1,
  AV.str s), (7, AV.int (↑(List.length l) : Int)), (8, AV.int 0)] [] = sp 19 [(0, AV.lst 9 (Prod.fst a)), (1, AV.str (Prod.fst (Prod.snd a))), (7, AV.int
  (↑(List.length (Prod.fst a)) : Int)), (8, AV.int (Prod.snd (Prod.snd a)))] [] ∧ (List.length (Prod.fst a) ≤ 9223372036854775807 ∧ (0 : Int) ≤ Prod.snd
  (Prod.snd a) ∧ Prod.snd (Prod.snd a) ≤ (↑(List.length (Prod.fst a)) : Int)) ∧ brn (decide (placeS (Prod.fst (Prod.snd a)) (List.drop (Int.toNat (Prod.snd
  (Prod.snd a))) (Prod.fst a)) (Prod.snd (Prod.snd a)) ≥ (0 : Int))) (K (AV.int (placeS (Prod.fst (Prod.snd a)) (List.drop (Int.toNat (Prod.snd (Prod.snd a)))
  (Prod.fst a)) (Prod.snd (Prod.snd a)))) []) (K (AV.int (-1)) [])) := by kernel_rfl
def g65 : List AV → Option (Bool × AV)
  | [.lst 9 l, .lit (.string s)] => some (decide (l.length ≤ maxI), .int (placeS s l 0))
  | _ => none
theorem placeS_neg (s : ByteArray) : ∀ (l : List AV) (i : Int), ¬ placeS s l i ≥ 0 → 0 ≤ i → placeS s l i = -1
  | [], _, _, _ => rfl
  | a :: l, i, h, h0 => by
    simp only [placeS] at h ⊢
    cases e : eqS s (toStr a) with
    | true => rw [e] at h; exact absurd h0 h
    | false => rw [e] at h; exact placeS_neg s l (i + 1) h (by omega)
theorem p65 (κ : Kp) : PureOk (E65l κ) 12 96 g65 := by
  intro args x hh
  unfold g65 at hh
  split at hh
  · rename_i l s
    simp only [Option.some.injEq, Prod.mk.injEq, decide_eq_true_eq] at hh
    obtain ⟨h1, rfl⟩ := hh
    refine ⟨_, rfl, rfl, ?_⟩
    refine Eq.mpr (y65 κ l s _) ?_
    refine ⟨rfl, (l, s, 0), rfl, ⟨h1, by simp only; omega, by simp only; omega⟩, ?_⟩
    simp only [Int.toNat_zero, List.drop_zero, brn_iff, decide_eq_true_eq, decide_eq_false_iff_not]
    exact ⟨fun _ => trivial, fun e => by rw [placeS_neg s l 0 e (by omega)]⟩
  · cases hh
noncomputable def E65 (κ : Kp) : Env := (E65l κ).addPure 96 g65
theorem e65 (κ : Kp) : EnvOK (E65 κ) := (e65l κ).addPure (m65l κ) (p65 κ)
theorem m65 (κ : Kp) : EnvMono (E65 κ) := (m65l κ).addPure
theorem y63 (κ : Kp) (l : List AV) (s : ByteArray) (K : AV → List Dn.Obj → Prop) : (funA (E65 κ) 12 93 [.lst 9 l, .lit (.string s)] [] K) = (
  cnd (decide (List.length l ≤ 9223372036854775807)) (K (AV.bool (decide (placeS s l (0 : Int) ≥ (0 : Int)))) [])) := by kernel_rfl
def g63 : List AV → Option (Bool × AV)
  | [.lst 9 l, .lit (.string s)] => some (decide (l.length ≤ maxI), .bool (decide (placeS s l 0 ≥ 0)))
  | _ => none
theorem p63 (κ : Kp) : PureOk (E65 κ) 12 93 g63 := by
  intro args x hh
  unfold g63 at hh
  split at hh
  · rename_i l s
    simp only [Option.some.injEq, Prod.mk.injEq, decide_eq_true_eq] at hh
    obtain ⟨h1, rfl⟩ := hh
    refine ⟨_, rfl, rfl, ?_⟩
    refine Eq.mpr (y63 κ l s _) ?_
    rw [cnd_iff, decide_eq_true_eq]
    exact ⟨h1, rfl⟩
  · cases hh
noncomputable def E63 (κ : Kp) : Env := (E65 κ).addPure 93 g63
theorem e63 (κ : Kp) : EnvOK (E63 κ) := (e65 κ).addPure (m65 κ) (p63 κ)
theorem m63 (κ : Kp) : EnvMono (E63 κ) := (m65 κ).addPure
theorem y24 (κ : Kp) (a : A45) (k : Int) (K : AV → List Dn.Obj → Prop) : (funA (E63 κ) 12 32 [rl45 a, .int k] [] K) = (
  cnd (decide ((0 : Int) ≤ k) && decide (k < (↑(List.length (A45.bl a)) : Int))) (brn (decide ((7 : Int) ≤ toInt (fld (nth (A45.bl a) (Int.toNat k)) 0))) (((∃ (a_1
  : List AV), ([AV.lst 43 [AV.agg [AV.int (toInt (fld (fld (nth (A45.bl a) (Int.toNat k)) 2) 0)), AV.str (toStr (fld (fld (nth (A45.bl a) (Int.toNat k)) 2) 1)),
  AV.int (toInt (fld (fld (nth (A45.bl a) (Int.toNat k)) 2) 2)), AV.lst 43 (toLst (fld (fld (nth (A45.bl a) (Int.toNat k)) 2) 3))]]], nilO) = ([AV.lst 43 a_1],
  nilO) ∧ side31a a_1 ∧ ∃ (a_2 : A45 × Int), ([AV.agg [AV.agg [AV.str (A45.rel a), AV.lst 43 (A45.hl a)], AV.lst 46 (A45.bl a), AV.int (A45.line a)], AV.int k],
  nilO) = ([AV.agg [AV.agg [AV.str (A45.rel (Prod.fst a_2)), AV.lst 43 (A45.hl (Prod.fst a_2))], AV.lst 46 (A45.bl (Prod.fst a_2)), AV.int (A45.line (Prod.fst
  a_2))], AV.int (Prod.snd a_2)], nilO) ∧ (rightR (rOf (Prod.fst a_2)) = true ∧ (cntL (tmsOf (ruleTs 43 (A45.hl (Prod.fst a_2)) (A45.bl (Prod.fst a_2)))) ≤
  100000 ∧ List.length (A45.bl (Prod.fst a_2)) ≤ 100000) ∧ (0 : Int) ≤ Prod.snd a_2 ∧ Prod.snd a_2 < (↑(List.length (A45.bl (Prod.fst a_2))) : Int)) ∧ cnd
  (decide ((List.length (varsL (tmsOf a_1)) + List.length (strs (outerV (rOf (Prod.fst a_2)) (Int.toNat (Prod.snd a_2)))) + 1) * 17 ≤ 70368744177664)) (K (AV.lst
  9 (List.take (List.length (varsL (tmsOf a_1)) + List.length (strs (outerV (rOf (Prod.fst a_2)) (Int.toNat (Prod.snd a_2))))) (List.drop 0 (List.take
  (List.length (varsL (tmsOf a_1))) (strs (varsL (tmsOf a_1))) ++ strs (outerV (rOf (Prod.fst a_2)) (Int.toNat (Prod.snd a_2))))))) [])) ∧ ∃ (a_1 : List AV),
  ([AV.lst 43 [AV.agg [AV.int (toInt (fld (fld (nth (A45.bl a) (Int.toNat k)) 2) 0)), AV.str (toStr (fld (fld (nth (A45.bl a) (Int.toNat k)) 2) 1)), AV.int
  (toInt (fld (fld (nth (A45.bl a) (Int.toNat k)) 2) 2)), AV.lst 43 (toLst (fld (fld (nth (A45.bl a) (Int.toNat k)) 2) 3))]]], nilO) = ([AV.lst 43 a_1], nilO) ∧
  side31a a_1 ∧ ∃ (a_2 : A45 × Int), ([AV.agg [AV.agg [AV.str (A45.rel a), AV.lst 43 (A45.hl a)], AV.lst 46 (A45.bl a), AV.int (A45.line a)], AV.int k], nilO) =
  ([AV.agg [AV.agg [AV.str (A45.rel (Prod.fst a_2)), AV.lst 43 (A45.hl (Prod.fst a_2))], AV.lst 46 (A45.bl (Prod.fst a_2)), AV.int (A45.line (Prod.fst a_2))],
  AV.int (Prod.snd a_2)], nilO) ∧ (rightR (rOf (Prod.fst a_2)) = true ∧ (cntL (tmsOf (ruleTs 43 (A45.hl (Prod.fst a_2)) (A45.bl (Prod.fst a_2)))) ≤ 100000 ∧
  List.length (A45.bl (Prod.fst a_2)) ≤ 100000) ∧ (0 : Int) ≤ Prod.snd a_2 ∧ Prod.snd a_2 < (↑(List.length (A45.bl (Prod.fst a_2))) : Int)) ∧ cnd (decide
  ((List.length (varsL (tmsOf a_1)) + List.length (strs (outerV (rOf (Prod.fst a_2)) (Int.toNat (Prod.snd a_2)))) + 1) * 17 ≤ 70368744177664)) (K (AV.lst 9
  (List.take (List.length (varsL (tmsOf a_1)) + List.length (strs (outerV (rOf (Prod.fst a_2)) (Int.toNat (Prod.snd a_2))))) (List.drop 0 (List.take (List.length
  (varsL (tmsOf a_1))) (strs (varsL (tmsOf a_1))) ++ strs (outerV (rOf (Prod.fst a_2)) (Int.toNat (Prod.snd a_2))))))) [])) ∧ ∃ (a_1 : List AV), ([AV.lst 43
  [AV.agg [AV.int (toInt (fld (fld (nth (A45.bl a) (Int.toNat k)) 2) 0)), AV.str (toStr (fld (fld (nth (A45.bl a) (Int.toNat k)) 2) 1)), AV.int (toInt (fld (fld
  (nth (A45.bl a) (Int.toNat k)) 2) 2)), AV.lst 43 (toLst (fld (fld (nth (A45.bl a) (Int.toNat k)) 2) 3))]]], nilO) = ([AV.lst 43 a_1], nilO) ∧ side31a a_1 ∧ ∃
  (a_2 : A45 × Int), ([AV.agg [AV.agg [AV.str (A45.rel a), AV.lst 43 (A45.hl a)], AV.lst 46 (A45.bl a), AV.int (A45.line a)], AV.int k], nilO) = ([AV.agg [AV.agg
  [AV.str (A45.rel (Prod.fst a_2)), AV.lst 43 (A45.hl (Prod.fst a_2))], AV.lst 46 (A45.bl (Prod.fst a_2)), AV.int (A45.line (Prod.fst a_2))], AV.int (Prod.snd
  a_2)], nilO) ∧ (rightR (rOf (Prod.fst a_2)) = true ∧ (cntL (tmsOf (ruleTs 43 (A45.hl (Prod.fst a_2)) (A45.bl (Prod.fst a_2)))) ≤ 100000 ∧ List.length (A45.bl
  (Prod.fst a_2)) ≤ 100000) ∧ (0 : Int) ≤ Prod.snd a_2 ∧ Prod.snd a_2 < (↑(List.length (A45.bl (Prod.fst a_2))) : Int)) ∧ cnd (decide ((List.length (varsL (tmsOf
  a_1)) + List.length (strs (outerV (rOf (Prod.fst a_2)) (Int.toNat (Prod.snd a_2)))) + 1) * 17 ≤ 70368744177664)) (K (AV.lst 9 (List.take (List.length (varsL
  (tmsOf a_1)) + List.length (strs (outerV (rOf (Prod.fst a_2)) (Int.toNat (Prod.snd a_2))))) (List.drop 0 (List.take (List.length (varsL (tmsOf a_1))) (strs
  (varsL (tmsOf a_1))) ++ strs (outerV (rOf (Prod.fst a_2)) (Int.toNat (Prod.snd a_2))))))) [])) (∃ (a_1 : LA), ([AV.agg [AV.int (toInt (fld (nth (A45.bl a)
  (Int.toNat k)) 0)), AV.agg [AV.str (toStr (fld (fld (nth (A45.bl a) (Int.toNat k)) 1) 0)), AV.lst 43 (toLst (fld (fld (nth (A45.bl a) (Int.toNat k)) 1) 1))],
  AV.agg [AV.int (toInt (fld (fld (nth (A45.bl a) (Int.toNat k)) 2) 0)), AV.str (toStr (fld (fld (nth (A45.bl a) (Int.toNat k)) 2) 1)), AV.int (toInt (fld (fld
  (nth (A45.bl a) (Int.toNat k)) 2) 2)), AV.lst 43 (toLst (fld (fld (nth (A45.bl a) (Int.toNat k)) 2) 3))], AV.agg [AV.int (toInt (fld (fld (nth (A45.bl a)
  (Int.toNat k)) 3) 0)), AV.str (toStr (fld (fld (nth (A45.bl a) (Int.toNat k)) 3) 1)), AV.int (toInt (fld (fld (nth (A45.bl a) (Int.toNat k)) 3) 2)), AV.lst 43
  (toLst (fld (fld (nth (A45.bl a) (Int.toNat k)) 3) 3))]]], nilO) = ([AV.agg [AV.int (LA.op a_1), AV.agg [AV.str (LA.s a_1), AV.lst 43 (LA.l a_1)], AV.agg
  [AV.int (LA.o1 a_1), AV.str (LA.s1 a_1), AV.int (LA.n1 a_1), AV.lst 43 (LA.l1 a_1)], AV.agg [AV.int (LA.o2 a_1), AV.str (LA.s2 a_1), AV.int (LA.n2 a_1), AV.lst
  43 (LA.l2 a_1)]]], nilO) ∧ side40 a_1 ∧ K (AV.lst 9 (List.take (List.length (litV (LA.lt a_1))) (List.drop 0 (strs (litV (LA.lt a_1)))))) []))) := by kernel_rfl
def out24 (a : A45 × Int) : Out (AV × List Dn.Obj) := .one (.lst 9 (strs (gainsV (rOf a.1) a.2.toNat)), [])
theorem x_lit_c (l : Lt) : cntL [l.x] ≤ litC l := by
  simp only [litC, cntL]; omega
theorem x_lit_t (x : AV) : tmsOf [exT 43 (fld x 2)] = [(ltOf x).x] := by
  simp only [tmsOf, List.map_cons, List.map_nil, tmOf_ex]; rfl
theorem outer_len {a : A45} (h : side42 a) (k : Nat) : (outerV (rOf a) k).length ≤ 100000 := by
  have h5 : (ruleV (rOf a)).length ≤ 100000 := by
    have h6 := varsL_le (tmsOf (ruleTs 43 a.hl a.bl))
    rw [ruleTs_vars 43 a.rel a.hl a.bl] at h6
    exact Nat.le_trans h6 h.1
  have h7 := ddup_len (ruleV (rOf a)) []
  refine Nat.le_trans (List.length_filter_le _ _) ?_
  unfold varsR
  cases rightR (rOf a)
  · simp
  · rw [cond_true]; omega
theorem c24 (κ : Kp) : CallOk (E63 κ) 12 32 (callE st39 side39 out24) := by
  refine callE_ok ?_
  rintro ⟨a, k⟩ K ⟨h1, h2, h3, h4⟩ ho
  refine Eq.mpr (y24 κ a k K) ?_
  simp only at h1 h2 h3 h4
  have hk : k.toNat < a.bl.length := by omega
  have hlit := side_lit h2 hk
  have hv := varsL_le [(ltOf (nth a.bl k.toNat)).x]
  have hc := x_lit_c (ltOf (nth a.bl k.toNat))
  have ho' : K (.lst 9 (strs (gainsV (rOf a) k.toNat))) [] := ho
  unfold gainsV at ho'
  rw [show (rOf a).body = ltsOf a.bl from rfl, nthLt_lts _ hk, show (ltOf (nth a.bl k.toNat)).op = toInt (fld (nth a.bl k.toNat) 0) from rfl] at ho'
  simp only [and_self]
  rw [cnd_iff, Bool.and_eq_true, decide_eq_true_eq, decide_eq_true_eq, brn_iff, decide_eq_true_eq, decide_eq_false_iff_not]
  refine ⟨⟨h3, h4⟩, fun e => ?_, fun e => ?_⟩
  · rw [decide_eq_true e] at ho'
    refine ⟨[exT 43 (fld (nth a.bl k.toNat) 2)], rfl, by simp only [side31a, x_lit_t]; omega, (a, k), rfl, ⟨h1, h2, h3, h4⟩, ?_⟩
    have hol := outer_len h2 k.toNat
    simp only [x_lit_t, strs_len, List.drop_zero, take_strs, cnd_iff, decide_eq_true_eq]
    refine ⟨by omega, ?_⟩
    rw [← strs_app, List.take_of_length_le (by simp [strs_len])]
    exact ho'
  · rw [decide_eq_false e] at ho'
    refine ⟨laOf (nth a.bl k.toNat), rfl, by rw [side40, laOf_lt]; exact hlit, ?_⟩
    simp only [laOf_lt, List.drop_zero, take_strs]
    exact ho'
noncomputable def E24 (κ : Kp) : Env := (E63 κ).addCall 32 (callE st39 side39 out24)
theorem e24 (κ : Kp) : EnvOK (E24 κ) := (e63 κ).addCall (m63 κ) (c24 κ)
theorem m24 (κ : Kp) : EnvMono (E24 κ) := (m63 κ).addCall callE_mono
end Go.Proofs.YtpgahkbkfflkaaaGreatDoor
namespace Go.Proofs.YtpgahkbkfflkaaaGreatDoor
open Go Go.Dn Go.Rl Go.Proofs
attribute [local irreducible] funA vc
set_option maxRecDepth 20000
theorem y52 (κ : Kp) (a : A45) (k : Int) (es : List (Value × AV)) (K : AV → List Dn.Obj → Prop) : (funA (E24 κ) 12 79 [.mp 0, rl45 a, .int k] [.map 9 4 es] K) = (
  cnd (decide ((0 : Int) ≤ k) && decide (k < (↑(List.length (A45.bl a)) : Int))) (brn (toInt (fld (nth (A45.bl a) (Int.toNat k)) 0) == (1 : Int)) (∃ (a_1 :
  ByteArray × List AV), ([AV.agg [AV.str (toStr (fld (fld (nth (A45.bl a) (Int.toNat k)) 1) 0)), AV.lst 43 (toLst (fld (fld (nth (A45.bl a) (Int.toNat k)) 1)
  1))]], nilO) = ([AV.agg [AV.str (Prod.fst a_1), AV.lst 43 (Prod.snd a_1)]], nilO) ∧ side62 a_1 ∧ ∃ (a : List AV × List (Value × AV)), ([AV.mp 0, AV.lst 9
  (List.take (List.length (reckL (tmsOf (Prod.snd a_1)))) (List.drop 0 (strs (reckL (tmsOf (Prod.snd a_1))))))], [Dn.Obj.map 9 4 es]) = ([AV.mp 0, AV.lst 9
  (Prod.fst a)], [Dn.Obj.map 9 4 (Prod.snd a)]) ∧ side23 a ∧ K (AV.bool (hasL (Prod.snd a) (Prod.fst a))) [Dn.Obj.map 9 4 (Prod.snd a)]) (brn (toInt (fld (nth
  (A45.bl a) (Int.toNat k)) 0) == (3 : Int)) (∃ (a_1 : TA), ([AV.mp 0, AV.agg [AV.int (toInt (fld (fld (nth (A45.bl a) (Int.toNat k)) 2) 0)), AV.str (toStr (fld
  (fld (nth (A45.bl a) (Int.toNat k)) 2) 1)), AV.int (toInt (fld (fld (nth (A45.bl a) (Int.toNat k)) 2) 2)), AV.lst 43 (toLst (fld (fld (nth (A45.bl a)
  (Int.toNat k)) 2) 3))], AV.agg [AV.int (toInt (fld (fld (nth (A45.bl a) (Int.toNat k)) 3) 0)), AV.str (toStr (fld (fld (nth (A45.bl a) (Int.toNat k)) 3) 1)),
  AV.int (toInt (fld (fld (nth (A45.bl a) (Int.toNat k)) 3) 2)), AV.lst 43 (toLst (fld (fld (nth (A45.bl a) (Int.toNat k)) 3) 3))]], [Dn.Obj.map 9 4 es]) =
  ([AV.mp 0, AV.agg [AV.int (TA.o1 a_1), AV.str (TA.s1 a_1), AV.int (TA.n1 a_1), AV.lst 43 (TA.l1 a_1)], AV.agg [AV.int (TA.o2 a_1), AV.str (TA.s2 a_1), AV.int
  (TA.n2 a_1), AV.lst 43 (TA.l2 a_1)]], [Dn.Obj.map 9 4 (TA.es a_1)]) ∧ side20 a_1 ∧ brn (bindsS (TA.es a_1) (TA.x a_1) (TA.y a_1)) (K (AV.bool true) [Dn.Obj.map
  9 4 (TA.es a_1)]) (∃ (a_2 : TA), ([AV.mp 0, AV.agg [AV.int (toInt (fld (fld (nth (A45.bl a) (Int.toNat k)) 3) 0)), AV.str (toStr (fld (fld (nth (A45.bl a)
  (Int.toNat k)) 3) 1)), AV.int (toInt (fld (fld (nth (A45.bl a) (Int.toNat k)) 3) 2)), AV.lst 43 (toLst (fld (fld (nth (A45.bl a) (Int.toNat k)) 3) 3))], AV.agg
  [AV.int (toInt (fld (fld (nth (A45.bl a) (Int.toNat k)) 2) 0)), AV.str (toStr (fld (fld (nth (A45.bl a) (Int.toNat k)) 2) 1)), AV.int (toInt (fld (fld (nth
  (A45.bl a) (Int.toNat k)) 2) 2)), AV.lst 43 (toLst (fld (fld (nth (A45.bl a) (Int.toNat k)) 2) 3))]], [Dn.Obj.map 9 4 (TA.es a_1)]) = ([AV.mp 0, AV.agg [AV.int
  (TA.o1 a_2), AV.str (TA.s1 a_2), AV.int (TA.n1 a_2), AV.lst 43 (TA.l1 a_2)], AV.agg [AV.int (TA.o2 a_2), AV.str (TA.s2 a_2), AV.int (TA.n2 a_2), AV.lst 43
  (TA.l2 a_2)]], [Dn.Obj.map 9 4 (TA.es a_2)]) ∧ side20 a_2 ∧ brn (bindsS (TA.es a_2) (TA.x a_2) (TA.y a_2)) (K (AV.bool true) [Dn.Obj.map 9 4 (TA.es a_2)]) (∃
  (a_3 : LA), ([AV.agg [AV.int (toInt (fld (nth (A45.bl a) (Int.toNat k)) 0)), AV.agg [AV.str (toStr (fld (fld (nth (A45.bl a) (Int.toNat k)) 1) 0)), AV.lst 43
  (toLst (fld (fld (nth (A45.bl a) (Int.toNat k)) 1) 1))], AV.agg [AV.int (toInt (fld (fld (nth (A45.bl a) (Int.toNat k)) 2) 0)), AV.str (toStr (fld (fld (nth
  (A45.bl a) (Int.toNat k)) 2) 1)), AV.int (toInt (fld (fld (nth (A45.bl a) (Int.toNat k)) 2) 2)), AV.lst 43 (toLst (fld (fld (nth (A45.bl a) (Int.toNat k)) 2)
  3))], AV.agg [AV.int (toInt (fld (fld (nth (A45.bl a) (Int.toNat k)) 3) 0)), AV.str (toStr (fld (fld (nth (A45.bl a) (Int.toNat k)) 3) 1)), AV.int (toInt (fld
  (fld (nth (A45.bl a) (Int.toNat k)) 3) 2)), AV.lst 43 (toLst (fld (fld (nth (A45.bl a) (Int.toNat k)) 3) 3))]]], nilO) = ([AV.agg [AV.int (LA.op a_3), AV.agg
  [AV.str (LA.s a_3), AV.lst 43 (LA.l a_3)], AV.agg [AV.int (LA.o1 a_3), AV.str (LA.s1 a_3), AV.int (LA.n1 a_3), AV.lst 43 (LA.l1 a_3)], AV.agg [AV.int (LA.o2
  a_3), AV.str (LA.s2 a_3), AV.int (LA.n2 a_3), AV.lst 43 (LA.l2 a_3)]]], nilO) ∧ side40 a_3 ∧ ∃ (a : List AV × List (Value × AV)), ([AV.mp 0, AV.lst 9
  (List.take (List.length (litV (LA.lt a_3))) (List.drop 0 (strs (litV (LA.lt a_3)))))], [Dn.Obj.map 9 4 (TA.es a_2)]) = ([AV.mp 0, AV.lst 9 (Prod.fst a)],
  [Dn.Obj.map 9 4 (Prod.snd a)]) ∧ side23 a ∧ K (AV.bool (hasL (Prod.snd a) (Prod.fst a))) [Dn.Obj.map 9 4 (Prod.snd a)]))) (brn (toInt (fld (nth (A45.bl a)
  (Int.toNat k)) 0) == (2 : Int)) (∃ (a_1 : LA), ([AV.agg [AV.int (toInt (fld (nth (A45.bl a) (Int.toNat k)) 0)), AV.agg [AV.str (toStr (fld (fld (nth (A45.bl a)
  (Int.toNat k)) 1) 0)), AV.lst 43 (toLst (fld (fld (nth (A45.bl a) (Int.toNat k)) 1) 1))], AV.agg [AV.int (toInt (fld (fld (nth (A45.bl a) (Int.toNat k)) 2)
  0)), AV.str (toStr (fld (fld (nth (A45.bl a) (Int.toNat k)) 2) 1)), AV.int (toInt (fld (fld (nth (A45.bl a) (Int.toNat k)) 2) 2)), AV.lst 43 (toLst (fld (fld
  (nth (A45.bl a) (Int.toNat k)) 2) 3))], AV.agg [AV.int (toInt (fld (fld (nth (A45.bl a) (Int.toNat k)) 3) 0)), AV.str (toStr (fld (fld (nth (A45.bl a)
  (Int.toNat k)) 3) 1)), AV.int (toInt (fld (fld (nth (A45.bl a) (Int.toNat k)) 3) 2)), AV.lst 43 (toLst (fld (fld (nth (A45.bl a) (Int.toNat k)) 3) 3))]]],
  nilO) = ([AV.agg [AV.int (LA.op a_1), AV.agg [AV.str (LA.s a_1), AV.lst 43 (LA.l a_1)], AV.agg [AV.int (LA.o1 a_1), AV.str (LA.s1 a_1), AV.int (LA.n1 a_1),
  AV.lst 43 (LA.l1 a_1)], AV.agg [AV.int (LA.o2 a_1), AV.str (LA.s2 a_1), AV.int (LA.n2 a_1), AV.lst 43 (LA.l2 a_1)]]], nilO) ∧ side40 a_1 ∧ ∃ (a : List AV ×
  List (Value × AV)), ([AV.mp 0, AV.lst 9 (List.take (List.length (litV (LA.lt a_1))) (List.drop 0 (strs (litV (LA.lt a_1)))))], [Dn.Obj.map 9 4 es]) = ([AV.mp
  0, AV.lst 9 (Prod.fst a)], [Dn.Obj.map 9 4 (Prod.snd a)]) ∧ side23 a ∧ K (AV.bool (hasL (Prod.snd a) (Prod.fst a))) [Dn.Obj.map 9 4 (Prod.snd a)]) (brn (toInt
  (fld (nth (A45.bl a) (Int.toNat k)) 0) == (4 : Int)) (∃ (a_1 : LA), ([AV.agg [AV.int (toInt (fld (nth (A45.bl a) (Int.toNat k)) 0)), AV.agg [AV.str (toStr (fld
  (fld (nth (A45.bl a) (Int.toNat k)) 1) 0)), AV.lst 43 (toLst (fld (fld (nth (A45.bl a) (Int.toNat k)) 1) 1))], AV.agg [AV.int (toInt (fld (fld (nth (A45.bl a)
  (Int.toNat k)) 2) 0)), AV.str (toStr (fld (fld (nth (A45.bl a) (Int.toNat k)) 2) 1)), AV.int (toInt (fld (fld (nth (A45.bl a) (Int.toNat k)) 2) 2)), AV.lst 43
  (toLst (fld (fld (nth (A45.bl a) (Int.toNat k)) 2) 3))], AV.agg [AV.int (toInt (fld (fld (nth (A45.bl a) (Int.toNat k)) 3) 0)), AV.str (toStr (fld (fld (nth
  (A45.bl a) (Int.toNat k)) 3) 1)), AV.int (toInt (fld (fld (nth (A45.bl a) (Int.toNat k)) 3) 2)), AV.lst 43 (toLst (fld (fld (nth (A45.bl a) (Int.toNat k)) 3)
  3))]]], nilO) = ([AV.agg [AV.int (LA.op a_1), AV.agg [AV.str (LA.s a_1), AV.lst 43 (LA.l a_1)], AV.agg [AV.int (LA.o1 a_1), AV.str (LA.s1 a_1), AV.int (LA.n1
  a_1), AV.lst 43 (LA.l1 a_1)], AV.agg [AV.int (LA.o2 a_1), AV.str (LA.s2 a_1), AV.int (LA.n2 a_1), AV.lst 43 (LA.l2 a_1)]]], nilO) ∧ side40 a_1 ∧ ∃ (a : List AV
  × List (Value × AV)), ([AV.mp 0, AV.lst 9 (List.take (List.length (litV (LA.lt a_1))) (List.drop 0 (strs (litV (LA.lt a_1)))))], [Dn.Obj.map 9 4 es]) = ([AV.mp
  0, AV.lst 9 (Prod.fst a)], [Dn.Obj.map 9 4 (Prod.snd a)]) ∧ side23 a ∧ K (AV.bool (hasL (Prod.snd a) (Prod.fst a))) [Dn.Obj.map 9 4 (Prod.snd a)]) (brn (toInt
  (fld (nth (A45.bl a) (Int.toNat k)) 0) == (5 : Int)) (∃ (a_1 : LA), ([AV.agg [AV.int (toInt (fld (nth (A45.bl a) (Int.toNat k)) 0)), AV.agg [AV.str (toStr (fld
  (fld (nth (A45.bl a) (Int.toNat k)) 1) 0)), AV.lst 43 (toLst (fld (fld (nth (A45.bl a) (Int.toNat k)) 1) 1))], AV.agg [AV.int (toInt (fld (fld (nth (A45.bl a)
  (Int.toNat k)) 2) 0)), AV.str (toStr (fld (fld (nth (A45.bl a) (Int.toNat k)) 2) 1)), AV.int (toInt (fld (fld (nth (A45.bl a) (Int.toNat k)) 2) 2)), AV.lst 43
  (toLst (fld (fld (nth (A45.bl a) (Int.toNat k)) 2) 3))], AV.agg [AV.int (toInt (fld (fld (nth (A45.bl a) (Int.toNat k)) 3) 0)), AV.str (toStr (fld (fld (nth
  (A45.bl a) (Int.toNat k)) 3) 1)), AV.int (toInt (fld (fld (nth (A45.bl a) (Int.toNat k)) 3) 2)), AV.lst 43 (toLst (fld (fld (nth (A45.bl a) (Int.toNat k)) 3)
  3))]]], nilO) = ([AV.agg [AV.int (LA.op a_1), AV.agg [AV.str (LA.s a_1), AV.lst 43 (LA.l a_1)], AV.agg [AV.int (LA.o1 a_1), AV.str (LA.s1 a_1), AV.int (LA.n1
  a_1), AV.lst 43 (LA.l1 a_1)], AV.agg [AV.int (LA.o2 a_1), AV.str (LA.s2 a_1), AV.int (LA.n2 a_1), AV.lst 43 (LA.l2 a_1)]]], nilO) ∧ side40 a_1 ∧ ∃ (a : List AV
  × List (Value × AV)), ([AV.mp 0, AV.lst 9 (List.take (List.length (litV (LA.lt a_1))) (List.drop 0 (strs (litV (LA.lt a_1)))))], [Dn.Obj.map 9 4 es]) = ([AV.mp
  0, AV.lst 9 (Prod.fst a)], [Dn.Obj.map 9 4 (Prod.snd a)]) ∧ side23 a ∧ K (AV.bool (hasL (Prod.snd a) (Prod.fst a))) [Dn.Obj.map 9 4 (Prod.snd a)]) (brn (toInt
  (fld (nth (A45.bl a) (Int.toNat k)) 0) == (6 : Int)) (∃ (a_1 : LA), ([AV.agg [AV.int (toInt (fld (nth (A45.bl a) (Int.toNat k)) 0)), AV.agg [AV.str (toStr (fld
  (fld (nth (A45.bl a) (Int.toNat k)) 1) 0)), AV.lst 43 (toLst (fld (fld (nth (A45.bl a) (Int.toNat k)) 1) 1))], AV.agg [AV.int (toInt (fld (fld (nth (A45.bl a)
  (Int.toNat k)) 2) 0)), AV.str (toStr (fld (fld (nth (A45.bl a) (Int.toNat k)) 2) 1)), AV.int (toInt (fld (fld (nth (A45.bl a) (Int.toNat k)) 2) 2)), AV.lst 43
  (toLst (fld (fld (nth (A45.bl a) (Int.toNat k)) 2) 3))], AV.agg [AV.int (toInt (fld (fld (nth (A45.bl a) (Int.toNat k)) 3) 0)), AV.str (toStr (fld (fld (nth
  (A45.bl a) (Int.toNat k)) 3) 1)), AV.int (toInt (fld (fld (nth (A45.bl a) (Int.toNat k)) 3) 2)), AV.lst 43 (toLst (fld (fld (nth (A45.bl a) (Int.toNat k)) 3)
  3))]]], nilO) = ([AV.agg [AV.int (LA.op a_1), AV.agg [AV.str (LA.s a_1), AV.lst 43 (LA.l a_1)], AV.agg [AV.int (LA.o1 a_1), AV.str (LA.s1 a_1), AV.int (LA.n1
  a_1), AV.lst 43 (LA.l1 a_1)], AV.agg [AV.int (LA.o2 a_1), AV.str (LA.s2 a_1), AV.int (LA.n2 a_1), AV.lst 43 (LA.l2 a_1)]]], nilO) ∧ side40 a_1 ∧ ∃ (a : List AV
  × List (Value × AV)), ([AV.mp 0, AV.lst 9 (List.take (List.length (litV (LA.lt a_1))) (List.drop 0 (strs (litV (LA.lt a_1)))))], [Dn.Obj.map 9 4 es]) = ([AV.mp
  0, AV.lst 9 (Prod.fst a)], [Dn.Obj.map 9 4 (Prod.snd a)]) ∧ side23 a ∧ K (AV.bool (hasL (Prod.snd a) (Prod.fst a))) [Dn.Obj.map 9 4 (Prod.snd a)]) (brn (toInt
  (fld (nth (A45.bl a) (Int.toNat k)) 0) == (7 : Int)) ((∃ (a_1 : A45 × Int), ([AV.agg [AV.agg [AV.str (A45.rel a), AV.lst 43 (A45.hl a)], AV.lst 46 (A45.bl a),
  AV.int (A45.line a)], AV.int k], nilO) = ([AV.agg [AV.agg [AV.str (A45.rel (Prod.fst a_1)), AV.lst 43 (A45.hl (Prod.fst a_1))], AV.lst 46 (A45.bl (Prod.fst
  a_1)), AV.int (A45.line (Prod.fst a_1))], AV.int (Prod.snd a_1)], nilO) ∧ (rightR (rOf (Prod.fst a_1)) = true ∧ (cntL (tmsOf (ruleTs 43 (A45.hl (Prod.fst a_1))
  (A45.bl (Prod.fst a_1)))) ≤ 100000 ∧ List.length (A45.bl (Prod.fst a_1)) ≤ 100000) ∧ (0 : Int) ≤ Prod.snd a_1 ∧ Prod.snd a_1 < (↑(List.length (A45.bl (Prod.fst
  a_1))) : Int)) ∧ ∃ (a_2 : List AV × List (Value × AV)), ([AV.mp 0, AV.lst 9 (strs (outerV (rOf (Prod.fst a_1)) (Int.toNat (Prod.snd a_1))))], [Dn.Obj.map 9 4
  es]) = ([AV.mp 0, AV.lst 9 (Prod.fst a_2)], [Dn.Obj.map 9 4 (Prod.snd a_2)]) ∧ side23 a_2 ∧ brn (hasL (Prod.snd a_2) (Prod.fst a_2)) (∃ (a_3 : ByteArray × List
  AV), ([AV.agg [AV.str (toStr (fld (fld (nth (A45.bl a) (Int.toNat k)) 1) 0)), AV.lst 43 (toLst (fld (fld (nth (A45.bl a) (Int.toNat k)) 1) 1))]], nilO) =
  ([AV.agg [AV.str (Prod.fst a_3), AV.lst 43 (Prod.snd a_3)]], nilO) ∧ side62 a_3 ∧ ∃ (a : List AV × List (Value × AV)), ([AV.mp 0, AV.lst 9 (List.take
  (List.length (reckL (tmsOf (Prod.snd a_3)))) (List.drop 0 (strs (reckL (tmsOf (Prod.snd a_3))))))], [Dn.Obj.map 9 4 (Prod.snd a_2)]) = ([AV.mp 0, AV.lst 9
  (Prod.fst a)], [Dn.Obj.map 9 4 (Prod.snd a)]) ∧ side23 a ∧ K (AV.bool (hasL (Prod.snd a) (Prod.fst a))) [Dn.Obj.map 9 4 (Prod.snd a)]) (K (AV.bool false)
  [Dn.Obj.map 9 4 (Prod.snd a_2)])) ∧ (∃ (a_1 : A45 × Int), ([AV.agg [AV.agg [AV.str (A45.rel a), AV.lst 43 (A45.hl a)], AV.lst 46 (A45.bl a), AV.int (A45.line
  a)], AV.int k], nilO) = ([AV.agg [AV.agg [AV.str (A45.rel (Prod.fst a_1)), AV.lst 43 (A45.hl (Prod.fst a_1))], AV.lst 46 (A45.bl (Prod.fst a_1)), AV.int
  (A45.line (Prod.fst a_1))], AV.int (Prod.snd a_1)], nilO) ∧ (rightR (rOf (Prod.fst a_1)) = true ∧ (cntL (tmsOf (ruleTs 43 (A45.hl (Prod.fst a_1)) (A45.bl
  (Prod.fst a_1)))) ≤ 100000 ∧ List.length (A45.bl (Prod.fst a_1)) ≤ 100000) ∧ (0 : Int) ≤ Prod.snd a_1 ∧ Prod.snd a_1 < (↑(List.length (A45.bl (Prod.fst a_1)))
  : Int)) ∧ ∃ (a_2 : List AV × List (Value × AV)), ([AV.mp 0, AV.lst 9 (strs (outerV (rOf (Prod.fst a_1)) (Int.toNat (Prod.snd a_1))))], [Dn.Obj.map 9 4 es]) =
  ([AV.mp 0, AV.lst 9 (Prod.fst a_2)], [Dn.Obj.map 9 4 (Prod.snd a_2)]) ∧ side23 a_2 ∧ brn (hasL (Prod.snd a_2) (Prod.fst a_2)) (∃ (a_3 : ByteArray × List AV),
  ([AV.agg [AV.str (toStr (fld (fld (nth (A45.bl a) (Int.toNat k)) 1) 0)), AV.lst 43 (toLst (fld (fld (nth (A45.bl a) (Int.toNat k)) 1) 1))]], nilO) = ([AV.agg
  [AV.str (Prod.fst a_3), AV.lst 43 (Prod.snd a_3)]], nilO) ∧ side62 a_3 ∧ ∃ (a : List AV × List (Value × AV)), ([AV.mp 0, AV.lst 9 (List.take (List.length
  (reckL (tmsOf (Prod.snd a_3)))) (List.drop 0 (strs (reckL (tmsOf (Prod.snd a_3))))))], [Dn.Obj.map 9 4 (Prod.snd a_2)]) = ([AV.mp 0, AV.lst 9 (Prod.fst a)],
  [Dn.Obj.map 9 4 (Prod.snd a)]) ∧ side23 a ∧ K (AV.bool (hasL (Prod.snd a) (Prod.fst a))) [Dn.Obj.map 9 4 (Prod.snd a)]) (K (AV.bool false) [Dn.Obj.map 9 4
  (Prod.snd a_2)])) ∧ (∃ (a_1 : A45 × Int), ([AV.agg [AV.agg [AV.str (A45.rel a), AV.lst 43 (A45.hl a)], AV.lst 46 (A45.bl a), AV.int (A45.line a)], AV.int k],
  nilO) = ([AV.agg [AV.agg [AV.str (A45.rel (Prod.fst a_1)), AV.lst 43 (A45.hl (Prod.fst a_1))], AV.lst 46 (A45.bl (Prod.fst a_1)), AV.int (A45.line (Prod.fst
  a_1))], AV.int (Prod.snd a_1)], nilO) ∧ (rightR (rOf (Prod.fst a_1)) = true ∧ (cntL (tmsOf (ruleTs 43 (A45.hl (Prod.fst a_1)) (A45.bl (Prod.fst a_1)))) ≤
  100000 ∧ List.length (A45.bl (Prod.fst a_1)) ≤ 100000) ∧ (0 : Int) ≤ Prod.snd a_1 ∧ Prod.snd a_1 < (↑(List.length (A45.bl (Prod.fst a_1))) : Int)) ∧ ∃ (a_2 :
  List AV × List (Value × AV)), ([AV.mp 0, AV.lst 9 (strs (outerV (rOf (Prod.fst a_1)) (Int.toNat (Prod.snd a_1))))], [Dn.Obj.map 9 4 es]) = ([AV.mp 0, AV.lst 9
  (Prod.fst a_2)], [Dn.Obj.map 9 4 (Prod.snd a_2)]) ∧ side23 a_2 ∧ brn (hasL (Prod.snd a_2) (Prod.fst a_2)) (∃ (a_3 : ByteArray × List AV), ([AV.agg [AV.str
  (toStr (fld (fld (nth (A45.bl a) (Int.toNat k)) 1) 0)), AV.lst 43 (toLst (fld (fld (nth (A45.bl a) (Int.toNat k)) 1) 1))]], nilO) = ([AV.agg [AV.str (Prod.fst
  a_3), AV.lst 43 (Prod.snd a_3)]], nilO) ∧ side62 a_3 ∧ ∃ (a : List AV × List (Value × AV)), ([AV.mp 0, AV.lst 9 (List.take (List.length (reckL (tmsOf (Prod.snd
  a_3)))) (List.drop 0 (strs (reckL (tmsOf (Prod.snd a_3))))))], [Dn.Obj.map 9 4 (Prod.snd a_2)]) = ([AV.mp 0, AV.lst 9 (Prod.fst a)], [Dn.Obj.map 9 4 (Prod.snd
  a)]) ∧ side23 a ∧ K (AV.bool (hasL (Prod.snd a) (Prod.fst a))) [Dn.Obj.map 9 4 (Prod.snd a)]) (K (AV.bool false) [Dn.Obj.map 9 4 (Prod.snd a_2)])) ∧ ∃ (a_1 :
  A45 × Int), ([AV.agg [AV.agg [AV.str (A45.rel a), AV.lst 43 (A45.hl a)], AV.lst 46 (A45.bl a), AV.int (A45.line a)], AV.int k], nilO) = ([AV.agg [AV.agg
  [AV.str (A45.rel (Prod.fst a_1)), AV.lst 43 (A45.hl (Prod.fst a_1))], AV.lst 46 (A45.bl (Prod.fst a_1)), AV.int (A45.line (Prod.fst a_1))], AV.int (Prod.snd
  a_1)], nilO) ∧ (rightR (rOf (Prod.fst a_1)) = true ∧ (cntL (tmsOf (ruleTs 43 (A45.hl (Prod.fst a_1)) (A45.bl (Prod.fst a_1)))) ≤ 100000 ∧ List.length (A45.bl
  (Prod.fst a_1)) ≤ 100000) ∧ (0 : Int) ≤ Prod.snd a_1 ∧ Prod.snd a_1 < (↑(List.length (A45.bl (Prod.fst a_1))) : Int)) ∧ ∃ (a_2 : List AV × List (Value × AV)),
  ([AV.mp 0, AV.lst 9 (strs (outerV (rOf (Prod.fst a_1)) (Int.toNat (Prod.snd a_1))))], [Dn.Obj.map 9 4 es]) = ([AV.mp 0, AV.lst 9 (Prod.fst a_2)], [Dn.Obj.map 9
  4 (Prod.snd a_2)]) ∧ side23 a_2 ∧ brn (hasL (Prod.snd a_2) (Prod.fst a_2)) (∃ (a_3 : ByteArray × List AV), ([AV.agg [AV.str (toStr (fld (fld (nth (A45.bl a)
  (Int.toNat k)) 1) 0)), AV.lst 43 (toLst (fld (fld (nth (A45.bl a) (Int.toNat k)) 1) 1))]], nilO) = ([AV.agg [AV.str (Prod.fst a_3), AV.lst 43 (Prod.snd a_3)]],
  nilO) ∧ side62 a_3 ∧ ∃ (a : List AV × List (Value × AV)), ([AV.mp 0, AV.lst 9 (List.take (List.length (reckL (tmsOf (Prod.snd a_3)))) (List.drop 0 (strs (reckL
  (tmsOf (Prod.snd a_3))))))], [Dn.Obj.map 9 4 (Prod.snd a_2)]) = ([AV.mp 0, AV.lst 9 (Prod.fst a)], [Dn.Obj.map 9 4 (Prod.snd a)]) ∧ side23 a ∧ K (AV.bool (hasL
  (Prod.snd a) (Prod.fst a))) [Dn.Obj.map 9 4 (Prod.snd a)]) (K (AV.bool false) [Dn.Obj.map 9 4 (Prod.snd a_2)])) ((∃ (a_1 : List AV), ([AV.lst 43 (toLst (fld
  (fld (nth (A45.bl a) (Int.toNat k)) 1) 1))], nilO) = ([AV.lst 43 a_1], nilO) ∧ side31a a_1 ∧ cnd (decide (List.length (List.take (List.length (varsL (tmsOf
  a_1))) (List.drop 0 (strs (varsL (tmsOf a_1))))) ≤ 9223372036854775807)) (brn (decide (placeS (toStr (fld (fld (nth (A45.bl a) (Int.toNat k)) 3) 1)) (List.take
  (List.length (varsL (tmsOf a_1))) (List.drop 0 (strs (varsL (tmsOf a_1))))) (0 : Int) ≥ (0 : Int))) (∃ (a_2 : A45 × Int), ([AV.agg [AV.agg [AV.str (A45.rel a),
  AV.lst 43 (A45.hl a)], AV.lst 46 (A45.bl a), AV.int (A45.line a)], AV.int k], nilO) = ([AV.agg [AV.agg [AV.str (A45.rel (Prod.fst a_2)), AV.lst 43 (A45.hl
  (Prod.fst a_2))], AV.lst 46 (A45.bl (Prod.fst a_2)), AV.int (A45.line (Prod.fst a_2))], AV.int (Prod.snd a_2)], nilO) ∧ (rightR (rOf (Prod.fst a_2)) = true ∧
  (cntL (tmsOf (ruleTs 43 (A45.hl (Prod.fst a_2)) (A45.bl (Prod.fst a_2)))) ≤ 100000 ∧ List.length (A45.bl (Prod.fst a_2)) ≤ 100000) ∧ (0 : Int) ≤ Prod.snd a_2 ∧
  Prod.snd a_2 < (↑(List.length (A45.bl (Prod.fst a_2))) : Int)) ∧ ∃ (a_3 : List AV × List (Value × AV)), ([AV.mp 0, AV.lst 9 (strs (outerV (rOf (Prod.fst a_2))
  (Int.toNat (Prod.snd a_2))))], [Dn.Obj.map 9 4 es]) = ([AV.mp 0, AV.lst 9 (Prod.fst a_3)], [Dn.Obj.map 9 4 (Prod.snd a_3)]) ∧ side23 a_3 ∧ brn (hasL (Prod.snd
  a_3) (Prod.fst a_3)) (∃ (a_4 : ByteArray × List AV), ([AV.agg [AV.str (toStr (fld (fld (nth (A45.bl a) (Int.toNat k)) 1) 0)), AV.lst 43 (toLst (fld (fld (nth
  (A45.bl a) (Int.toNat k)) 1) 1))]], nilO) = ([AV.agg [AV.str (Prod.fst a_4), AV.lst 43 (Prod.snd a_4)]], nilO) ∧ side62 a_4 ∧ ∃ (a : List AV × List (Value ×
  AV)), ([AV.mp 0, AV.lst 9 (List.take (List.length (reckL (tmsOf (Prod.snd a_4)))) (List.drop 0 (strs (reckL (tmsOf (Prod.snd a_4))))))], [Dn.Obj.map 9 4
  (Prod.snd a_3)]) = ([AV.mp 0, AV.lst 9 (Prod.fst a)], [Dn.Obj.map 9 4 (Prod.snd a)]) ∧ side23 a ∧ K (AV.bool (hasL (Prod.snd a) (Prod.fst a))) [Dn.Obj.map 9 4
  (Prod.snd a)]) (K (AV.bool false) [Dn.Obj.map 9 4 (Prod.snd a_3)])) (K (AV.bool false) [Dn.Obj.map 9 4 es]))) ∧ (∃ (a_1 : List AV), ([AV.lst 43 (toLst (fld
  (fld (nth (A45.bl a) (Int.toNat k)) 1) 1))], nilO) = ([AV.lst 43 a_1], nilO) ∧ side31a a_1 ∧ cnd (decide (List.length (List.take (List.length (varsL (tmsOf
  a_1))) (List.drop 0 (strs (varsL (tmsOf a_1))))) ≤ 9223372036854775807)) (brn (decide (placeS (toStr (fld (fld (nth (A45.bl a) (Int.toNat k)) 3) 1)) (List.take
  (List.length (varsL (tmsOf a_1))) (List.drop 0 (strs (varsL (tmsOf a_1))))) (0 : Int) ≥ (0 : Int))) (∃ (a_2 : A45 × Int), ([AV.agg [AV.agg [AV.str (A45.rel a),
  AV.lst 43 (A45.hl a)], AV.lst 46 (A45.bl a), AV.int (A45.line a)], AV.int k], nilO) = ([AV.agg [AV.agg [AV.str (A45.rel (Prod.fst a_2)), AV.lst 43 (A45.hl
  (Prod.fst a_2))], AV.lst 46 (A45.bl (Prod.fst a_2)), AV.int (A45.line (Prod.fst a_2))], AV.int (Prod.snd a_2)], nilO) ∧ (rightR (rOf (Prod.fst a_2)) = true ∧
  (cntL (tmsOf (ruleTs 43 (A45.hl (Prod.fst a_2)) (A45.bl (Prod.fst a_2)))) ≤ 100000 ∧ List.length (A45.bl (Prod.fst a_2)) ≤ 100000) ∧ (0 : Int) ≤ Prod.snd a_2 ∧
  Prod.snd a_2 < (↑(List.length (A45.bl (Prod.fst a_2))) : Int)) ∧ ∃ (a_3 : List AV × List (Value × AV)), ([AV.mp 0, AV.lst 9 (strs (outerV (rOf (Prod.fst a_2))
  (Int.toNat (Prod.snd a_2))))], [Dn.Obj.map 9 4 es]) = ([AV.mp 0, AV.lst 9 (Prod.fst a_3)], [Dn.Obj.map 9 4 (Prod.snd a_3)]) ∧ side23 a_3 ∧ brn (hasL (Prod.snd
  a_3) (Prod.fst a_3)) (∃ (a_4 : ByteArray × List AV), ([AV.agg [AV.str (toStr (fld (fld (nth (A45.bl a) (Int.toNat k)) 1) 0)), AV.lst 43 (toLst (fld (fld (nth
  (A45.bl a) (Int.toNat k)) 1) 1))]], nilO) = ([AV.agg [AV.str (Prod.fst a_4), AV.lst 43 (Prod.snd a_4)]], nilO) ∧ side62 a_4 ∧ ∃ (a : List AV × List (Value ×
  AV)), ([AV.mp 0, AV.lst 9 (List.take (List.length (reckL (tmsOf (Prod.snd a_4)))) (List.drop 0 (strs (reckL (tmsOf (Prod.snd a_4))))))], [Dn.Obj.map 9 4
  (Prod.snd a_3)]) = ([AV.mp 0, AV.lst 9 (Prod.fst a)], [Dn.Obj.map 9 4 (Prod.snd a)]) ∧ side23 a ∧ K (AV.bool (hasL (Prod.snd a) (Prod.fst a))) [Dn.Obj.map 9 4
  (Prod.snd a)]) (K (AV.bool false) [Dn.Obj.map 9 4 (Prod.snd a_3)])) (K (AV.bool false) [Dn.Obj.map 9 4 es]))) ∧ (∃ (a_1 : List AV), ([AV.lst 43 (toLst (fld
  (fld (nth (A45.bl a) (Int.toNat k)) 1) 1))], nilO) = ([AV.lst 43 a_1], nilO) ∧ side31a a_1 ∧ cnd (decide (List.length (List.take (List.length (varsL (tmsOf
  a_1))) (List.drop 0 (strs (varsL (tmsOf a_1))))) ≤ 9223372036854775807)) (brn (decide (placeS (toStr (fld (fld (nth (A45.bl a) (Int.toNat k)) 3) 1)) (List.take
  (List.length (varsL (tmsOf a_1))) (List.drop 0 (strs (varsL (tmsOf a_1))))) (0 : Int) ≥ (0 : Int))) (∃ (a_2 : A45 × Int), ([AV.agg [AV.agg [AV.str (A45.rel a),
  AV.lst 43 (A45.hl a)], AV.lst 46 (A45.bl a), AV.int (A45.line a)], AV.int k], nilO) = ([AV.agg [AV.agg [AV.str (A45.rel (Prod.fst a_2)), AV.lst 43 (A45.hl
  (Prod.fst a_2))], AV.lst 46 (A45.bl (Prod.fst a_2)), AV.int (A45.line (Prod.fst a_2))], AV.int (Prod.snd a_2)], nilO) ∧ (rightR (rOf (Prod.fst a_2)) = true ∧
  (cntL (tmsOf (ruleTs 43 (A45.hl (Prod.fst a_2)) (A45.bl (Prod.fst a_2)))) ≤ 100000 ∧ List.length (A45.bl (Prod.fst a_2)) ≤ 100000) ∧ (0 : Int) ≤ Prod.snd a_2 ∧
  Prod.snd a_2 < (↑(List.length (A45.bl (Prod.fst a_2))) : Int)) ∧ ∃ (a_3 : List AV × List (Value × AV)), ([AV.mp 0, AV.lst 9 (strs (outerV (rOf (Prod.fst a_2))
  (Int.toNat (Prod.snd a_2))))], [Dn.Obj.map 9 4 es]) = ([AV.mp 0, AV.lst 9 (Prod.fst a_3)], [Dn.Obj.map 9 4 (Prod.snd a_3)]) ∧ side23 a_3 ∧ brn (hasL (Prod.snd
  a_3) (Prod.fst a_3)) (∃ (a_4 : ByteArray × List AV), ([AV.agg [AV.str (toStr (fld (fld (nth (A45.bl a) (Int.toNat k)) 1) 0)), AV.lst 43 (toLst (fld (fld (nth
  (A45.bl a) (Int.toNat k)) 1) 1))]], nilO) = ([AV.agg [AV.str (Prod.fst a_4), AV.lst 43 (Prod.snd a_4)]], nilO) ∧ side62 a_4 ∧ ∃ (a : List AV × List (Value ×
  AV)), ([AV.mp 0, AV.lst 9 (List.take (List.length (reckL (tmsOf (Prod.snd a_4)))) (List.drop 0 (strs (reckL (tmsOf (Prod.snd a_4))))))], [Dn.Obj.map 9 4
  (Prod.snd a_3)]) = ([AV.mp 0, AV.lst 9 (Prod.fst a)], [Dn.Obj.map 9 4 (Prod.snd a)]) ∧ side23 a ∧ K (AV.bool (hasL (Prod.snd a) (Prod.fst a))) [Dn.Obj.map 9 4
  (Prod.snd a)]) (K (AV.bool false) [Dn.Obj.map 9 4 (Prod.snd a_3)])) (K (AV.bool false) [Dn.Obj.map 9 4 es]))) ∧ ∃ (a_1 : List AV), ([AV.lst 43 (toLst (fld (fld
  (nth (A45.bl a) (Int.toNat k)) 1) 1))], nilO) = ([AV.lst 43 a_1], nilO) ∧ side31a a_1 ∧ cnd (decide (List.length (List.take (List.length (varsL (tmsOf a_1)))
  (List.drop 0 (strs (varsL (tmsOf a_1))))) ≤ 9223372036854775807)) (brn (decide (placeS (toStr (fld (fld (nth (A45.bl a) (Int.toNat k)) 3) 1)) (List.take
  (List.length (varsL (tmsOf a_1))) (List.drop 0 (strs (varsL (tmsOf a_1))))) (0 : Int) ≥ (0 : Int))) (∃ (a_2 : A45 × Int), ([AV.agg [AV.agg [AV.str (A45.rel a),
  AV.lst 43 (A45.hl a)], AV.lst 46 (A45.bl a), AV.int (A45.line a)], AV.int k], nilO) = ([AV.agg [AV.agg [AV.str (A45.rel (Prod.fst a_2)), AV.lst 43 (A45.hl
  (Prod.fst a_2))], AV.lst 46 (A45.bl (Prod.fst a_2)), AV.int (A45.line (Prod.fst a_2))], AV.int (Prod.snd a_2)], nilO) ∧ (rightR (rOf (Prod.fst a_2)) = true ∧
  (cntL (tmsOf (ruleTs 43 (A45.hl (Prod.fst a_2)) (A45.bl (Prod.fst a_2)))) ≤ 100000 ∧ List.length (A45.bl (Prod.fst a_2)) ≤ 100000) ∧ (0 : Int) ≤ Prod.snd a_2 ∧
  Prod.snd a_2 < (↑(List.length (A45.bl (Prod.fst a_2))) : Int)) ∧ ∃ (a_3 : List AV × List (Value × AV)), ([AV.mp 0, AV.lst 9 (strs (outerV (rOf (Prod.fst a_2))
  (Int.toNat (Prod.snd a_2))))], [Dn.Obj.map 9 4 es]) = ([AV.mp 0, AV.lst 9 (Prod.fst a_3)], [Dn.Obj.map 9 4 (Prod.snd a_3)]) ∧ side23 a_3 ∧ brn (hasL (Prod.snd
  a_3) (Prod.fst a_3)) (∃ (a_4 : ByteArray × List AV), ([AV.agg [AV.str (toStr (fld (fld (nth (A45.bl a) (Int.toNat k)) 1) 0)), AV.lst 43 (toLst (fld (fld (nth
  (A45.bl a) (Int.toNat k)) 1) 1))]], nilO) = ([AV.agg [AV.str (Prod.fst a_4), AV.lst 43 (Prod.snd a_4)]], nilO) ∧ side62 a_4 ∧ ∃ (a : List AV × List (Value ×
  AV)), ([AV.mp 0, AV.lst 9 (List.take (List.length (reckL (tmsOf (Prod.snd a_4)))) (List.drop 0 (strs (reckL (tmsOf (Prod.snd a_4))))))], [Dn.Obj.map 9 4
  (Prod.snd a_3)]) = ([AV.mp 0, AV.lst 9 (Prod.fst a)], [Dn.Obj.map 9 4 (Prod.snd a)]) ∧ side23 a ∧ K (AV.bool (hasL (Prod.snd a) (Prod.fst a))) [Dn.Obj.map 9 4
  (Prod.snd a)]) (K (AV.bool false) [Dn.Obj.map 9 4 (Prod.snd a_3)])) (K (AV.bool false) [Dn.Obj.map 9 4 es]))))))))))) := by kernel_rfl
def st52 (a : A45 × Int × List ByteArray) : List AV × List Dn.Obj := ([.mp 0, rl45 a.1, .int a.2.1], [.map 9 4 (setE a.2.2)])
def side52 (a : A45 × Int × List ByteArray) : Prop := rightR (rOf a.1) = true ∧ side42 a.1 ∧ 0 ≤ a.2.1 ∧ a.2.1 < a.1.bl.length
def out52 (a : A45 × Int × List ByteArray) : Out (AV × List Dn.Obj) := .one (.bool (readyB a.2.2 (rOf a.1) a.2.1.toNat), [.map 9 4 (setE a.2.2)])
theorem taOf_x (x y : AV) (es : List (Value × AV)) : (TA.mk (toInt (fld x 0)) (toStr (fld x 1)) (toInt (fld x 2)) (toLst (fld x 3)) (toInt (fld y 0)) (toStr (fld y 1)) (toInt (fld y 2)) (toLst (fld y 3)) es).x = tmOf x := by rw [tmOf_eq]; rfl
theorem taOf_y (x y : AV) (es : List (Value × AV)) : (TA.mk (toInt (fld x 0)) (toStr (fld x 1)) (toInt (fld x 2)) (toLst (fld x 3)) (toInt (fld y 0)) (toStr (fld y 1)) (toInt (fld y 2)) (toLst (fld y 3)) es).y = tmOf y := by rw [tmOf_eq]; rfl
def taOf (x y : AV) (es : List (Value × AV)) : TA := TA.mk (toInt (fld x 0)) (toStr (fld x 1)) (toInt (fld x 2)) (toLst (fld x 3)) (toInt (fld y 0)) (toStr (fld y 1)) (toInt (fld y 2)) (toLst (fld y 3)) es
theorem c52 (κ : Kp) : CallOk (E24 κ) 12 79 (callE st52 side52 out52) := by
  refine callE_ok ?_
  rintro ⟨a, k, b⟩ K ⟨h1, h2, h3, h4⟩ ho
  refine Eq.mpr (y52 κ a k (setE b) K) ?_
  simp only at h1 h2 h3 h4
  have hk : k.toNat < a.bl.length := by omega
  have hlit := side_lit h2 hk
  have ho' : K (.bool (readyB b (rOf a) k.toNat)) [.map 9 4 (setE b)] := ho
  unfold readyB at ho'
  rw [show (rOf a).body = ltsOf a.bl from rfl, nthLt_lts _ hk, show (ltOf (nth a.bl k.toNat)).op = toInt (fld (nth a.bl k.toNat) 0) from rfl, show (ltOf (nth a.bl k.toNat)).a.l = tmsOf (toLst (fld (fld (nth a.bl k.toNat) 1) 1)) from rfl,
    show (ltOf (nth a.bl k.toNat)).x = tmOf (fld (nth a.bl k.toNat) 2) from rfl, show (ltOf (nth a.bl k.toNat)).y = tmOf (fld (nth a.bl k.toNat) 3) from rfl] at ho'
  have hlc : litC (ltOf (nth a.bl k.toNat)) = cntL [tmOf (fld (nth a.bl k.toNat) 2), tmOf (fld (nth a.bl k.toNat) 3)] + cntL (tmsOf (toLst (fld (fld (nth a.bl k.toNat) 1) 1))) := rfl
  have hcl : cntL (tmsOf (toLst (fld (fld (nth a.bl k.toNat) 1) 1))) ≤ 100000 := by omega
  have hcx : cntL [tmOf (fld (nth a.bl k.toNat) 2)] ≤ 100000 ∧ cntL [tmOf (fld (nth a.bl k.toNat) 3)] ≤ 100000 := by
    simp only [cntL] at hlc ⊢; omega
  have hvl := varsL_le (tmsOf (toLst (fld (fld (nth a.bl k.toNat) 1) 1)))
  have hrl := reckL_le (tmsOf (toLst (fld (fld (nth a.bl k.toNat) 1) 1)))
  have hol := outer_len h2 k.toNat
  have hll : (litV (ltOf (nth a.bl k.toNat))).length ≤ 100000 := by
    have e1 := varsL_le [(ltOf (nth a.bl k.toNat)).x, (ltOf (nth a.bl k.toNat)).y]
    have e2 := varsL_le (ltOf (nth a.bl k.toNat)).a.l
    simp only [litV, litC, List.length_append] at hlit ⊢; omega
  simp only [and_self]
  rw [cnd_iff, Bool.and_eq_true, decide_eq_true_eq, decide_eq_true_eq]
  refine ⟨⟨h3, h4⟩, ?_⟩
  rw [brn_iff, beq_iff_eq, beq_eq_false_iff_ne]
  refine ⟨fun e1 => ?_, fun e1 => ?_⟩
  · rw [decide_eq_true e1, cond_true] at ho'
    refine ⟨(toStr (fld (fld (nth a.bl k.toNat) 1) 0), toLst (fld (fld (nth a.bl k.toNat) 1) 1)), rfl, hcl, (strs (reckL (tmsOf (toLst (fld (fld (nth a.bl k.toNat) 1) 1)))), setE b), by simp only [List.drop_zero, take_strs], by simp only [side23, strs_len, maxI]; omega, ?_⟩
    simp only [hasL_set]; exact ho'
  rw [decide_eq_false e1, cond_false] at ho'
  rw [brn_iff, beq_iff_eq, beq_eq_false_iff_ne]
  refine ⟨fun e2 => ?_, fun e2 => ?_⟩
  · rw [decide_eq_true e2, cond_true] at ho'
    refine ⟨taOf (fld (nth a.bl k.toNat) 2) (fld (nth a.bl k.toNat) 3) (setE b), rfl, by unfold side20 taOf; rw [taOf_y]; exact hcx.2, ?_⟩
    unfold taOf
    rw [taOf_x, taOf_y, binds_set]
    rw [brn_iff]
    refine ⟨fun f1 => by rw [f1] at ho'; exact ho', fun f1 => ?_⟩
    rw [f1, Bool.false_or] at ho'
    refine ⟨taOf (fld (nth a.bl k.toNat) 3) (fld (nth a.bl k.toNat) 2) (setE b), rfl, by unfold side20 taOf; rw [taOf_y]; exact hcx.1, ?_⟩
    unfold taOf
    rw [taOf_x, taOf_y, binds_set, brn_iff]
    refine ⟨fun f2 => by rw [f2] at ho'; exact ho', fun f2 => ?_⟩
    rw [f2, Bool.false_or] at ho'
    exact ⟨laOf (nth a.bl k.toNat), rfl, by rw [side40, laOf_lt]; exact hlit, (strs (litV (laOf (nth a.bl k.toNat)).lt), setE b), by simp only [List.drop_zero, take_strs], by simp only [side23, strs_len, maxI]; rw [laOf_lt]; omega, by simp only [hasL_set, laOf_lt]; exact ho'⟩
  rw [decide_eq_false e2, cond_false] at ho'
  rw [brn_iff, beq_iff_eq, beq_eq_false_iff_ne]
  refine ⟨fun e3 => ?_, fun e3 => ?_⟩
  · rw [decide_eq_true e3] at ho'
    simp only [Bool.true_or, Bool.or_true, cond_true] at ho'
    exact ⟨laOf (nth a.bl k.toNat), rfl, by rw [side40, laOf_lt]; exact hlit, (strs (litV (laOf (nth a.bl k.toNat)).lt), setE b), by simp only [List.drop_zero, take_strs], by simp only [side23, strs_len, maxI]; rw [laOf_lt]; omega, by simp only [hasL_set, laOf_lt]; exact ho'⟩
  rw [brn_iff, beq_iff_eq, beq_eq_false_iff_ne]
  refine ⟨fun e4 => ?_, fun e4 => ?_⟩
  · rw [decide_eq_true e4] at ho'
    simp only [Bool.true_or, Bool.or_true, cond_true] at ho'
    exact ⟨laOf (nth a.bl k.toNat), rfl, by rw [side40, laOf_lt]; exact hlit, (strs (litV (laOf (nth a.bl k.toNat)).lt), setE b), by simp only [List.drop_zero, take_strs], by simp only [side23, strs_len, maxI]; rw [laOf_lt]; omega, by simp only [hasL_set, laOf_lt]; exact ho'⟩
  rw [brn_iff, beq_iff_eq, beq_eq_false_iff_ne]
  refine ⟨fun e5 => ?_, fun e5 => ?_⟩
  · rw [decide_eq_true e5] at ho'
    simp only [Bool.true_or, Bool.or_true, cond_true] at ho'
    exact ⟨laOf (nth a.bl k.toNat), rfl, by rw [side40, laOf_lt]; exact hlit, (strs (litV (laOf (nth a.bl k.toNat)).lt), setE b), by simp only [List.drop_zero, take_strs], by simp only [side23, strs_len, maxI]; rw [laOf_lt]; omega, by simp only [hasL_set, laOf_lt]; exact ho'⟩
  rw [brn_iff, beq_iff_eq, beq_eq_false_iff_ne]
  refine ⟨fun e6 => ?_, fun e6 => ?_⟩
  · rw [decide_eq_true e6] at ho'
    simp only [Bool.true_or, Bool.or_true, cond_true] at ho'
    exact ⟨laOf (nth a.bl k.toNat), rfl, by rw [side40, laOf_lt]; exact hlit, (strs (litV (laOf (nth a.bl k.toNat)).lt), setE b), by simp only [List.drop_zero, take_strs], by simp only [side23, strs_len, maxI]; rw [laOf_lt]; omega, by simp only [hasL_set, laOf_lt]; exact ho'⟩
  rw [decide_eq_false e3, decide_eq_false e4, decide_eq_false e5, decide_eq_false e6] at ho'
  simp only [Bool.false_or, cond_false] at ho'
  rw [brn_iff, beq_iff_eq, beq_eq_false_iff_ne]
  refine ⟨fun e7 => ?_, fun e7 => ?_⟩
  · rw [decide_eq_true e7, Bool.true_or, Bool.true_and] at ho'
    refine ⟨(a, k), rfl, ⟨h1, h2, h3, h4⟩, (strs (outerV (rOf a) k.toNat), setE b), rfl, by simp only [side23, strs_len, maxI]; omega, brn_iff.2 ⟨fun f1 => ⟨(toStr (fld (fld (nth a.bl k.toNat) 1) 0), toLst (fld (fld (nth a.bl k.toNat) 1) 1)), rfl, hcl, (strs (reckL (tmsOf (toLst (fld (fld (nth a.bl k.toNat) 1) 1)))), setE b), by simp only [List.drop_zero, take_strs], by simp only [side23, strs_len, maxI]; omega, ?_⟩, fun f1 => ?_⟩⟩
    · rw [hasL_set] at f1
      simp only [hasL_set]
      rw [f1, Bool.true_and] at ho'; exact ho'
    · rw [hasL_set] at f1
      rw [f1, Bool.false_and] at ho'; exact ho'
  · rw [decide_eq_false e7, Bool.false_or] at ho'
    refine ⟨_, rfl, hcl, ?_⟩
    have hp := placeS_ge (toStr (fld (fld (nth a.bl k.toNat) 3) 1)) (varsL (tmsOf (toLst (fld (fld (nth a.bl k.toNat) 1) 1)))) 0 (by omega)
    have hs : (tmOf (fld (nth a.bl k.toNat) 3)).s = toStr (fld (fld (nth a.bl k.toNat) 3) 1) := by rw [tmOf_eq]; rfl
    simp only [List.drop_zero, take_strs, strs_len, hp]
    rw [cnd_iff, decide_eq_true_eq, brn_iff]
    rw [hs] at ho'
    refine ⟨by omega, fun e8 => ?_, fun e8 => ?_⟩
    · rw [e8, Bool.true_and] at ho'
      refine ⟨(a, k), rfl, ⟨h1, h2, h3, h4⟩, (strs (outerV (rOf a) k.toNat), setE b), rfl, by simp only [side23, strs_len, maxI]; omega, brn_iff.2 ⟨fun f1 => ⟨(toStr (fld (fld (nth a.bl k.toNat) 1) 0), toLst (fld (fld (nth a.bl k.toNat) 1) 1)), rfl, hcl, (strs (reckL (tmsOf (toLst (fld (fld (nth a.bl k.toNat) 1) 1)))), setE b), by simp only [List.drop_zero, take_strs], by simp only [side23, strs_len, maxI]; omega, ?_⟩, fun f1 => ?_⟩⟩
      · rw [hasL_set] at f1
        simp only [hasL_set]
        rw [f1, Bool.true_and] at ho'; exact ho'
      · rw [hasL_set] at f1
        rw [f1, Bool.false_and] at ho'; exact ho'
    · rw [e8, Bool.false_and] at ho'; exact ho'
noncomputable def E52 (κ : Kp) : Env := (E24 κ).addCall 79 (callE st52 side52 out52)
theorem e52 (κ : Kp) : EnvOK (E52 κ) := (e24 κ).addCall (m24 κ) (c52 κ)
theorem m52 (κ : Kp) : EnvMono (E52 κ) := (m24 κ).addCall callE_mono
end Go.Proofs.YtpgahkbkfflkaaaGreatDoor
namespace Go.Proofs.YtpgahkbkfflkaaaGreatDoor
open Go Go.Dn Go.Rl Go.Proofs
attribute [local irreducible] funA vc
set_option maxRecDepth 20000
def bools (l : List Bool) : List AV := l.map fun b => .lit (.bool b)
theorem bools_len (l : List Bool) : (bools l).length = l.length := by simp [bools]
theorem bools_nth (l : List Bool) (k : Nat) : Dn.toBool (nth (bools l) k) = Rl.nthB l k := by
  unfold Rl.nthB
  rw [List.getD_eq_getElem?_getD]
  induction l generalizing k with
  | nil => rfl
  | cons a l ih =>
    cases k with
    | zero => rfl
    | succ k => simpa [bools, nth] using ih k
structure A36 where
  a : A45
  done : List Bool
  b : List ByteArray
  i : Int
  first : Int
abbrev st36l (a : A36) : S := sp 38 [(1, .slc 0 0 (bools a.done).length), (2, .mp 1), (3, .ptr 2 0 [] 0), (7, .int a.first), (11, .lst 46 a.a.bl), (12, .int a.a.bl.length), (13, .int a.i)] [.row 4 (bools a.done), .map 9 4 (setE a.b), .box 27 (rl45 a.a)]
theorem x36 (κ : Kp) (a : A36) (es : List (Value × AV)) (I : Nat → S → Prop) (n : Nat) (K : Exit → S → Prop) : (vc (E52 κ) 12 57 none 2 (loopCode (Pr κ).toProgram 57 3) (sp 38 [(1, .slc 0 0 (bools a.done).length), (2, .mp 1), (3, .ptr 2 0 [] 0), (7, .int a.first), (11, .lst 46 a.a.bl), (12, .int a.a.bl.length), (13, .int a.i)] [.row 4 (bools a.done), .map 9 4 es, .box 27 (rl45 a.a)]) (loopK (E52 κ) 57 3 2 I n K)) = (
  brn (decide (A36.i a < (↑(List.length (A45.bl (A36.a a))) : Int))) (cnd (decide ((0 : Int) ≤ A36.i a) && decide (A36.i a < (↑(List.length (A45.bl (A36.a a))) :
  Int))) (cnd (decide ((0 : Int) ≤ A36.i a) && decide (A36.i a < (↑(List.length (bools (A36.done a))) : Int))) (brn (Dn.toBool (nth (bools (A36.done a)) (0 +
  Int.toNat (A36.i a)))) (∃ (m : Nat), m < n ∧ I m (sp 38 [(1, AV.slc 0 0 (List.length (bools (A36.done a)))), (2, AV.mp 1), (3, AV.ptr 2 0 [] 0), (7, AV.int
  (A36.first a)), (11, AV.lst 46 (A45.bl (A36.a a))), (12, AV.int (↑(List.length (A45.bl (A36.a a))) : Int)), (13, AV.int (IntKind.wrap IntKind.i64 (A36.i a + (1
  : Int))))] [Obj.row 4 (bools (A36.done a)), Dn.Obj.map 9 4 es, Obj.box 27 (AV.agg [AV.agg [AV.str (A45.rel (A36.a a)), AV.lst 43 (A45.hl (A36.a a))], AV.lst 46
  (A45.bl (A36.a a)), AV.int (A45.line (A36.a a))])])) (∃ (a_1 : A45 × Int × List ByteArray), ([AV.mp 0, AV.agg [AV.agg [AV.str (A45.rel (A36.a a)), AV.lst 43
  (A45.hl (A36.a a))], AV.lst 46 (A45.bl (A36.a a)), AV.int (A45.line (A36.a a))], AV.int (A36.i a)], [Dn.Obj.map 9 4 es]) = ([AV.mp 0, AV.agg [AV.agg [AV.str
  (A45.rel (Prod.fst a_1)), AV.lst 43 (A45.hl (Prod.fst a_1))], AV.lst 46 (A45.bl (Prod.fst a_1)), AV.int (A45.line (Prod.fst a_1))], AV.int (Prod.fst (Prod.snd
  a_1))], [Dn.Obj.map 9 4 (setE (Prod.snd (Prod.snd a_1)))]) ∧ (rightR (rOf (Prod.fst a_1)) = true ∧ (cntL (tmsOf (ruleTs 43 (A45.hl (Prod.fst a_1)) (A45.bl
  (Prod.fst a_1)))) ≤ 100000 ∧ List.length (A45.bl (Prod.fst a_1)) ≤ 100000) ∧ (0 : Int) ≤ Prod.fst (Prod.snd a_1) ∧ Prod.fst (Prod.snd a_1) < (↑(List.length
  (A45.bl (Prod.fst a_1))) : Int)) ∧ brn (!readyB (Prod.snd (Prod.snd a_1)) (rOf (Prod.fst a_1)) (Int.toNat (Prod.fst (Prod.snd a_1)))) (∃ (m : Nat), m < n ∧ I m
  (sp 38 [(1, AV.slc 0 0 (List.length (bools (A36.done a)))), (2, AV.mp 1), (3, AV.ptr 2 0 [] 0), (7, AV.int (A36.first a)), (11, AV.lst 46 (A45.bl (A36.a a))),
  (12, AV.int (↑(List.length (A45.bl (A36.a a))) : Int)), (13, AV.int (IntKind.wrap IntKind.i64 (A36.i a + (1 : Int))))] [Obj.row 4 (bools (A36.done a)),
  Dn.Obj.map 9 4 (setE (Prod.snd (Prod.snd a_1))), Obj.box 27 (AV.agg [AV.agg [AV.str (A45.rel (A36.a a)), AV.lst 43 (A45.hl (A36.a a))], AV.lst 46 (A45.bl
  (A36.a a)), AV.int (A45.line (A36.a a))])])) (brn (toInt (fld (nth (A45.bl (A36.a a)) (Int.toNat (A36.i a))) 0) != (1 : Int)) (K Exit.ret (sp 38 [(6, AV.int
  (A36.i a))] [Obj.row 4 (bools (A36.done a)), Dn.Obj.map 9 4 (setE (Prod.snd (Prod.snd a_1)))])) (brn (decide (A36.first a < (0 : Int))) (∃ (m : Nat), m < n ∧ I
  m (sp 38 [(1, AV.slc 0 0 (List.length (bools (A36.done a)))), (2, AV.mp 1), (3, AV.ptr 2 0 [] 0), (7, AV.int (A36.i a)), (11, AV.lst 46 (A45.bl (A36.a a))),
  (12, AV.int (↑(List.length (A45.bl (A36.a a))) : Int)), (13, AV.int (IntKind.wrap IntKind.i64 (A36.i a + (1 : Int))))] [Obj.row 4 (bools (A36.done a)),
  Dn.Obj.map 9 4 (setE (Prod.snd (Prod.snd a_1))), Obj.box 27 (AV.agg [AV.agg [AV.str (A45.rel (A36.a a)), AV.lst 43 (A45.hl (A36.a a))], AV.lst 46 (A45.bl
  (A36.a a)), AV.int (A45.line (A36.a a))])])) (∃ (m : Nat), m < n ∧ I m (sp 38 [(1, AV.slc 0 0 (List.length (bools (A36.done a)))), (2, AV.mp 1), (3, AV.ptr 2 0
  [] 0), (7, AV.int (A36.first a)), (11, AV.lst 46 (A45.bl (A36.a a))), (12, AV.int (↑(List.length (A45.bl (A36.a a))) : Int)), (13, AV.int (IntKind.wrap
  IntKind.i64 (A36.i a + (1 : Int))))] [Obj.row 4 (bools (A36.done a)), Dn.Obj.map 9 4 (setE (Prod.snd (Prod.snd a_1))), Obj.box 27 (AV.agg [AV.agg [AV.str
  (A45.rel (A36.a a)), AV.lst 43 (A45.hl (A36.a a))], AV.lst 46 (A45.bl (A36.a a)), AV.int (A45.line (A36.a a))])])))))))) (K (Exit.exit 0) (sp 38 [(7, AV.int
  (A36.first a))] [Obj.row 4 (bools (A36.done a)), Dn.Obj.map 9 4 es]))) := by kernel_rfl
def side36l (a : A36) : Prop := rightR (rOf a.a) = true ∧ side42 a.a ∧ 0 ≤ a.i ∧ a.i ≤ a.a.bl.length ∧ a.done.length = a.a.bl.length
def res36 (a : A36) : Int := nextF (rOf a.a) a.done a.b (a.a.bl.length - a.i.toNat) a.i.toNat a.first
def out36l (a : A36) : Out (Exit × S) := .all (fun _ : Bool => True) fun e => .brn e (.one (.ret, sp 38 [(6, .int (res36 a))] [.row 4 (bools a.done), .map 9 4 (setE a.b)])) (.one (.exit 0, sp 38 [(7, .int (res36 a))] [.row 4 (bools a.done), .map 9 4 (setE a.b)]))
theorem l36 (κ : Kp) : LoopOk (E52 κ) 12 57 3 (loopE 2 st36l side36l out36l) := by
  refine loopE_ok (fun a => a.a.bl.length - a.i.toNat) ?_
  rintro ⟨a, done, b, i, first⟩ K ⟨h1, h2, h3, h4, h5⟩ ho
  simp only at h1 h2 h3 h4 h5
  rw [show (E52 κ).P = Pr κ from rfl]
  refine Eq.mpr (x36 κ ⟨a, done, b, i, first⟩ (setE b) _ _ K) ?_
  have ho1 := ho true trivial
  have ho2 := ho false trivial
  simp only [Out.run, brn, res36] at ho1 ho2
  simp only [Nat.zero_add, bools_nth]
  have hbl := bools_len done
  have hl := h2.2
  rw [brn_iff, cnd_iff, cnd_iff, Bool.and_eq_true, Bool.and_eq_true, decide_eq_true_eq, decide_eq_true_eq, decide_eq_true_eq, decide_eq_false_iff_not]
  have go : i < a.bl.length → ∀ f : Int, nextF (rOf a) done b (a.bl.length - i.toNat) i.toNat first = nextF (rOf a) done b (a.bl.length - (i.toNat + 1)) (i.toNat + 1) f →
      ∃ m, m < a.bl.length - i.toNat ∧ invOf st36l side36l out36l (fun a => a.a.bl.length - a.i.toNat) K m (st36l ⟨a, done, b, i + 1, f⟩) := by
    intro hi f hf
    refine ⟨_, ?_, ⟨a, done, b, i + 1, f⟩, rfl, ⟨h1, h2, by simp only; omega, by simp only; omega, h5⟩, rfl, ?_⟩
    · simp only; omega
    · intro e _
      simp only [Out.run, res36, show (i + 1).toNat = i.toNat + 1 by omega, ← hf]
      cases e
      · exact ho2
      · exact ho1
  refine ⟨fun hi => ⟨⟨h3, hi⟩, ⟨h3, by omega⟩, ?_⟩, fun hi => ?_⟩
  · have hn := nextF_succ (rOf a) done b (a.bl.length - (i.toNat + 1)) i.toNat first
    rw [show a.bl.length - (i.toNat + 1) + 1 = a.bl.length - i.toNat by omega] at hn
    have hk : i.toNat < a.bl.length := by omega
    have hop : (nthLt (rOf a).body i.toNat).op = toInt (fld (nth a.bl i.toNat) 0) := by
      rw [show (rOf a).body = ltsOf a.bl from rfl, nthLt_lts _ hk]; rfl
    rw [hop] at hn
    rw [wrap_ok (n := i + 1) (by omega) (by omega), brn_iff]
    refine ⟨fun e => go hi first (by rw [hn, e]; rfl), fun e => ⟨(a, i, b), rfl, ⟨h1, h2, h3, hi⟩, ?_⟩⟩
    rw [e, Bool.false_or] at hn
    simp only [brn_iff, Bool.not_eq_true', Bool.not_eq_false', bne_iff_ne, bne_eq_false_iff_eq, decide_eq_true_eq, decide_eq_false_iff_not]
    refine ⟨fun e1 => go hi first (by rw [hn, e1]; rfl), fun e1 => ⟨fun e2 => ?_, fun e2 => ⟨fun e3 => go hi i ?_, fun e3 => go hi first ?_⟩⟩⟩
    · rw [hn, e1, decide_eq_false e2] at ho1
      simp only [Bool.not_true, cond_false, Bool.not_false, cond_true, Int.toNat_of_nonneg h3] at ho1
      exact ho1
    · rw [hn, e1, decide_eq_true e2, decide_eq_true e3]
      simp only [Bool.not_true, cond_false, cond_true, Int.toNat_of_nonneg h3]
    · rw [hn, e1, decide_eq_true e2, decide_eq_false e3]
      simp only [Bool.not_true, cond_false]
  · rw [show a.bl.length - i.toNat = 0 by omega] at ho2
    exact ho2
noncomputable def E36l (κ : Kp) : Env := (E52 κ).addLoop 57 3 (loopE 2 st36l side36l out36l)
theorem e36l (κ : Kp) : EnvOK (E36l κ) := (e52 κ).addLoop (m52 κ) (l36 κ)
theorem m36l (κ : Kp) : EnvMono (E36l κ) := (m52 κ).addLoop loopE_mono
theorem y36 (κ : Kp) (a : A36) (K : AV → List Dn.Obj → Prop) : (funA (E36l κ) 12 57 [rl45 a.a, .slc 0 0 (bools a.done).length, .mp 1] [.row 4 (bools a.done), .map 9 4 (setE a.b)] K) = (
  loopCode (Pg.toProgram (Env.P (E52 κ))) 57 3 = loopCode (Pg.toProgram (Env.P (E52 κ))) 57 3 ∧ ∃ (a_1 : A36), sp 38 [(1, AV.slc 0 0 (List.length (bools (A36.done
  a)))), (2, AV.mp 1), (3, AV.ptr 2 0 [] 0), (7, AV.int (-1)), (11, AV.lst 46 (A45.bl (A36.a a))), (12, AV.int (↑(List.length (A45.bl (A36.a a))) : Int)), (13,
  AV.int 0)] [Obj.row 4 (bools (A36.done a)), Dn.Obj.map 9 4 (setE (A36.b a)), Obj.box 27 (AV.agg [AV.agg [AV.str (A45.rel (A36.a a)), AV.lst 43 (A45.hl (A36.a
  a))], AV.lst 46 (A45.bl (A36.a a)), AV.int (A45.line (A36.a a))])] = sp 38 [(1, AV.slc 0 0 (List.length (bools (A36.done a_1)))), (2, AV.mp 1), (3, AV.ptr 2 0
  [] 0), (7, AV.int (A36.first a_1)), (11, AV.lst 46 (A45.bl (A36.a a_1))), (12, AV.int (↑(List.length (A45.bl (A36.a a_1))) : Int)), (13, AV.int (A36.i a_1))]
  [Obj.row 4 (bools (A36.done a_1)), Dn.Obj.map 9 4 (setE (A36.b a_1)), Obj.box 27 (AV.agg [AV.agg [AV.str (A45.rel (A36.a a_1)), AV.lst 43 (A45.hl (A36.a
  a_1))], AV.lst 46 (A45.bl (A36.a a_1)), AV.int (A45.line (A36.a a_1))])] ∧ (rightR (rOf (A36.a a_1)) = true ∧ (cntL (tmsOf (ruleTs 43 (A45.hl (A36.a a_1))
  (A45.bl (A36.a a_1)))) ≤ 100000 ∧ List.length (A45.bl (A36.a a_1)) ≤ 100000) ∧ (0 : Int) ≤ A36.i a_1 ∧ A36.i a_1 ≤ (↑(List.length (A45.bl (A36.a a_1))) : Int)
  ∧ List.length (A36.done a_1) = List.length (A45.bl (A36.a a_1))) ∧ ∀ (y : Bool), True → brn y (K (AV.int (res36 a_1)) [Obj.row 4 (bools (A36.done a_1)),
  Dn.Obj.map 9 4 (setE (A36.b a_1))]) (K (AV.int (res36 a_1)) [Obj.row 4 (bools (A36.done a_1)), Dn.Obj.map 9 4 (setE (A36.b a_1))])) := by kernel_rfl
def st36 (a : A36) : List AV × List Dn.Obj := ([rl45 a.a, .slc 0 0 (bools a.done).length, .mp 1], [.row 4 (bools a.done), .map 9 4 (setE a.b)])
def side36 (a : A36) : Prop := rightR (rOf a.a) = true ∧ side42 a.a ∧ a.done.length = a.a.bl.length
def out36 (a : A36) : Out (AV × List Dn.Obj) := .one (.int (nextI (rOf a.a) a.done a.b), [.row 4 (bools a.done), .map 9 4 (setE a.b)])
theorem body_len (a : A45) : (rOf a).body.length = a.bl.length := lts_len a.bl
theorem c36 (κ : Kp) : CallOk (E36l κ) 12 57 (callE st36 side36 out36) := by
  refine callE_ok ?_
  rintro ⟨a, done, b, i, first⟩ K ⟨h1, h2, h5⟩ ho
  refine Eq.mpr (y36 κ ⟨a, done, b, i, first⟩ K) ?_
  simp only at h1 h2 h5
  have ho' : K (.int (nextI (rOf a) done b)) [.row 4 (bools done), .map 9 4 (setE b)] := ho
  unfold nextI at ho'
  rw [body_len] at ho'
  refine ⟨rfl, ⟨a, done, b, 0, -1⟩, rfl, ⟨h1, h2, by simp only; omega, by simp only; omega, h5⟩, ?_⟩
  intro e _
  cases e
  · exact ho'
  · exact ho'
noncomputable def E36 (κ : Kp) : Env := (E36l κ).addCall 57 (callE st36 side36 out36)
theorem e36 (κ : Kp) : EnvOK (E36 κ) := (e36l κ).addCall (m36l κ) (c36 κ)
theorem m36 (κ : Kp) : EnvMono (E36 κ) := (m36l κ).addCall callE_mono
end Go.Proofs.YtpgahkbkfflkaaaGreatDoor
namespace Go.Proofs.YtpgahkbkfflkaaaGreatDoor
open Go Go.Dn Go.Rl Go.Proofs
attribute [local irreducible] funA vc
set_option maxRecDepth 20000
def ints (l : List Nat) : List AV := l.map fun (k : Nat) => AV.lit (.int .i64 (k : Int))
theorem ints_len (l : List Nat) : (ints l).length = l.length := by simp [ints]
theorem ints_app (l m : List Nat) : ints (l ++ m) = ints l ++ ints m := by simp [ints]
structure A35 where
  a : A45
  ks : List Nat
  done : List Bool
  b : List ByteArray
  i : Int
noncomputable abbrev lp17 (a : A45) (κ : Kp) : Dn.Obj :=
  .loop (lpA (Pr κ).toProgram 21 4 .ready none (spR (junks 40) [(0, rl45 a), (1, .ptr 0 0 [] 0), (2, .nil), (3, .lit .nilIface), (4, .ptr 1 0 [] 0), (5, .ptr 3 0 [] 0), (7, .mp 2), (8, rl45 a), (9, .clo 56 [.ptr 4 0 [] 0])]))
noncomputable abbrev str17 (κ : Kp) (a : A45) (ks : List Nat) (b : List ByteArray) : List Dn.Obj := [.box 27 (rl45 a), .box 30 (.slc 6 0 (ints ks).length), .map 9 4 (setE b), .box 65 (.mp 2), .box 27 (rl45 a), lp17 a κ, .row 3 (ints ks)]
noncomputable abbrev st17l (κ : Kp) (a : A35) : S := sp 38 [(0, .yld 5), (1, .ptr 4 0 [] 0), (3, .mp 7), (4, .slc 8 0 (bools a.done).length), (13, .int a.a.bl.length), (14, .int a.i)] (str17 κ a.a a.ks a.b ++ [.map 9 4 (setE a.b), .row 4 (bools a.done)])
theorem x17 (κ : Kp) (a : A45) (ks : List AV) (es es' : List (Value × AV)) (done : List AV) (i : Int) (I : Nat → S → Prop) (n : Nat) (K : Exit → S → Prop) : (vc (E36 κ) 12 56 none 6 (loopCode (Pr κ).toProgram 56 3) (sp 38 [(0, .yld 5), (1, .ptr 4 0 [] 0), (3, .mp 7), (4, .slc 8 0 done.length), (13, .int a.bl.length), (14, .int i)] [.box 27 (rl45 a), .box 30 (.slc 6 0 ks.length), .map 9 4 es, .box 65 (.mp 2), .box 27 (rl45 a), lp17 a κ, .row 3 ks, .map 9 4 es', .row 4 done]) (loopK (E36 κ) 56 3 6 I n K)) = (
  brn (decide (i < (↑(List.length (A45.bl a)) : Int))) (∃ (a_1 : A36), ([AV.agg [AV.agg [AV.str (A45.rel a), AV.lst 43 (A45.hl a)], AV.lst 46 (A45.bl a), AV.int
  (A45.line a)], AV.slc 0 0 (List.length done), AV.mp 1], [Obj.row 4 done, Dn.Obj.map 9 4 es']) = ([AV.agg [AV.agg [AV.str (A45.rel (A36.a a_1)), AV.lst 43
  (A45.hl (A36.a a_1))], AV.lst 46 (A45.bl (A36.a a_1)), AV.int (A45.line (A36.a a_1))], AV.slc 0 0 (List.length (bools (A36.done a_1))), AV.mp 1], [Obj.row 4
  (bools (A36.done a_1)), Dn.Obj.map 9 4 (setE (A36.b a_1))]) ∧ (rightR (rOf (A36.a a_1)) = true ∧ (cntL (tmsOf (ruleTs 43 (A45.hl (A36.a a_1)) (A45.bl (A36.a
  a_1)))) ≤ 100000 ∧ List.length (A45.bl (A36.a a_1)) ≤ 100000) ∧ List.length (A36.done a_1) = List.length (A45.bl (A36.a a_1))) ∧ brn (decide (nextI (rOf (A36.a
  a_1)) (A36.done a_1) (A36.b a_1) < (0 : Int))) (K Exit.ret (sp 38 [] [Obj.box 27 (AV.agg [AV.agg [AV.str (A45.rel a), AV.lst 43 (A45.hl a)], AV.lst 46 (A45.bl
  a), AV.int (A45.line a)]), Obj.box 30 (AV.slc 6 0 (List.length ks)), Dn.Obj.map 9 4 es, Obj.box 65 (AV.mp 2), Obj.box 27 (AV.agg [AV.agg [AV.str (A45.rel a),
  AV.lst 43 (A45.hl a)], AV.lst 46 (A45.bl a), AV.int (A45.line a)]), Dn.Obj.loop (lpA Tryz.prog 21 4 LoopState.ready none (spR (junks 40) [(0, AV.agg [AV.agg
  [AV.str (A45.rel a), AV.lst 43 (A45.hl a)], AV.lst 46 (A45.bl a), AV.int (A45.line a)]), (1, AV.ptr 0 0 [] 0), (2, AV.nil), (3, AV.lit Value.nilIface), (4,
  AV.ptr 1 0 [] 0), (5, AV.ptr 3 0 [] 0), (7, AV.mp 2), (8, AV.agg [AV.agg [AV.str (A45.rel a), AV.lst 43 (A45.hl a)], AV.lst 46 (A45.bl a), AV.int (A45.line
  a)]), (9, AV.clo 56 [AV.ptr 4 0 [] 0])])), Obj.row 3 ks])) (cnd (decide ((List.length ks + 1 + 1) * 9 ≤ 70368744177664)) ((∃ (a_2 : A45 × Int), ([AV.agg
  [AV.agg [AV.str (A45.rel a), AV.lst 43 (A45.hl a)], AV.lst 46 (A45.bl a), AV.int (A45.line a)], AV.int (nextI (rOf (A36.a a_1)) (A36.done a_1) (A36.b a_1))],
  nilO) = ([AV.agg [AV.agg [AV.str (A45.rel (Prod.fst a_2)), AV.lst 43 (A45.hl (Prod.fst a_2))], AV.lst 46 (A45.bl (Prod.fst a_2)), AV.int (A45.line (Prod.fst
  a_2))], AV.int (Prod.snd a_2)], nilO) ∧ (rightR (rOf (Prod.fst a_2)) = true ∧ (cntL (tmsOf (ruleTs 43 (A45.hl (Prod.fst a_2)) (A45.bl (Prod.fst a_2)))) ≤
  100000 ∧ List.length (A45.bl (Prod.fst a_2)) ≤ 100000) ∧ (0 : Int) ≤ Prod.snd a_2 ∧ Prod.snd a_2 < (↑(List.length (A45.bl (Prod.fst a_2))) : Int)) ∧ ∃ (a_3 :
  List AV × List (Value × AV)), ([AV.mp 0, AV.lst 9 (strs (gainsV (rOf (Prod.fst a_2)) (Int.toNat (Prod.snd a_2))))], [Dn.Obj.map 9 4 es]) = ([AV.mp 0, AV.lst 9
  (Prod.fst a_3)], [Dn.Obj.map 9 4 (Prod.snd a_3)]) ∧ side23 a_3 ∧ cnd (decide ((0 : Int) ≤ nextI (rOf (A36.a a_1)) (A36.done a_1) (A36.b a_1)) && decide (nextI
  (rOf (A36.a a_1)) (A36.done a_1) (A36.b a_1) < (↑(List.length done) : Int))) (∃ (a_4 : A45 × Int), ([AV.agg [AV.agg [AV.str (A45.rel a), AV.lst 43 (A45.hl a)],
  AV.lst 46 (A45.bl a), AV.int (A45.line a)], AV.int (nextI (rOf (A36.a a_1)) (A36.done a_1) (A36.b a_1))], nilO) = ([AV.agg [AV.agg [AV.str (A45.rel (Prod.fst
  a_4)), AV.lst 43 (A45.hl (Prod.fst a_4))], AV.lst 46 (A45.bl (Prod.fst a_4)), AV.int (A45.line (Prod.fst a_4))], AV.int (Prod.snd a_4)], nilO) ∧ (rightR (rOf
  (Prod.fst a_4)) = true ∧ (cntL (tmsOf (ruleTs 43 (A45.hl (Prod.fst a_4)) (A45.bl (Prod.fst a_4)))) ≤ 100000 ∧ List.length (A45.bl (Prod.fst a_4)) ≤ 100000) ∧
  (0 : Int) ≤ Prod.snd a_4 ∧ Prod.snd a_4 < (↑(List.length (A45.bl (Prod.fst a_4))) : Int)) ∧ ∃ (a_5 : List AV × List (Value × AV)), ([AV.mp 0, AV.lst 9 (strs
  (gainsV (rOf (Prod.fst a_4)) (Int.toNat (Prod.snd a_4))))], [Dn.Obj.map 9 4 (setE (A36.b a_1))]) = ([AV.mp 0, AV.lst 9 (Prod.fst a_5)], [Dn.Obj.map 9 4
  (Prod.snd a_5)]) ∧ side23 a_5 ∧ ∃ (m : Nat), m < n ∧ I m (sp 38 [(0, AV.yld 5), (1, AV.ptr 4 0 [] 0), (3, AV.mp 7), (4, AV.slc 8 0 (List.length done)), (13,
  AV.int (↑(List.length (A45.bl a)) : Int)), (14, AV.int (IntKind.wrap IntKind.i64 (i + (1 : Int))))] [Obj.box 27 (AV.agg [AV.agg [AV.str (A45.rel a), AV.lst 43
  (A45.hl a)], AV.lst 46 (A45.bl a), AV.int (A45.line a)]), Obj.box 30 (AV.slc 6 0 (List.length ks + 1)), Dn.Obj.map 9 4 (putL (Prod.snd a_3) (Prod.fst a_3)),
  Obj.box 65 (AV.mp 2), Obj.box 27 (AV.agg [AV.agg [AV.str (A45.rel a), AV.lst 43 (A45.hl a)], AV.lst 46 (A45.bl a), AV.int (A45.line a)]), Dn.Obj.loop (lpA
  Tryz.prog 21 4 LoopState.ready none (spR (junks 40) [(0, AV.agg [AV.agg [AV.str (A45.rel a), AV.lst 43 (A45.hl a)], AV.lst 46 (A45.bl a), AV.int (A45.line
  a)]), (1, AV.ptr 0 0 [] 0), (2, AV.nil), (3, AV.lit Value.nilIface), (4, AV.ptr 1 0 [] 0), (5, AV.ptr 3 0 [] 0), (7, AV.mp 2), (8, AV.agg [AV.agg [AV.str
  (A45.rel a), AV.lst 43 (A45.hl a)], AV.lst 46 (A45.bl a), AV.int (A45.line a)]), (9, AV.clo 56 [AV.ptr 4 0 [] 0])])), Obj.row 3 (List.take (List.length ks) ks
  ++ [AV.int (nextI (rOf (A36.a a_1)) (A36.done a_1) (A36.b a_1))]), Dn.Obj.map 9 4 (putL (Prod.snd a_5) (Prod.fst a_5)), Obj.row 4 (setN (bools (A36.done a_1))
  (0 + Int.toNat (nextI (rOf (A36.a a_1)) (A36.done a_1) (A36.b a_1))) (AV.bool true))]))) ∧ ∃ (a_2 : A45 × Int), ([AV.agg [AV.agg [AV.str (A45.rel a), AV.lst 43
  (A45.hl a)], AV.lst 46 (A45.bl a), AV.int (A45.line a)], AV.int (nextI (rOf (A36.a a_1)) (A36.done a_1) (A36.b a_1))], nilO) = ([AV.agg [AV.agg [AV.str
  (A45.rel (Prod.fst a_2)), AV.lst 43 (A45.hl (Prod.fst a_2))], AV.lst 46 (A45.bl (Prod.fst a_2)), AV.int (A45.line (Prod.fst a_2))], AV.int (Prod.snd a_2)],
  nilO) ∧ (rightR (rOf (Prod.fst a_2)) = true ∧ (cntL (tmsOf (ruleTs 43 (A45.hl (Prod.fst a_2)) (A45.bl (Prod.fst a_2)))) ≤ 100000 ∧ List.length (A45.bl
  (Prod.fst a_2)) ≤ 100000) ∧ (0 : Int) ≤ Prod.snd a_2 ∧ Prod.snd a_2 < (↑(List.length (A45.bl (Prod.fst a_2))) : Int)) ∧ ∃ (a_3 : List AV × List (Value × AV)),
  ([AV.mp 0, AV.lst 9 (strs (gainsV (rOf (Prod.fst a_2)) (Int.toNat (Prod.snd a_2))))], [Dn.Obj.map 9 4 es]) = ([AV.mp 0, AV.lst 9 (Prod.fst a_3)], [Dn.Obj.map 9
  4 (Prod.snd a_3)]) ∧ side23 a_3 ∧ cnd (decide ((0 : Int) ≤ nextI (rOf (A36.a a_1)) (A36.done a_1) (A36.b a_1)) && decide (nextI (rOf (A36.a a_1)) (A36.done
  a_1) (A36.b a_1) < (↑(List.length done) : Int))) (∃ (a_4 : A45 × Int), ([AV.agg [AV.agg [AV.str (A45.rel a), AV.lst 43 (A45.hl a)], AV.lst 46 (A45.bl a),
  AV.int (A45.line a)], AV.int (nextI (rOf (A36.a a_1)) (A36.done a_1) (A36.b a_1))], nilO) = ([AV.agg [AV.agg [AV.str (A45.rel (Prod.fst a_4)), AV.lst 43
  (A45.hl (Prod.fst a_4))], AV.lst 46 (A45.bl (Prod.fst a_4)), AV.int (A45.line (Prod.fst a_4))], AV.int (Prod.snd a_4)], nilO) ∧ (rightR (rOf (Prod.fst a_4)) =
  true ∧ (cntL (tmsOf (ruleTs 43 (A45.hl (Prod.fst a_4)) (A45.bl (Prod.fst a_4)))) ≤ 100000 ∧ List.length (A45.bl (Prod.fst a_4)) ≤ 100000) ∧ (0 : Int) ≤
  Prod.snd a_4 ∧ Prod.snd a_4 < (↑(List.length (A45.bl (Prod.fst a_4))) : Int)) ∧ ∃ (a_5 : List AV × List (Value × AV)), ([AV.mp 0, AV.lst 9 (strs (gainsV (rOf
  (Prod.fst a_4)) (Int.toNat (Prod.snd a_4))))], [Dn.Obj.map 9 4 (setE (A36.b a_1))]) = ([AV.mp 0, AV.lst 9 (Prod.fst a_5)], [Dn.Obj.map 9 4 (Prod.snd a_5)]) ∧
  side23 a_5 ∧ ∃ (m : Nat), m < n ∧ I m (sp 38 [(0, AV.yld 5), (1, AV.ptr 4 0 [] 0), (3, AV.mp 7), (4, AV.slc 8 0 (List.length done)), (13, AV.int (↑(List.length
  (A45.bl a)) : Int)), (14, AV.int (IntKind.wrap IntKind.i64 (i + (1 : Int))))] [Obj.box 27 (AV.agg [AV.agg [AV.str (A45.rel a), AV.lst 43 (A45.hl a)], AV.lst 46
  (A45.bl a), AV.int (A45.line a)]), Obj.box 30 (AV.slc 6 0 (List.length ks + 1)), Dn.Obj.map 9 4 (putL (Prod.snd a_3) (Prod.fst a_3)), Obj.box 65 (AV.mp 2),
  Obj.box 27 (AV.agg [AV.agg [AV.str (A45.rel a), AV.lst 43 (A45.hl a)], AV.lst 46 (A45.bl a), AV.int (A45.line a)]), Dn.Obj.loop (lpA Tryz.prog 21 4
  LoopState.ready none (spR (junks 40) [(0, AV.agg [AV.agg [AV.str (A45.rel a), AV.lst 43 (A45.hl a)], AV.lst 46 (A45.bl a), AV.int (A45.line a)]), (1, AV.ptr 0
  0 [] 0), (2, AV.nil), (3, AV.lit Value.nilIface), (4, AV.ptr 1 0 [] 0), (5, AV.ptr 3 0 [] 0), (7, AV.mp 2), (8, AV.agg [AV.agg [AV.str (A45.rel a), AV.lst 43
  (A45.hl a)], AV.lst 46 (A45.bl a), AV.int (A45.line a)]), (9, AV.clo 56 [AV.ptr 4 0 [] 0])])), Obj.row 3 (List.take (List.length ks) ks ++ [AV.int (nextI (rOf
  (A36.a a_1)) (A36.done a_1) (A36.b a_1))]), Dn.Obj.map 9 4 (putL (Prod.snd a_5) (Prod.fst a_5)), Obj.row 4 (setN (bools (A36.done a_1)) (0 + Int.toNat (nextI
  (rOf (A36.a a_1)) (A36.done a_1) (A36.b a_1))) (AV.bool true))]))))) (K (Exit.exit 0) (sp 38 [] [Obj.box 27 (AV.agg [AV.agg [AV.str (A45.rel a), AV.lst 43
  (A45.hl a)], AV.lst 46 (A45.bl a), AV.int (A45.line a)]), Obj.box 30 (AV.slc 6 0 (List.length ks)), Dn.Obj.map 9 4 es, Obj.box 65 (AV.mp 2), Obj.box 27 (AV.agg
  [AV.agg [AV.str (A45.rel a), AV.lst 43 (A45.hl a)], AV.lst 46 (A45.bl a), AV.int (A45.line a)]), Dn.Obj.loop (lpA Tryz.prog 21 4 LoopState.ready none (spR
  (junks 40) [(0, AV.agg [AV.agg [AV.str (A45.rel a), AV.lst 43 (A45.hl a)], AV.lst 46 (A45.bl a), AV.int (A45.line a)]), (1, AV.ptr 0 0 [] 0), (2, AV.nil), (3,
  AV.lit Value.nilIface), (4, AV.ptr 1 0 [] 0), (5, AV.ptr 3 0 [] 0), (7, AV.mp 2), (8, AV.agg [AV.agg [AV.str (A45.rel a), AV.lst 43 (A45.hl a)], AV.lst 46
  (A45.bl a), AV.int (A45.line a)]), (9, AV.clo 56 [AV.ptr 4 0 [] 0])])), Obj.row 3 ks]))) := by kernel_rfl
theorem setN_bools : ∀ (l : List Bool) (k : Nat), setN (bools l) k (.lit (.bool true)) = bools (l.set k true)
  | [], _ => rfl
  | _ :: _, 0 => rfl
  | a :: l, k + 1 => by
    have := setN_bools l k
    simp only [bools] at this
    simp only [bools, List.map_cons, setN, List.set_cons_succ, this]
noncomputable def walk17 (a : A35) : List Nat := walkL (rOf a.a) (a.a.bl.length - a.i.toNat) a.done a.b
def side17l (a : A35) : Prop := rightR (rOf a.a) = true ∧ side42 a.a ∧ 0 ≤ a.i ∧ a.i ≤ a.a.bl.length ∧ a.done.length = a.a.bl.length ∧ a.ks.length ≤ a.i.toNat
noncomputable def out17l (κ : Kp) (a : A35) : Out (Exit × S) := .all (fun _ : Bool => True) fun e => .brn e (.one (.ret, sp 38 [] (str17 κ a.a (a.ks ++ walk17 a) (a.b ++ gainsL (rOf a.a) (walk17 a)))))
  (.one (.exit 0, sp 38 [] (str17 κ a.a (a.ks ++ walk17 a) (a.b ++ gainsL (rOf a.a) (walk17 a)))))
theorem gains_len {a : A45} (h : side42 a) {k : Nat} (hk : k < a.bl.length) : (gainsV (rOf a) k).length ≤ 200000 := by
  have hlit := side_lit h hk
  have hol := outer_len h k
  have hc := x_lit_c (ltOf (nth a.bl k))
  have hv := varsL_le [(ltOf (nth a.bl k)).x]
  have e1 := varsL_le [(ltOf (nth a.bl k)).x, (ltOf (nth a.bl k)).y]
  have e2 := varsL_le (ltOf (nth a.bl k)).a.l
  unfold gainsV
  rw [show (rOf a).body = ltsOf a.bl from rfl, nthLt_lts _ hk]
  cases decide (7 ≤ (ltOf (nth a.bl k)).op) with
  | true => rw [cond_true, List.length_append]; omega
  | false =>
    rw [cond_false]
    simp only [litV, litC, List.length_append] at hlit ⊢; omega
theorem l17 (κ : Kp) : LoopOk (E36 κ) 12 56 3 (loopE 6 (st17l κ) side17l (out17l κ)) := by
  refine loopE_ok (fun a => a.a.bl.length - a.i.toNat) ?_
  rintro ⟨a, ks, done, b, i⟩ K ⟨h1, h2, h3, h4, h5, h6⟩ ho
  simp only at h1 h2 h3 h4 h5 h6
  rw [show (E36 κ).P = Pr κ from rfl]
  refine Eq.mpr (x17 κ a (ints ks) (setE b) (setE b) (bools done) i _ _ K) ?_
  have ho1 := ho true trivial
  have ho2 := ho false trivial
  simp only [Out.run, brn, walk17] at ho1 ho2
  simp only [and_self]
  have hbl := bools_len done
  have hil := ints_len ks
  have hl := h2.2
  rw [brn_iff, decide_eq_true_eq, decide_eq_false_iff_not]
  refine ⟨fun hi => ⟨⟨a, done, b, 0, 0⟩, rfl, ⟨h1, h2, h5⟩, ?_⟩, fun hi => ?_⟩
  · have hw := walkL_succ (rOf a) (a.bl.length - (i.toNat + 1)) done b
    rw [show a.bl.length - (i.toNat + 1) + 1 = a.bl.length - i.toNat by omega] at hw
    rw [brn_iff, decide_eq_true_eq, decide_eq_false_iff_not]
    refine ⟨fun e => ?_, fun e => ?_⟩
    · rw [hw, decide_eq_true e] at ho1
      simp only [cond_true, List.append_nil, gainsL, List.flatMap_nil] at ho1
      exact ho1
    · rw [hw, decide_eq_false e, cond_false] at ho1 ho2
      rcases nextI_spec (rOf a) done b with e0 | ⟨e1, e2, e3, _⟩
      · rw [e0] at e; omega
      have e2' := e2
      rw [body_len] at e2'
      have hg := gains_len h2 e2'
      rw [cnd_iff, decide_eq_true_eq]
      refine ⟨by omega, (a, nextI (rOf a) done b), rfl, ⟨h1, h2, e1, by simp only; omega⟩, (strs (gainsV (rOf a) (nextI (rOf a) done b).toNat), setE b), rfl, by simp only [side23, strs_len, maxI]; omega, ?_⟩
      rw [cnd_iff, Bool.and_eq_true, decide_eq_true_eq, decide_eq_true_eq]
      refine ⟨⟨e1, by show nextI (rOf a) done b < _; omega⟩, (a, nextI (rOf a) done b), rfl, ⟨h1, h2, e1, by simp only; omega⟩, (strs (gainsV (rOf a) (nextI (rOf a) done b).toNat), setE b), rfl, by simp only [side23, strs_len, maxI]; omega, ?_⟩
      rw [wrap_ok (n := i + 1) (by omega) (by omega)]
      refine ⟨_, ?_, ⟨a, ks ++ [(nextI (rOf a) done b).toNat], done.set (nextI (rOf a) done b).toNat true, b ++ gainsV (rOf a) (nextI (rOf a) done b).toNat, i + 1⟩, ?_, ⟨h1, h2, by simp only; omega, by simp only; omega, by simpa using h5, by simp only [List.length_append, List.length_singleton]; omega⟩, rfl, ?_⟩
      · simp only; omega
      · simp only [List.take_length]
        simp only [st17l, str17, List.cons_append, List.nil_append, Nat.zero_add, setN_bools, setE_app, bools_len, List.length_set, ints_app, ints_len, List.length_append, List.length_singleton]
        simp only [ints, List.map_cons, List.map_nil, Int.toNat_of_nonneg e1, List.length_singleton]
      · have hg2 : ∀ l, b ++ gainsL (rOf a) ((nextI (rOf a) done b).toNat :: l) = (b ++ gainsV (rOf a) (nextI (rOf a) done b).toNat) ++ gainsL (rOf a) l := fun l => by
          simp only [gainsL, List.flatMap_cons, List.append_assoc]
        have hk2 : ∀ l, ks ++ (nextI (rOf a) done b).toNat :: l = (ks ++ [(nextI (rOf a) done b).toNat]) ++ l := fun l => by simp
        rw [hg2, hk2] at ho1 ho2
        intro f _
        simp only [Out.run, walk17, show (i + 1).toNat = i.toNat + 1 by omega]
        cases f
        · exact ho2
        · exact ho1
  · rw [show a.bl.length - i.toNat = 0 by omega] at ho2
    simp only [walkL, List.append_nil, gainsL, List.flatMap_nil] at ho2
    exact ho2
noncomputable def E17l (κ : Kp) : Env := (E36 κ).addLoop 56 3 (loopE 6 (st17l κ) side17l (out17l κ))
theorem e17l (κ : Kp) : EnvOK (E17l κ) := (e36 κ).addLoop (m36 κ) (l17 κ)
theorem m17l (κ : Kp) : EnvMono (E17l κ) := (m36 κ).addLoop loopE_mono
end Go.Proofs.YtpgahkbkfflkaaaGreatDoor
namespace Go.Proofs.YtpgahkbkfflkaaaGreatDoor
open Go Go.Dn Go.Rl Go.Proofs Go.RowKit Go.Extern.Stop Go.Stop Go.Extern
theorem noIsJ (v : Value) (xT : TypeId) (w : World) : (Instr.typeAssert (.iface 109 v) xT 115 true).run Tryz.prog w = .ok (.tuple #[.nilIface, .bool false]) w := run_typeAssert_lacksB Tryz.underlying115 (by kernel_rfl) (by kernel_rfl) v xT w
theorem noUnwrapJ (v : Value) (xT : TypeId) (w : World) : (Instr.typeAssert (.iface 109 v) xT 117 true).run Tryz.prog w = .ok (.tuple #[.nilIface, .bool false]) w := run_typeAssert_lacksB Tryz.underlying117 (by kernel_rfl) (by kernel_rfl) v xT w
theorem hasUnwrapsJ (v : Value) (xT : TypeId) (w : World) : (Instr.typeAssert (.iface 109 v) xT 119 true).run Tryz.prog w = .ok (.tuple #[.iface 109 v, .bool true]) w := run_typeAssert_hasB Tryz.underlying119 (by kernel_rfl) v xT w
theorem methodUnwrapJ (v : Value) (w : World) : (Go.method 267 109 v "Unwrap").run Tryz.prog w = .ok (113, v) w := by kernel_rfl
set_option maxRecDepth 4000 in
theorem is34_same (a : Addr) (w : World) :
    Calls Tryz.prog 47 #[.iface 129 (.pointer (some a)), .iface 129 (.pointer (some a)), .bool true] w fun e w' => e = .returned (.bool true) ∧ w' = w := by
  obtain ⟨i, hi, hcmp⟩ := Option.map_eq_some_iff.1 isComp
  obtain ⟨j, hj, hjs⟩ := Option.map_eq_some_iff.1 isSize
  have heq := run_eql_iface_ptr_same (P := Tryz.prog) w a Tryz.underlying54 Tryz.underlying129 hi hcmp hj
  go_enter Tryz.func47, Tryz.ntmps47
  go_wp2
  refine wp_loop_rounds 1 ?_
  rw [rounds_succ]
  go_wp2
  go_ret
  exact ⟨rfl, rfl⟩
set_option maxRecDepth 8000 in
theorem is_join (ja ra b : Addr) (cap : Nat) (w : World) (h1 : w.cell? ja = some (.slice (some ra) 1 cap)) (h2 : w.cell? ra = some (.iface 129 (.pointer (some b)))) :
    Calls Tryz.prog 22 #[.iface 109 (.pointer (some ja)), .iface 129 (.pointer (some b))] w fun e w' => e = .returned (.bool true) ∧ w' = w := by
  have h8 := @run_callFunc_extern Tryz.prog 46 _ Extern.ReflectliteType.typeOf Tryz.func46 (by kernel_rfl) (by kernel_rfl) (by kernel_rfl) (by kernel_rfl)
  have h32 := @run_callFunc_extern Tryz.prog 117 _ (Extern.ReflectliteType.method fun t => do Go.Extern.Rtype.noPackHeld "Comparable" t; pure (.bool (← typeInfo t).comparable)) Tryz.func117 (by kernel_rfl) (by kernel_rfl) (by kernel_rfl) (by kernel_rfl)
  have tT := isTypeOf
  have cT := isComparable
  have mR := isMethodComparable
  have hne := run_eql_iface_types (P := Tryz.prog) 109 129 (.pointer (some ja)) (.pointer (some b)) Tryz.underlying54 (by decide)
  have n1 := noIsJ
  have n2 := noUnwrapJ
  have n3 := hasUnwrapsJ
  have mU := methodUnwrapJ
  go_enter Tryz.func22, Tryz.ntmps22
  go_wp2
  refine wp_loop_rounds 1 ?_
  rw [rounds_succ]
  go_wp2
  refine wp_loop_rounds 1 ?_
  rw [rounds_succ]
  go_wp2_with (first | (go_at_call 47; refine (is34_same b _).mono ?_; rintro e w' ⟨rfl, rfl⟩))
  all_goals (go_ret; exact ⟨rfl, rfl⟩)
end Go.Proofs.YtpgahkbkfflkaaaGreatDoor
namespace Go.Proofs.YtpgahkbkfflkaaaGreatDoor
open Go Go.Dn Go.Rl Go.Proofs
attribute [local irreducible] funA vc
set_option maxRecDepth 20000
noncomputable def EJ1 (κ : Kp) : Env := (E17l κ).addLoop 45 3 (unrollSp (E17l κ) 12 45 3 3)
noncomputable def EJ2 (κ : Kp) : Env := (EJ1 κ).addLoop 45 12 (unrollSp (EJ1 κ) 12 45 12 3)
theorem eJ1 (κ : Kp) : EnvOK (EJ1 κ) := (e17l κ).addLoop (m17l κ) (unroll_ok (m17l κ) 3)
theorem mJ1 (κ : Kp) : EnvMono (EJ1 κ) := (m17l κ).addLoop (unroll_mono (m17l κ) 3)
theorem eJ2 (κ : Kp) : EnvOK (EJ2 κ) := (eJ1 κ).addLoop (mJ1 κ) (unroll_ok (mJ1 κ) 3)
theorem mJ2 (κ : Kp) : EnvMono (EJ2 κ) := (mJ1 κ).addLoop (unroll_mono (mJ1 κ) 3)
theorem yJ (κ : Kp) (K : AV → List Dn.Obj → Prop) : (funA (EJ2 κ) 12 45 [.lst 54 [.lit (errStuck κ)]] [] K) = (
  loopCode (Pg.toProgram (Env.P (E17l κ))) 45 3 = loopCode (Pg.toProgram (Env.P (E17l κ))) 45 3 ∧ loopCode (Pg.toProgram (Env.P (EJ1 κ))) 45 12 = loopCode
  (Pg.toProgram (Env.P (EJ1 κ))) 45 12 ∧ K (AV.ifc 109 (AV.ptr 0 0 [] 0)) [Obj.box 111 (AV.agg [AV.slc 1 0 1]), Obj.row 54 [AV.lit (Value.iface 129
  (Value.pointer (some (Kp.stuck κ))))]]) := by kernel_rfl
abbrev joined : AV := .ifc 109 (.ptr 0 0 [] 0)
abbrev joinSt (κ : Kp) : List Dn.Obj := [.box 111 (.agg [.slc 1 0 1]), .row 54 [.lit (errStuck κ)]]
def stJ (κ : Kp) (_ : Unit) : List AV × List Dn.Obj := ([.lst 54 [.lit (errStuck κ)]], [])
def sideJ (_ : Unit) : Prop := True
def outJ (κ : Kp) (_ : Unit) : Out (AV × List Dn.Obj) := .one (joined, joinSt κ)
theorem cJ (κ : Kp) : CallOk (EJ2 κ) 12 45 (callE (stJ κ) sideJ (outJ κ)) := by
  refine callE_ok ?_
  rintro ⟨⟩ K _ ho
  refine Eq.mpr (yJ κ K) ?_
  exact ⟨rfl, rfl, ho⟩
def stI (κ : Kp) (_ : Unit) : List AV × List Dn.Obj := ([joined, .lit (errStuck κ)], joinSt κ)
def outI (κ : Kp) (_ : Unit) : Out (AV × List Dn.Obj) := .one (.bool true, joinSt κ)
theorem qI (κ : Kp) : ∀ args st K, callE (stI κ) sideJ (outI κ) args st K → SimCall (Pr κ) 22 args st K := by
  rintro args st K ⟨_, h1, _, h3⟩
  obtain ⟨rfl, rfl⟩ := Prod.mk.inj h1
  refine ⟨⟨_, Tryz.func22, rfl⟩, fun C vs hC hI hst hm => ?_⟩
  obtain ⟨vs⟩ := vs
  match vs, hm with
  | [v1, v2], hm =>
    simp only [MT] at hm
    obtain ⟨a1, a2, a3, b1, b2, b3, _⟩ := hm
    have hv2 : v2 = errStuck κ := rel_lit_inv (C := C) ⟨b1, b2, b3⟩
    have r1 : Rel C joined v1 := ⟨a1, a2, a3⟩
    obtain ⟨c1, _⟩ := rel_cell r1 rfl (by simp)
    simp only [M, c1] at a3
    obtain ⟨u, u1, u2, u3, u4, v, v1', v2', v3⟩ := a3
    have hv1 : v1 = .iface 109 u := by simpa using u1
    have hu : u.cells = #[u] := cells_one (by rw [u2]; rfl)
    have huv : v = u := by rw [hu] at v1'; simpa using v1'.symm
    subst huv
    have o0 := hI.obj 0 (by rw [hst]; simp)
    have o1 := hI.obj 1 (by rw [hst]; simp)
    rw [hst] at o0 o1
    simp only [nthO, ObjOK] at o0 o1
    obtain ⟨_, _, c, e, g1, _, g2⟩ := o0
    simp only [M, ML] at g2
    obtain ⟨⟨_, s, s1, _, s2⟩, _⟩ := g2
    have s3 := s2 54 [.lit (errStuck κ)] (by rw [hst]; rfl)
    obtain ⟨_, s3⟩ := s3
    rcases s3 with ⟨_, _, _, s3⟩ | ⟨n1, cap, q, rfl, s3, s4, _⟩
    · cases s3
    have hq : q = ⟨(C.ι 1).block, 0, none⟩ := by
      rcases s3 with s3 | ⟨s3, s5⟩
      · rw [s3, Nat.zero_mul]
      · omega
    subst hq
    obtain ⟨_, o1⟩ := o1
    rcases o1 with ⟨o1, _⟩ | ⟨_, _, c', k1, _, _, _, k2⟩
    · rw [n1] at o1; cases o1
    simp only [MR, M] at k2
    obtain ⟨⟨k2, _⟩, _⟩ := k2
    have hp : v = .pointer (some ⟨(C.ι 0).block, 0, none⟩) := (v3.2.1 111 _ (by rw [hst]; rfl)).2
    subst hp
    subst hv1 hv2
    refine (callsIn_wide.2 (is_join ⟨(C.ι 0).block, 0, none⟩ ⟨(C.ι 1).block, 0, none⟩ κ.stuck cap C.w s1 k2)).mono ?_
    rintro e' w' ⟨rfl, rfl⟩
    exact ⟨_, .bool true, C, rfl, rfl, rfl, hI, rel_lit rfl, Ext.refl _ (by rw [hst]; exact Nat.le_refl _), by rw [hst]; exact h3⟩
  | [], hm => simp [MT] at hm
  | [_], hm => simp [MT] at hm
  | _ :: _ :: _ :: _, hm => simp [MT] at hm
noncomputable def EJ (κ : Kp) : Env := ((EJ2 κ).addCall 45 (callE (stJ κ) sideJ (outJ κ))).addCall 22 (callE (stI κ) sideJ (outI κ))
theorem eJ (κ : Kp) : EnvOK (EJ κ) := ((eJ2 κ).addCall (mJ2 κ) (cJ κ)).addSim (qI κ)
theorem mJ (κ : Kp) : EnvMono (EJ κ) := ((mJ2 κ).addCall callE_mono).addCall callE_mono
end Go.Proofs.YtpgahkbkfflkaaaGreatDoor
namespace Go.Proofs.YtpgahkbkfflkaaaGreatDoor
open Go Go.Dn Go.Rl Go.Proofs
attribute [local irreducible] funA vc
set_option maxRecDepth 20000
theorem y17 (κ : Kp) (a : A45) (K : AV → List Dn.Obj → Prop) : (funA (EJ κ) 12 21 [rl45 a] [] K) = (
  cnd (true && decide ((↑(List.length (A45.bl a)) : Int) ≤ (↑(List.length (A45.bl a)) : Int)) && decide ((Int.toNat (↑(List.length (A45.bl a)) : Int) + 1) * 2 ≤
  70368744177664) && true) (loopCode (Pg.toProgram (Env.P (E36 κ))) 56 3 = loopCode (Pg.toProgram (Env.P (E36 κ))) 56 3 ∧ ∃ (a_1 : A35), sp 38 [(0, AV.yld 5),
  (1, AV.ptr 4 0 [] 0), (3, AV.mp 7), (4, AV.slc 8 0 (Int.toNat (↑(List.length (A45.bl a)) : Int))), (13, AV.int (↑(List.length (A45.bl a)) : Int)), (14, AV.int
  0)] [Obj.box 27 (AV.agg [AV.agg [AV.str (A45.rel a), AV.lst 43 (A45.hl a)], AV.lst 46 (A45.bl a), AV.int (A45.line a)]), Obj.box 30 (AV.slc 6 0 0), Dn.Obj.map
  9 4 [], Obj.box 65 (AV.mp 2), Obj.box 27 (AV.agg [AV.agg [AV.str (A45.rel a), AV.lst 43 (A45.hl a)], AV.lst 46 (A45.bl a), AV.int (A45.line a)]), Dn.Obj.loop
  (lpA Tryz.prog 21 4 LoopState.ready none (spR (junks 40) [(0, AV.agg [AV.agg [AV.str (A45.rel a), AV.lst 43 (A45.hl a)], AV.lst 46 (A45.bl a), AV.int (A45.line
  a)]), (1, AV.ptr 0 0 [] 0), (2, AV.nil), (3, AV.lit Value.nilIface), (4, AV.ptr 1 0 [] 0), (5, AV.ptr 3 0 [] 0), (7, AV.mp 2), (8, AV.agg [AV.agg [AV.str
  (A45.rel a), AV.lst 43 (A45.hl a)], AV.lst 46 (A45.bl a), AV.int (A45.line a)]), (9, AV.clo 56 [AV.ptr 4 0 [] 0])])), Obj.row 3 [], Dn.Obj.map 9 4 [], Obj.row
  4 (zerosA (AV.bool false) (Int.toNat (↑(List.length (A45.bl a)) : Int)))] = sp 38 [(0, AV.yld 5), (1, AV.ptr 4 0 [] 0), (3, AV.mp 7), (4, AV.slc 8 0
  (List.length (bools (A35.done a_1)))), (13, AV.int (↑(List.length (A45.bl (A35.a a_1))) : Int)), (14, AV.int (A35.i a_1))] [Obj.box 27 (AV.agg [AV.agg [AV.str
  (A45.rel (A35.a a_1)), AV.lst 43 (A45.hl (A35.a a_1))], AV.lst 46 (A45.bl (A35.a a_1)), AV.int (A45.line (A35.a a_1))]), Obj.box 30 (AV.slc 6 0 (List.length
  (ints (A35.ks a_1)))), Dn.Obj.map 9 4 (setE (A35.b a_1)), Obj.box 65 (AV.mp 2), Obj.box 27 (AV.agg [AV.agg [AV.str (A45.rel (A35.a a_1)), AV.lst 43 (A45.hl
  (A35.a a_1))], AV.lst 46 (A45.bl (A35.a a_1)), AV.int (A45.line (A35.a a_1))]), Dn.Obj.loop (lpA Tryz.prog 21 4 LoopState.ready none (spR (junks 40) [(0,
  AV.agg [AV.agg [AV.str (A45.rel (A35.a a_1)), AV.lst 43 (A45.hl (A35.a a_1))], AV.lst 46 (A45.bl (A35.a a_1)), AV.int (A45.line (A35.a a_1))]), (1, AV.ptr 0 0
  [] 0), (2, AV.nil), (3, AV.lit Value.nilIface), (4, AV.ptr 1 0 [] 0), (5, AV.ptr 3 0 [] 0), (7, AV.mp 2), (8, AV.agg [AV.agg [AV.str (A45.rel (A35.a a_1)),
  AV.lst 43 (A45.hl (A35.a a_1))], AV.lst 46 (A45.bl (A35.a a_1)), AV.int (A45.line (A35.a a_1))]), (9, AV.clo 56 [AV.ptr 4 0 [] 0])])), Obj.row 3 (ints (A35.ks
  a_1)), Dn.Obj.map 9 4 (setE (A35.b a_1)), Obj.row 4 (bools (A35.done a_1))] ∧ (rightR (rOf (A35.a a_1)) = true ∧ (cntL (tmsOf (ruleTs 43 (A45.hl (A35.a a_1))
  (A45.bl (A35.a a_1)))) ≤ 100000 ∧ List.length (A45.bl (A35.a a_1)) ≤ 100000) ∧ (0 : Int) ≤ A35.i a_1 ∧ A35.i a_1 ≤ (↑(List.length (A45.bl (A35.a a_1))) : Int)
  ∧ List.length (A35.done a_1) = List.length (A45.bl (A35.a a_1)) ∧ List.length (A35.ks a_1) ≤ Int.toNat (A35.i a_1)) ∧ ∀ (y : Bool), True → brn y (brn (decide
  ((↑(List.length (ints (A35.ks a_1 ++ walk17 a_1))) : Int) < (↑(List.length (A45.bl (A35.a a_1))) : Int))) ((∃ (a : Unit), ([AV.lst 54 [AV.lit (Value.iface 129
  (Value.pointer (some (Kp.stuck κ))))]], nilO) = ([AV.lst 54 [AV.lit (Value.iface 129 (Value.pointer (some (Kp.stuck κ))))]], nilO) ∧ True ∧ K (AV.tup [AV.nil,
  AV.ifc 109 (AV.ptr 0 0 [] 0)]) [Obj.box 111 (AV.agg [AV.slc 1 0 1]), Obj.row 54 [AV.lit (Value.iface 129 (Value.pointer (some (Kp.stuck κ))))]]) ∧ ∃ (a :
  Unit), ([AV.lst 54 [AV.lit (Value.iface 129 (Value.pointer (some (Kp.stuck κ))))]], nilO) = ([AV.lst 54 [AV.lit (Value.iface 129 (Value.pointer (some (Kp.stuck
  κ))))]], nilO) ∧ True ∧ K (AV.tup [AV.nil, AV.ifc 109 (AV.ptr 0 0 [] 0)]) [Obj.box 111 (AV.agg [AV.slc 1 0 1]), Obj.row 54 [AV.lit (Value.iface 129
  (Value.pointer (some (Kp.stuck κ))))]]) ((∃ (a : List AV), ([AV.lst 43 (A45.hl (A35.a a_1))], nilO) = ([AV.lst 43 a], nilO) ∧ side31a a ∧ ∃ (a_2 : List AV ×
  List (Value × AV)), ([AV.mp 0, AV.lst 9 (List.take (List.length (varsL (tmsOf a))) (List.drop 0 (strs (varsL (tmsOf a)))))], [Dn.Obj.map 9 4 (setE (A35.b a_1
  ++ gainsL (rOf (A35.a a_1)) (walk17 a_1)))]) = ([AV.mp 0, AV.lst 9 (Prod.fst a_2)], [Dn.Obj.map 9 4 (Prod.snd a_2)]) ∧ side23 a_2 ∧ brn (!hasL (Prod.snd a_2)
  (Prod.fst a_2)) (∃ (a : Unit), ([AV.lst 54 [AV.lit (Value.iface 129 (Value.pointer (some (Kp.stuck κ))))]], nilO) = ([AV.lst 54 [AV.lit (Value.iface 129
  (Value.pointer (some (Kp.stuck κ))))]], nilO) ∧ True ∧ K (AV.tup [AV.nil, AV.ifc 109 (AV.ptr 0 0 [] 0)]) [Obj.box 111 (AV.agg [AV.slc 1 0 1]), Obj.row 54
  [AV.lit (Value.iface 129 (Value.pointer (some (Kp.stuck κ))))]]) (K (AV.tup [AV.slc 0 0 (List.length (ints (A35.ks a_1 ++ walk17 a_1))), AV.lit
  Value.nilIface]) [Obj.row 3 (ints (A35.ks a_1 ++ walk17 a_1))])) ∧ ∃ (a : List AV), ([AV.lst 43 (A45.hl (A35.a a_1))], nilO) = ([AV.lst 43 a], nilO) ∧ side31a
  a ∧ ∃ (a_2 : List AV × List (Value × AV)), ([AV.mp 0, AV.lst 9 (List.take (List.length (varsL (tmsOf a))) (List.drop 0 (strs (varsL (tmsOf a)))))], [Dn.Obj.map
  9 4 (setE (A35.b a_1 ++ gainsL (rOf (A35.a a_1)) (walk17 a_1)))]) = ([AV.mp 0, AV.lst 9 (Prod.fst a_2)], [Dn.Obj.map 9 4 (Prod.snd a_2)]) ∧ side23 a_2 ∧ brn
  (!hasL (Prod.snd a_2) (Prod.fst a_2)) (∃ (a : Unit), ([AV.lst 54 [AV.lit (Value.iface 129 (Value.pointer (some (Kp.stuck κ))))]], nilO) = ([AV.lst 54 [AV.lit
  (Value.iface 129 (Value.pointer (some (Kp.stuck κ))))]], nilO) ∧ True ∧ K (AV.tup [AV.nil, AV.ifc 109 (AV.ptr 0 0 [] 0)]) [Obj.box 111 (AV.agg [AV.slc 1 0 1]),
  Obj.row 54 [AV.lit (Value.iface 129 (Value.pointer (some (Kp.stuck κ))))]]) (K (AV.tup [AV.slc 0 0 (List.length (ints (A35.ks a_1 ++ walk17 a_1))), AV.lit
  Value.nilIface]) [Obj.row 3 (ints (A35.ks a_1 ++ walk17 a_1))]))) (brn (decide ((↑(List.length (ints (A35.ks a_1 ++ walk17 a_1))) : Int) < (↑(List.length
  (A45.bl (A35.a a_1))) : Int))) ((∃ (a : Unit), ([AV.lst 54 [AV.lit (Value.iface 129 (Value.pointer (some (Kp.stuck κ))))]], nilO) = ([AV.lst 54 [AV.lit
  (Value.iface 129 (Value.pointer (some (Kp.stuck κ))))]], nilO) ∧ True ∧ K (AV.tup [AV.nil, AV.ifc 109 (AV.ptr 0 0 [] 0)]) [Obj.box 111 (AV.agg [AV.slc 1 0 1]),
  Obj.row 54 [AV.lit (Value.iface 129 (Value.pointer (some (Kp.stuck κ))))]]) ∧ ∃ (a : Unit), ([AV.lst 54 [AV.lit (Value.iface 129 (Value.pointer (some (Kp.stuck
  κ))))]], nilO) = ([AV.lst 54 [AV.lit (Value.iface 129 (Value.pointer (some (Kp.stuck κ))))]], nilO) ∧ True ∧ K (AV.tup [AV.nil, AV.ifc 109 (AV.ptr 0 0 [] 0)])
  [Obj.box 111 (AV.agg [AV.slc 1 0 1]), Obj.row 54 [AV.lit (Value.iface 129 (Value.pointer (some (Kp.stuck κ))))]]) ((∃ (a : List AV), ([AV.lst 43 (A45.hl (A35.a
  a_1))], nilO) = ([AV.lst 43 a], nilO) ∧ side31a a ∧ ∃ (a_2 : List AV × List (Value × AV)), ([AV.mp 0, AV.lst 9 (List.take (List.length (varsL (tmsOf a)))
  (List.drop 0 (strs (varsL (tmsOf a)))))], [Dn.Obj.map 9 4 (setE (A35.b a_1 ++ gainsL (rOf (A35.a a_1)) (walk17 a_1)))]) = ([AV.mp 0, AV.lst 9 (Prod.fst a_2)],
  [Dn.Obj.map 9 4 (Prod.snd a_2)]) ∧ side23 a_2 ∧ brn (!hasL (Prod.snd a_2) (Prod.fst a_2)) (∃ (a : Unit), ([AV.lst 54 [AV.lit (Value.iface 129 (Value.pointer
  (some (Kp.stuck κ))))]], nilO) = ([AV.lst 54 [AV.lit (Value.iface 129 (Value.pointer (some (Kp.stuck κ))))]], nilO) ∧ True ∧ K (AV.tup [AV.nil, AV.ifc 109
  (AV.ptr 0 0 [] 0)]) [Obj.box 111 (AV.agg [AV.slc 1 0 1]), Obj.row 54 [AV.lit (Value.iface 129 (Value.pointer (some (Kp.stuck κ))))]]) (K (AV.tup [AV.slc 0 0
  (List.length (ints (A35.ks a_1 ++ walk17 a_1))), AV.lit Value.nilIface]) [Obj.row 3 (ints (A35.ks a_1 ++ walk17 a_1))])) ∧ ∃ (a : List AV), ([AV.lst 43 (A45.hl
  (A35.a a_1))], nilO) = ([AV.lst 43 a], nilO) ∧ side31a a ∧ ∃ (a_2 : List AV × List (Value × AV)), ([AV.mp 0, AV.lst 9 (List.take (List.length (varsL (tmsOf
  a))) (List.drop 0 (strs (varsL (tmsOf a)))))], [Dn.Obj.map 9 4 (setE (A35.b a_1 ++ gainsL (rOf (A35.a a_1)) (walk17 a_1)))]) = ([AV.mp 0, AV.lst 9 (Prod.fst
  a_2)], [Dn.Obj.map 9 4 (Prod.snd a_2)]) ∧ side23 a_2 ∧ brn (!hasL (Prod.snd a_2) (Prod.fst a_2)) (∃ (a : Unit), ([AV.lst 54 [AV.lit (Value.iface 129
  (Value.pointer (some (Kp.stuck κ))))]], nilO) = ([AV.lst 54 [AV.lit (Value.iface 129 (Value.pointer (some (Kp.stuck κ))))]], nilO) ∧ True ∧ K (AV.tup [AV.nil,
  AV.ifc 109 (AV.ptr 0 0 [] 0)]) [Obj.box 111 (AV.agg [AV.slc 1 0 1]), Obj.row 54 [AV.lit (Value.iface 129 (Value.pointer (some (Kp.stuck κ))))]]) (K (AV.tup
  [AV.slc 0 0 (List.length (ints (A35.ks a_1 ++ walk17 a_1))), AV.lit Value.nilIface]) [Obj.row 3 (ints (A35.ks a_1 ++ walk17 a_1))]))))) := by kernel_rfl
def st17 (a : A45) : List AV × List Dn.Obj := ([rl45 a], [])
def side17 (a : A45) : Prop := rightR (rOf a) = true ∧ side42 a
noncomputable def out17 (κ : Kp) (a : A45) : Out (AV × List Dn.Obj) := .brn (safeR (rOf a)) (.one (.tup [.slc 0 0 (walkR (rOf a)).length, .lit .nilIface], [.row 3 (ints (walkR (rOf a)))])) (.one (.tup [.nil, joined], joinSt κ))
theorem zeros_bools (n : Nat) : zerosA (.lit (.bool false)) n = bools (List.replicate n false) := by simp [zerosA, bools]
theorem c17 (κ : Kp) : CallOk (EJ κ) 12 21 (callE st17 side17 (out17 κ)) := by
  refine callE_ok ?_
  rintro a K ⟨h1, h2⟩ ho
  refine Eq.mpr (y17 κ a K) ?_
  simp only [and_self]
  simp only [out17, Out.run, brn_iff] at ho
  have hl := h2.2
  have hw : walk17 ⟨a, [], List.replicate a.bl.length false, [], 0⟩ = walkR (rOf a) := by
    unfold walk17 walkR
    rw [body_len]; rfl
  have hc := side_hl h2
  have hv := varsL_le (tmsOf a.hl)
  have hs : safeR (rOf a) = (decide (a.bl.length ≤ (walkR (rOf a)).length) && hasB (gainsL (rOf a) (walkR (rOf a))) (varsL (tmsOf a.hl))) := by
    unfold safeR; rw [body_len]; rfl
  rw [hs] at ho
  simp only [cnd_iff, Bool.and_eq_true, decide_eq_true_eq, Int.toNat_natCast]
  refine ⟨⟨⟨⟨trivial, by omega⟩, by omega⟩, trivial⟩, trivial, ⟨a, [], List.replicate a.bl.length false, [], 0⟩, ?_, ⟨h1, h2, by simp only; omega, by simp only; omega, by simp, by simp⟩, ?_⟩
  · simp only [zeros_bools, bools_len, List.length_replicate]; rfl
  · intro y _
    rw [hw]
    cases y <;>
    · simp only [ints_len, List.nil_append, brn_iff, decide_eq_true_eq, decide_eq_false_iff_not, Bool.not_eq_true', Bool.not_eq_false', reduceCtorEq, false_implies, true_implies, and_true, true_and]
      refine ⟨fun e => ?_, fun e => ?_⟩
      · rw [decide_eq_false (show ¬ a.bl.length ≤ (walkR (rOf a)).length by omega), Bool.false_and] at ho
        exact ⟨(), ho.2 rfl⟩
      · rw [decide_eq_true (show a.bl.length ≤ (walkR (rOf a)).length by omega), Bool.true_and] at ho
        refine ⟨a.hl, rfl, hc, (strs (varsL (tmsOf a.hl)), setE (gainsL (rOf a) (walkR (rOf a)))), ?_, ?_, ?_⟩
        · simp only [List.drop_zero, take_strs]
        · simp only [side23, strs_len, maxI]; omega
        · simp only [hasL_set]
          exact ⟨fun e2 => ⟨(), ho.2 e2⟩, fun e2 => ho.1 e2⟩
noncomputable def E17 (κ : Kp) : Env := (EJ κ).addCall 21 (callE st17 side17 (out17 κ))
theorem e17 (κ : Kp) : EnvOK (E17 κ) := (eJ κ).addCall (mJ κ) (c17 κ)
theorem m17 (κ : Kp) : EnvMono (E17 κ) := (mJ κ).addCall callE_mono
theorem y7 (κ : Kp) (a : A45) (K : AV → List Dn.Obj → Prop) : (funA (E17 κ) 12 7 [rl45 a] [] K) = (
  cnd (decide (List.length (A45.hl a) ≤ 9223372036854775807) && decide (List.length (A45.bl a) ≤ 9223372036854775807)) (brn (!rightR
  { head := { rel := A45.rel a, l := tmsOf (A45.hl a) }, body := ltsOf (A45.bl a) }) (K (AV.tup [AV.nil, AV.int 30]) []) (∃ (a_1 : A45), ([AV.agg [AV.agg [AV.str
  (A45.rel a), AV.lst 43 (A45.hl a)], AV.lst 46 (A45.bl a), AV.int (A45.line a)]], nilO) = ([AV.agg [AV.agg [AV.str (A45.rel a_1), AV.lst 43 (A45.hl a_1)],
  AV.lst 46 (A45.bl a_1), AV.int (A45.line a_1)]], nilO) ∧ (rightR (rOf a_1) = true ∧ cntL (tmsOf (ruleTs 43 (A45.hl a_1) (A45.bl a_1))) ≤ 100000 ∧ List.length
  (A45.bl a_1) ≤ 100000) ∧ brn (safeR (rOf a_1)) (K (AV.tup [AV.slc 0 0 (List.length (walkR (rOf a_1))), AV.int 0]) [Obj.row 3 (ints (walkR (rOf a_1)))]) (∃ (a :
  Unit), ([AV.ifc 109 (AV.ptr 0 0 [] 0), AV.lit (Value.iface 129 (Value.pointer (some (Kp.stuck κ))))], [Obj.box 111 (AV.agg [AV.slc 1 0 1]), Obj.row 54 [AV.lit
  (Value.iface 129 (Value.pointer (some (Kp.stuck κ))))]]) = ([AV.ifc 109 (AV.ptr 0 0 [] 0), AV.lit (Value.iface 129 (Value.pointer (some (Kp.stuck κ))))],
  [Obj.box 111 (AV.agg [AV.slc 1 0 1]), Obj.row 54 [AV.lit (Value.iface 129 (Value.pointer (some (Kp.stuck κ))))]]) ∧ True ∧ K (AV.tup [AV.nil, AV.int 60]) [])))) := by kernel_rfl
def out7 (a : A45) : Out (AV × List Dn.Obj) := .brn (rightR (rOf a)) (.brn (safeR (rOf a)) (.one (.tup [.slc 0 0 (walkR (rOf a)).length, .int 0], [.row 3 (ints (walkR (rOf a)))])) (.one (.tup [.nil, .int 60], []))) (.one (.tup [.nil, .int 30], []))
theorem c7 (κ : Kp) : CallOk (E17 κ) 12 7 (callE st17 side42 out7) := by
  refine callE_ok ?_
  rintro a K h2 ho
  refine Eq.mpr (y7 κ a K) ?_
  simp only [out7, Out.run, brn_iff] at ho
  have hc := side_hl h2
  have hl1 := len_cntL (tmsOf a.hl)
  rw [tms_len] at hl1
  have hl := h2.2
  rw [cnd_iff, Bool.and_eq_true, decide_eq_true_eq, decide_eq_true_eq]
  refine ⟨⟨by omega, by omega⟩, ?_⟩
  have hr : rightR ⟨⟨a.rel, tmsOf a.hl⟩, ltsOf a.bl⟩ = rightR (rOf a) := rfl
  rw [hr]
  simp only [brn_iff, Bool.not_eq_true', Bool.not_eq_false']
  refine ⟨fun e => ho.2 e, fun e => ⟨a, rfl, ⟨e, h2⟩, fun e2 => (ho.1 e).1 e2, fun e2 => ⟨(), trivial, trivial, (ho.1 e).2 e2⟩⟩⟩
noncomputable def E7 (κ : Kp) : Env := (E17 κ).addCall 7 (callE st17 side42 out7)
theorem e7 (κ : Kp) : EnvOK (E7 κ) := (e17 κ).addCall (m17 κ) (c7 κ)
theorem m7 (κ : Kp) : EnvMono (E7 κ) := (m17 κ).addCall callE_mono
end Go.Proofs.YtpgahkbkfflkaaaGreatDoor
namespace Go.Proofs.YtpgahkbkfflkaaaGreatDoor
open Go Go.Dn Go.Rl Go.Proofs
attribute [local irreducible] funA vc
set_option maxRecDepth 20000
def keepB (es : List (Value × AV)) (s : ByteArray) : Bool := inS es s
structure DB where
  vs : List ByteArray
  i : Int
  es : List (Value × AV)
abbrev strB (R : List AV) (es : List (Value × AV)) : List Dn.Obj := [.row 9 R, .box 65 (.mp 2), .map 9 4 es]
abbrev cloB : AV := .clo 35 [.ptr 1 0 [] 0]
abbrev stFB (a : DB) : S := sp 19 [(0, .slc 0 0 (strs a.vs).length), (1, cloB), (7, .int (strs a.vs).length), (8, .int a.i)] (strB (strs a.vs) a.es)
theorem xFB (κ : Kp) (a : DB) (I : Nat → S → Prop) (n : Nat) (K : Exit → S → Prop) : (vc (E39l κ) 12 59 none 3 (loopCode (Pr κ).toProgram 59 2) (stFB a) (loopK (E39l κ) 59 2 3 I n K)) = (
  brn (decide (DB.i a < (↑(List.length (strs (DB.vs a))) : Int))) (cnd (decide ((0 : Int) ≤ DB.i a) && decide (DB.i a < (↑(List.length (strs (DB.vs a))) : Int)))
  (brn (!Dn.toBool (getK (DB.es a) (Value.string (toStr (nth (strs (DB.vs a)) (0 + Int.toNat (DB.i a))))) (AV.bool false))) (K Exit.ret (sp 19 [(4, AV.int (DB.i
  a))] [Obj.row 9 (strs (DB.vs a)), Obj.box 65 (AV.mp 2), Dn.Obj.map 9 4 (DB.es a)])) (∃ (m : Nat), m < n ∧ I m (sp 19 [(0, AV.slc 0 0 (List.length (strs (DB.vs
  a)))), (1, AV.clo 35 [AV.ptr 1 0 [] 0]), (7, AV.int (↑(List.length (strs (DB.vs a))) : Int)), (8, AV.int (IntKind.wrap IntKind.i64 (DB.i a + (1 : Int))))]
  [Obj.row 9 (strs (DB.vs a)), Obj.box 65 (AV.mp 2), Dn.Obj.map 9 4 (DB.es a)])))) (K (Exit.exit 0) (sp 19 [] [Obj.row 9 (strs (DB.vs a)), Obj.box 65 (AV.mp 2),
  Dn.Obj.map 9 4 (DB.es a)]))) := by kernel_rfl
def sideFB (a : DB) : Prop := a.vs.length ≤ maxI ∧ 0 ≤ a.i ∧ a.i ≤ a.vs.length ∧ ∀ s, s ∈ a.vs.take a.i.toNat → keepB a.es s = true
def outFB (a : DB) : Out (Exit × S) :=
  .brn (a.vs.all (keepB a.es)) (.one (.exit 0, sp 19 [] (strB (strs a.vs) a.es)))
    (.all (fun j : Int => firstNot (keepB a.es) a.vs j) fun j => .one (.ret, sp 19 [(4, .int j)] (strB (strs a.vs) a.es)))
theorem lFB (κ : Kp) : LoopOk (E39l κ) 12 59 2 (loopE 3 stFB sideFB outFB) := by
  refine loopE_ok (fun a => a.vs.length - a.i.toNat) ?_
  rintro ⟨vs, i, es⟩ K ⟨h1, h2, h3, h4⟩ ho
  simp only at h1 h2 h3 h4
  rw [show (E39l κ).P = Pr κ from rfl]
  refine Eq.mpr (xFB κ ⟨vs, i, es⟩ _ _ K) ?_
  simp only [maxI] at h1
  simp only [outFB, Out.run, brn_iff] at ho
  have hl := strs_len vs
  simp only [strs_len, Nat.zero_add]
  have fin : i < vs.length → ∀ (hi : i.toNat < vs.length), (keepB es vs[i.toNat] = false → K .ret (sp 19 [(4, .int i)] (strB (strs vs) es))) ∧
      (keepB es vs[i.toNat] = true → ∃ m, m < vs.length - i.toNat ∧ invOf stFB sideFB outFB (fun a => a.vs.length - a.i.toNat) K m (stFB ⟨vs, i + 1, es⟩)) := by
    intro hi0 hi
    refine ⟨fun e => ho.2 ?_ i ⟨h2, hi, h4, e⟩, fun e => ⟨_, ?_, ⟨vs, i + 1, es⟩, rfl, ⟨by simpa [maxI] using h1, by simp only; omega, by simp only; omega, ?_⟩, rfl, ?_⟩⟩
    · rw [Bool.eq_false_iff]
      intro hall
      rw [List.all_eq_true.1 hall _ (List.getElem_mem hi)] at e
      cases e
    · simp only; omega
    · intro s hs
      simp only at hs
      rw [show (i + 1).toNat = i.toNat + 1 by omega, List.take_succ_eq_append_getElem hi, List.mem_append, List.mem_singleton] at hs
      rcases hs with hs | hs
      · exact h4 s hs
      · rw [hs]; exact e
    · simp only [outFB, Out.run, brn_iff]
      exact ho
  simp only [brn_iff, cnd_iff, decide_eq_true_eq, decide_eq_false_iff_not, Bool.and_eq_true, Bool.not_eq_true', Bool.not_eq_false']
  refine ⟨fun hi => ⟨⟨h2, hi⟩, ?_⟩, fun hi => ?_⟩
  · have hi' : i.toNat < vs.length := by omega
    have hn : toStr (nth (strs vs) i.toNat) = vs[i.toNat] := by rw [strs_nth vs _ hi']; rfl
    rw [wrap_ok (n := i + 1) (by omega) (by omega), hn]
    have hf := fin hi hi'
    simp only [stFB, strs_len] at hf
    exact ⟨fun e => hf.1 e, fun e => hf.2 e⟩
  · refine ho.1 (List.all_eq_true.2 fun s hs => h4 s ?_)
    rw [List.take_of_length_le (by omega)]; exact hs
noncomputable def EFB (κ : Kp) : Env := (E39l κ).addLoop 59 2 (loopE 3 stFB sideFB outFB)
theorem eFB (κ : Kp) : EnvOK (EFB κ) := (e39l κ).addLoop (m39l κ) (lFB κ)
theorem mFB (κ : Kp) : EnvMono (EFB κ) := (m39l κ).addLoop loopE_mono
structure GB where
  R : List AV
  i : Int
  j : Int
  es : List (Value × AV)
  P : List ByteArray
  ws : List ByteArray
abbrev stGB (a : GB) : S := sp 42 [(0, .slc 0 0 a.R.length), (1, cloB), (5, .int a.i), (6, .int a.j)] (strB a.R a.es)
theorem xGB (κ : Kp) (a : GB) (I : Nat → S → Prop) (n : Nat) (K : Exit → S → Prop) : (vc (EFB κ) 12 33 none 3 (loopCode (Pr κ).toProgram 33 5) (stGB a) (loopK (EFB κ) 33 5 3 I n K)) = (
  brn (decide (GB.j a < (↑(List.length (GB.R a)) : Int))) (cnd (decide ((0 : Int) ≤ GB.j a) && decide (GB.j a < (↑(List.length (GB.R a)) : Int))) (brn (!!Dn.toBool
  (getK (GB.es a) (Value.string (toStr (nth (GB.R a) (0 + Int.toNat (GB.j a))))) (AV.bool false))) (cnd (decide ((0 : Int) ≤ GB.i a) && decide (GB.i a <
  (↑(List.length (GB.R a)) : Int))) (∃ (m : Nat), m < n ∧ I m (sp 42 [(0, AV.slc 0 0 (List.length (GB.R a))), (1, AV.clo 35 [AV.ptr 1 0 [] 0]), (5, AV.int
  (IntKind.wrap IntKind.i64 (GB.i a + (1 : Int)))), (6, AV.int (IntKind.wrap IntKind.i64 (GB.j a + (1 : Int))))] [Obj.row 9 (setN (GB.R a) (0 + Int.toNat (GB.i
  a)) (AV.str (toStr (nth (GB.R a) (0 + Int.toNat (GB.j a)))))), Obj.box 65 (AV.mp 2), Dn.Obj.map 9 4 (GB.es a)]))) (∃ (m : Nat), m < n ∧ I m (sp 42 [(0, AV.slc
  0 0 (List.length (GB.R a))), (1, AV.clo 35 [AV.ptr 1 0 [] 0]), (5, AV.int (GB.i a)), (6, AV.int (IntKind.wrap IntKind.i64 (GB.j a + (1 : Int))))] [Obj.row 9
  (GB.R a), Obj.box 65 (AV.mp 2), Dn.Obj.map 9 4 (GB.es a)])))) (K (Exit.exit 0) (sp 42 [(0, AV.slc 0 0 (List.length (GB.R a))), (5, AV.int (GB.i a))] [Obj.row 9
  (GB.R a), Obj.box 65 (AV.mp 2), Dn.Obj.map 9 4 (GB.es a)]))) := by kernel_rfl
def sideGB (a : GB) : Prop := a.R.length ≤ maxI ∧ 0 ≤ a.i ∧ a.i < a.j ∧ a.j ≤ a.R.length ∧ a.R.take a.i.toNat = strs a.P ∧ a.R.drop a.j.toNat = strs a.ws
def outGB (a : GB) : Out (Exit × S) := .all (fun R : List AV => R.length = a.R.length ∧ R.take (a.P ++ a.ws.filter (keepB a.es)).length = strs (a.P ++ a.ws.filter (keepB a.es)))
  fun R => .one (.exit 0, sp 42 [(0, .slc 0 0 a.R.length), (5, .int (a.P ++ a.ws.filter (keepB a.es)).length)] (strB R a.es))
theorem lGB (κ : Kp) : LoopOk (EFB κ) 12 33 5 (loopE 3 stGB sideGB outGB) := by
  refine loopE_ok (fun a => a.R.length - a.j.toNat) ?_
  rintro ⟨R, i, j, es, P, ws⟩ K ⟨h1, h2, h3, h4, h5, h6⟩ ho
  simp only at h1 h2 h3 h4 h5 h6
  rw [show (EFB κ).P = Pr κ from rfl]
  refine Eq.mpr (xGB κ ⟨R, i, j, es, P, ws⟩ _ _ K) ?_
  simp only [maxI] at h1
  simp only [outGB, Out.run] at ho
  simp only [Nat.zero_add]
  have hP : P.length = i.toNat := by
    have := congrArg List.length h5
    rw [List.length_take, strs_len] at this; omega
  have fin : ∀ (s : ByteArray) (l : List ByteArray), ws = s :: l → j < R.length → nth R j.toNat = .lit (.string s) →
      (keepB es s = false → ∃ m, m < R.length - j.toNat ∧ invOf stGB sideGB outGB (fun a => a.R.length - a.j.toNat) K m (stGB ⟨R, i, j + 1, es, P, l⟩)) ∧
      (keepB es s = true → ∃ m, m < R.length - j.toNat ∧ invOf stGB sideGB outGB (fun a => a.R.length - a.j.toNat) K m (stGB ⟨setN R i.toNat (.lit (.string s)), i + 1, j + 1, es, P ++ [s], l⟩)) := by
    rintro s l rfl hj hn
    obtain ⟨_, _, h7⟩ := nth_drop_cons (l := strs l) h6
    refine ⟨fun e => ⟨_, ?_, _, rfl, ⟨by simpa [maxI] using h1, h2, by simp only; omega, by simp only; omega, h5, ?_⟩, rfl, ?_⟩, fun e => ⟨_, ?_, _, rfl, ⟨by simpa [maxI, setN_len] using h1, by simp only; omega, by simp only; omega, by simp only [setN_len]; omega, ?_, ?_⟩, rfl, ?_⟩⟩
    · simp only; omega
    · simp only [show (j + 1).toNat = j.toNat + 1 by omega]; exact h7
    · intro y hy
      have := ho y
      simp only [List.filter_cons, e, Bool.false_eq_true, if_false] at hy this ⊢
      exact this hy
    · simp only [setN_len]; omega
    · simp only [show (i + 1).toNat = i.toNat + 1 by omega]
      rw [setN_take _ _ _ (by omega), h5, strs_app]; rfl
    · simp only [show (j + 1).toNat = j.toNat + 1 by omega]
      rw [setN_drop _ _ _ _ (by omega)]; exact h7
    · intro y hy
      have := ho y
      simp only [List.filter_cons, e, if_true, setN_len, List.append_assoc, List.singleton_append] at hy this ⊢
      exact this hy
  simp only [brn_iff, cnd_iff, decide_eq_true_eq, decide_eq_false_iff_not, Bool.and_eq_true, Bool.not_eq_true', Bool.not_eq_false']
  refine ⟨fun hj => ⟨⟨by omega, hj⟩, ?_⟩, fun hj => ?_⟩
  · cases ws with
    | nil =>
      have := congrArg List.length h6
      rw [List.length_drop, strs_len] at this
      simp at this; omega
    | cons s l =>
      obtain ⟨_, hn, _⟩ := nth_drop_cons (l := strs l) h6
      have hn' : toStr (nth R j.toNat) = s := by rw [hn]; rfl
      have hf := fin s l rfl hj hn
      simp only [stGB, setN_len] at hf
      rw [wrap_ok (n := i + 1) (by omega) (by omega), wrap_ok (n := j + 1) (by omega) (by omega), hn']
      exact ⟨fun e => ⟨⟨by omega, by omega⟩, hf.2 e⟩, fun e => hf.1 e⟩
  · have hw : ws = [] := by
      have := congrArg List.length h6
      rw [List.length_drop, strs_len] at this
      cases ws with
      | nil => rfl
      | cons => simp at this; omega
    subst hw
    have := ho R ⟨rfl, by simp only [List.filter_nil, List.append_nil, hP]; exact h5⟩
    simp only [List.filter_nil, List.append_nil, hP, Int.toNat_of_nonneg h2] at this
    exact this
noncomputable def EGB (κ : Kp) : Env := (EFB κ).addLoop 33 5 (loopE 3 stGB sideGB outGB)
theorem eGB (κ : Kp) : EnvOK (EGB κ) := (eFB κ).addLoop (mFB κ) (lGB κ)
theorem mGB (κ : Kp) : EnvMono (EGB κ) := (mFB κ).addLoop loopE_mono
theorem yGB (κ : Kp) (a : DB) (K : AV → List Dn.Obj → Prop) : (funA (EGB κ) 12 33 [.slc 0 0 (strs a.vs).length, cloB] (strB (strs a.vs) a.es) K) = (
  loopCode (Pg.toProgram (Env.P (E39l κ))) 59 2 = loopCode (Pg.toProgram (Env.P (E39l κ))) 59 2 ∧ ∃ (a_1 : DB), sp 19 [(0, AV.slc 0 0 (List.length (strs (DB.vs
  a)))), (1, AV.clo 35 [AV.ptr 1 0 [] 0]), (7, AV.int (↑(List.length (strs (DB.vs a))) : Int)), (8, AV.int 0)] [Obj.row 9 (strs (DB.vs a)), Obj.box 65 (AV.mp 2),
  Dn.Obj.map 9 4 (DB.es a)] = sp 19 [(0, AV.slc 0 0 (List.length (strs (DB.vs a_1)))), (1, AV.clo 35 [AV.ptr 1 0 [] 0]), (7, AV.int (↑(List.length (strs (DB.vs
  a_1))) : Int)), (8, AV.int (DB.i a_1))] [Obj.row 9 (strs (DB.vs a_1)), Obj.box 65 (AV.mp 2), Dn.Obj.map 9 4 (DB.es a_1)] ∧ (List.length (DB.vs a_1) ≤
  9223372036854775807 ∧ (0 : Int) ≤ DB.i a_1 ∧ DB.i a_1 ≤ (↑(List.length (DB.vs a_1)) : Int) ∧ ∀ (s : ByteArray), List.Mem s (List.take (Int.toNat (DB.i a_1))
  (DB.vs a_1)) → keepB (DB.es a_1) s = true) ∧ brn (List.all (DB.vs a_1) (keepB (DB.es a_1))) (K (AV.lst 9 (List.take (List.length (strs (DB.vs a))) (List.drop 0
  (strs (DB.vs a_1))))) [Obj.frz 9 (strs (DB.vs a_1)), Obj.box 65 (AV.mp 2), Dn.Obj.map 9 4 (DB.es a_1)]) (∀ (y : Int), ((0 : Int) ≤ y ∧ ∃ (h : Int.toNat y <
  List.length (DB.vs a_1)), (∀ (s : ByteArray), List.Mem s (List.take (Int.toNat y) (DB.vs a_1)) → keepB (DB.es a_1) s = true) ∧ keepB (DB.es a_1) (DB.vs
  a_1)[Int.toNat y] = false) → brn (y == (-1 : Int)) (K (AV.lst 9 (List.take (List.length (strs (DB.vs a))) (List.drop 0 (strs (DB.vs a_1))))) [Obj.frz 9 (strs
  (DB.vs a_1)), Obj.box 65 (AV.mp 2), Dn.Obj.map 9 4 (DB.es a_1)]) (loopCode (Pg.toProgram (Env.P (EFB κ))) 33 5 = loopCode (Pg.toProgram (Env.P (EFB κ))) 33 5 ∧
  ∃ (a_3 : GB), sp 42 [(0, AV.slc 0 0 (List.length (strs (DB.vs a)))), (1, AV.clo 35 [AV.ptr 1 0 [] 0]), (5, AV.int y), (6, AV.int (IntKind.wrap IntKind.i64 (y +
  (1 : Int))))] [Obj.row 9 (strs (DB.vs a_1)), Obj.box 65 (AV.mp 2), Dn.Obj.map 9 4 (DB.es a_1)] = sp 42 [(0, AV.slc 0 0 (List.length (GB.R a_3))), (1, AV.clo 35
  [AV.ptr 1 0 [] 0]), (5, AV.int (GB.i a_3)), (6, AV.int (GB.j a_3))] [Obj.row 9 (GB.R a_3), Obj.box 65 (AV.mp 2), Dn.Obj.map 9 4 (GB.es a_3)] ∧ (List.length
  (GB.R a_3) ≤ 9223372036854775807 ∧ (0 : Int) ≤ GB.i a_3 ∧ GB.i a_3 < GB.j a_3 ∧ GB.j a_3 ≤ (↑(List.length (GB.R a_3)) : Int) ∧ List.take (Int.toNat (GB.i a_3))
  (GB.R a_3) = strs (GB.P a_3) ∧ List.drop (Int.toNat (GB.j a_3)) (GB.R a_3) = strs (GB.ws a_3)) ∧ ∀ (y : List AV), List.length y = List.length (GB.R a_3) ∧
  List.take (List.length (GB.P a_3 ++ List.filter (keepB (GB.es a_3)) (GB.ws a_3))) y = strs (GB.P a_3 ++ List.filter (keepB (GB.es a_3)) (GB.ws a_3)) → cnd
  (true && decide ((↑(List.length (GB.P a_3 ++ List.filter (keepB (GB.es a_3)) (GB.ws a_3))) : Int) ≤ (↑(List.length (GB.R a_3)) : Int)) && decide
  ((↑(List.length (GB.R a_3)) : Int) ≤ (↑(List.length (GB.R a_3)) : Int))) (cnd (true && decide ((↑(List.length (GB.P a_3 ++ List.filter (keepB (GB.es a_3))
  (GB.ws a_3))) : Int) ≤ (↑(List.length (GB.R a_3)) : Int))) (K (AV.lst 9 (List.take (Int.toNat ((↑(List.length (GB.P a_3 ++ List.filter (keepB (GB.es a_3))
  (GB.ws a_3))) : Int) - (0 : Int))) (List.drop 0 (clearL y (0 + Int.toNat (↑(List.length (GB.P a_3 ++ List.filter (keepB (GB.es a_3)) (GB.ws a_3))) : Int))
  (Int.toNat ((↑(List.length (GB.R a_3)) : Int) - (↑(List.length (GB.P a_3 ++ List.filter (keepB (GB.es a_3)) (GB.ws a_3))) : Int))) (AV.str { data := #[] })))))
  [Obj.frz 9 (clearL y (0 + Int.toNat (↑(List.length (GB.P a_3 ++ List.filter (keepB (GB.es a_3)) (GB.ws a_3))) : Int)) (Int.toNat ((↑(List.length (GB.R a_3)) :
  Int) - (↑(List.length (GB.P a_3 ++ List.filter (keepB (GB.es a_3)) (GB.ws a_3))) : Int))) (AV.str { data := #[] })), Obj.box 65 (AV.mp 2), Dn.Obj.map 9 4
  (GB.es a_3)]))))) := by kernel_rfl
def st25B (a : DB) : List AV × List Dn.Obj := ([.slc 0 0 a.vs.length, cloB], strB (strs a.vs) a.es)
def side25B (a : DB) : Prop := a.vs.length ≤ maxI
def out25B (a : DB) : Out (AV × List Dn.Obj) := .all (fun _ : List AV => True) fun R => .one (.lst 9 (strs (a.vs.filter (keepB a.es))), [.frz 9 R, .box 65 (.mp 2), .map 9 4 a.es])
theorem c25B (κ : Kp) : CallOk (EGB κ) 12 33 (callE st25B side25B out25B) := by
  refine callE_ok ?_
  rintro ⟨vs, i, es⟩ K h1 ho
  simp only [side25B] at h1
  simp only [st25B]
  rw [← strs_len vs]
  refine Eq.mpr (yGB κ ⟨vs, i, es⟩ K) ?_
  refine ⟨rfl, ⟨vs, 0, es⟩, rfl, ⟨h1, by simp only; omega, by simp only; omega, fun s hs => nomatch hs⟩, ?_⟩
  rw [brn_iff]
  refine ⟨fun e => ?_, fun e y hy => ?_⟩
  · have hf : vs.filter (keepB es) = vs := List.filter_eq_self.2 (List.all_eq_true.1 e)
    have := ho (strs vs) trivial
    simp only [hf] at this
    rw [List.drop_zero, List.take_length]
    exact this
  · have hF := filter_first hy
    obtain ⟨h0, h2, h3, h4⟩ := hy
    simp only at h0 h2
    simp only [maxI] at h1
    rw [brn_iff, beq_iff_eq, beq_eq_false_iff_ne]
    refine ⟨fun e2 => by omega, fun _ => ⟨rfl, ⟨strs vs, y, y + 1, es, vs.take y.toNat, vs.drop (y.toNat + 1)⟩, ?_, ⟨by simp only [strs_len]; omega, h0, by simp only; omega, by simp only [strs_len]; omega, ?_, ?_⟩, ?_⟩⟩
    · rw [wrap_ok (n := y + 1) (by omega) (by omega)]
    · simp only [strs, List.map_take]
    · simp only [strs, List.map_drop, show (y + 1).toNat = y.toNat + 1 by omega]
    · rintro R ⟨r1, r2⟩
      simp only at r1 r2
      rw [← hF] at r2 ⊢
      have hle : (vs.filter (keepB es)).length ≤ vs.length := List.length_filter_le _ _
      rw [cnd_iff, cnd_iff]
      refine ⟨by simp [strs_len, hle], by simp [strs_len, hle], ?_⟩
      have := ho (clearL R (0 + Int.toNat ((vs.filter (keepB es)).length : Int)) (Int.toNat (((strs vs).length : Int) - ((vs.filter (keepB es)).length : Int))) (.lit (.string (ByteArray.mk #[])))) trivial
      simp only [Int.toNat_natCast, Nat.zero_add, Int.sub_zero, List.drop_zero, clearL_take, r2] at this ⊢
      exact this
theorem d25B (κ : Kp) : ∀ args st K, callE st25B side25B out25B args st K → SimCall (Pr κ) 33 args st K := fun args st K h => fun_sound (eGB κ) (mGB κ) (c25B κ args st K h)
end Go.Proofs.YtpgahkbkfflkaaaGreatDoor
namespace Go.Proofs.YtpgahkbkfflkaaaGreatDoor
open Go Go.Dn Go.Rl Go.Proofs
attribute [local irreducible] funA vc
set_option maxRecDepth 20000
structure A10 where
  a : A45
  ws : List Nat
  n : Nat
  i : Int
  vs : List ByteArray
abbrev st10l (a : A10) : S := sp 48 [(2, .ptr 0 0 [] 0), (8, .ptr 1 0 [] 0), (32, .slc 3 0 a.n), (33, .int a.n), (34, .int a.i)] [.box 27 (rl45 a.a), .box 65 (.mp 2), .map 9 4 (setE a.vs), .row 3 (ints a.ws)]
theorem x10 (κ : Kp) (a : A10) (ws : List AV) (es : List (Value × AV)) (I : Nat → S → Prop) (n : Nat) (K : Exit → S → Prop) : (vc (E7 κ) 12 12 none 0 (loopCode (Pr κ).toProgram 12 8) (sp 48 [(2, .ptr 0 0 [] 0), (8, .ptr 1 0 [] 0), (32, .slc 3 0 a.n), (33, .int a.n), (34, .int a.i)] [.box 27 (rl45 a.a), .box 65 (.mp 2), .map 9 4 es, .row 3 ws]) (loopK (E7 κ) 12 8 0 I n K)) = (
  brn (decide (A10.i a < (↑(A10.n a) : Int))) (cnd (decide ((0 : Int) ≤ A10.i a) && decide (A10.i a < (↑(A10.n a) : Int))) ((∃ (a_1 : A45 × Int), ([AV.agg [AV.agg
  [AV.str (A45.rel (A10.a a)), AV.lst 43 (A45.hl (A10.a a))], AV.lst 46 (A45.bl (A10.a a)), AV.int (A45.line (A10.a a))], AV.int (toInt (nth ws (0 + Int.toNat
  (A10.i a))))], nilO) = ([AV.agg [AV.agg [AV.str (A45.rel (Prod.fst a_1)), AV.lst 43 (A45.hl (Prod.fst a_1))], AV.lst 46 (A45.bl (Prod.fst a_1)), AV.int
  (A45.line (Prod.fst a_1))], AV.int (Prod.snd a_1)], nilO) ∧ (rightR (rOf (Prod.fst a_1)) = true ∧ (cntL (tmsOf (ruleTs 43 (A45.hl (Prod.fst a_1)) (A45.bl
  (Prod.fst a_1)))) ≤ 100000 ∧ List.length (A45.bl (Prod.fst a_1)) ≤ 100000) ∧ (0 : Int) ≤ Prod.snd a_1 ∧ Prod.snd a_1 < (↑(List.length (A45.bl (Prod.fst a_1)))
  : Int)) ∧ ∃ (a_2 : List AV × List (Value × AV)), ([AV.mp 0, AV.lst 9 (strs (gainsV (rOf (Prod.fst a_1)) (Int.toNat (Prod.snd a_1))))], [Dn.Obj.map 9 4 es]) =
  ([AV.mp 0, AV.lst 9 (Prod.fst a_2)], [Dn.Obj.map 9 4 (Prod.snd a_2)]) ∧ side23 a_2 ∧ ∃ (m : Nat), m < n ∧ I m (sp 48 [(2, AV.ptr 0 0 [] 0), (8, AV.ptr 1 0 []
  0), (32, AV.slc 3 0 (A10.n a)), (33, AV.int (↑(A10.n a) : Int)), (34, AV.int (IntKind.wrap IntKind.i64 (A10.i a + (1 : Int))))] [Obj.box 27 (AV.agg [AV.agg
  [AV.str (A45.rel (A10.a a)), AV.lst 43 (A45.hl (A10.a a))], AV.lst 46 (A45.bl (A10.a a)), AV.int (A45.line (A10.a a))]), Obj.box 65 (AV.mp 2), Dn.Obj.map 9 4
  (putL (Prod.snd a_2) (Prod.fst a_2)), Obj.row 3 ws])) ∧ ∃ (a_1 : A45 × Int), ([AV.agg [AV.agg [AV.str (A45.rel (A10.a a)), AV.lst 43 (A45.hl (A10.a a))],
  AV.lst 46 (A45.bl (A10.a a)), AV.int (A45.line (A10.a a))], AV.int (toInt (nth ws (0 + Int.toNat (A10.i a))))], nilO) = ([AV.agg [AV.agg [AV.str (A45.rel
  (Prod.fst a_1)), AV.lst 43 (A45.hl (Prod.fst a_1))], AV.lst 46 (A45.bl (Prod.fst a_1)), AV.int (A45.line (Prod.fst a_1))], AV.int (Prod.snd a_1)], nilO) ∧
  (rightR (rOf (Prod.fst a_1)) = true ∧ (cntL (tmsOf (ruleTs 43 (A45.hl (Prod.fst a_1)) (A45.bl (Prod.fst a_1)))) ≤ 100000 ∧ List.length (A45.bl (Prod.fst a_1))
  ≤ 100000) ∧ (0 : Int) ≤ Prod.snd a_1 ∧ Prod.snd a_1 < (↑(List.length (A45.bl (Prod.fst a_1))) : Int)) ∧ ∃ (a_2 : List AV × List (Value × AV)), ([AV.mp 0,
  AV.lst 9 (strs (gainsV (rOf (Prod.fst a_1)) (Int.toNat (Prod.snd a_1))))], [Dn.Obj.map 9 4 es]) = ([AV.mp 0, AV.lst 9 (Prod.fst a_2)], [Dn.Obj.map 9 4
  (Prod.snd a_2)]) ∧ side23 a_2 ∧ ∃ (m : Nat), m < n ∧ I m (sp 48 [(2, AV.ptr 0 0 [] 0), (8, AV.ptr 1 0 [] 0), (32, AV.slc 3 0 (A10.n a)), (33, AV.int (↑(A10.n
  a) : Int)), (34, AV.int (IntKind.wrap IntKind.i64 (A10.i a + (1 : Int))))] [Obj.box 27 (AV.agg [AV.agg [AV.str (A45.rel (A10.a a)), AV.lst 43 (A45.hl (A10.a
  a))], AV.lst 46 (A45.bl (A10.a a)), AV.int (A45.line (A10.a a))]), Obj.box 65 (AV.mp 2), Dn.Obj.map 9 4 (putL (Prod.snd a_2) (Prod.fst a_2)), Obj.row 3 ws])))
  (K (Exit.exit 1) (sp 48 [(2, AV.ptr 0 0 [] 0), (8, AV.ptr 1 0 [] 0)] [Obj.box 27 (AV.agg [AV.agg [AV.str (A45.rel (A10.a a)), AV.lst 43 (A45.hl (A10.a a))],
  AV.lst 46 (A45.bl (A10.a a)), AV.int (A45.line (A10.a a))]), Obj.box 65 (AV.mp 2), Dn.Obj.map 9 4 es]))) := by kernel_rfl
def side10l (a : A10) : Prop := rightR (rOf a.a) = true ∧ side42 a.a ∧ 0 ≤ a.i ∧ a.i ≤ a.n ∧ a.n ≤ a.ws.length ∧ a.ws.length ≤ a.a.bl.length ∧ ∀ k, k ∈ a.ws → k < a.a.bl.length
def out10l (a : A10) : Out (Exit × S) := .one (.exit 1, sp 48 [(2, .ptr 0 0 [] 0), (8, .ptr 1 0 [] 0)] [.box 27 (rl45 a.a), .box 65 (.mp 2), .map 9 4 (setE (a.vs ++ gainsL (rOf a.a) ((a.ws.take a.n).drop a.i.toNat)))])
theorem ints_nth (l : List Nat) (i : Nat) (h : i < l.length) : toInt (nth (ints l) i) = (l[i] : Int) := by
  rw [nth_get _ _ (by rw [ints_len]; exact h)]; simp [ints, toInt]
theorem l10 (κ : Kp) : LoopOk (E7 κ) 12 12 8 (loopE 0 st10l side10l out10l) := by
  refine loopE_ok (fun a => a.n - a.i.toNat) ?_
  rintro ⟨a, ws, n, i, vs⟩ K ⟨h1, h2, h3, h4, h5, h6, h7⟩ ho
  simp only at h1 h2 h3 h4 h5 h6 h7
  rw [show (E7 κ).P = Pr κ from rfl]
  refine Eq.mpr (x10 κ ⟨a, ws, n, i, vs⟩ (ints ws) (setE vs) _ _ K) ?_
  simp only [out10l, Out.run] at ho
  simp only [and_self, Nat.zero_add]
  have hl := h2.2
  rw [brn_iff, cnd_iff, Bool.and_eq_true, decide_eq_true_eq, decide_eq_true_eq, decide_eq_false_iff_not]
  refine ⟨fun hi => ⟨⟨h3, hi⟩, ?_⟩, fun hi => ?_⟩
  · have hi' : i.toNat < ws.length := by omega
    have hk := h7 _ (List.getElem_mem hi')
    have hg := gains_len h2 hk
    have hd : (ws.take n).drop i.toNat = ws[i.toNat] :: (ws.take n).drop (i.toNat + 1) := by
      rw [List.drop_eq_getElem_cons (by rw [List.length_take]; omega)]
      simp
    rw [hd] at ho
    rw [wrap_ok (n := i + 1) (by omega) (by omega), ints_nth ws _ hi']
    refine ⟨(a, (ws[i.toNat] : Int)), rfl, ⟨h1, h2, by simp only; omega, by simp only; omega⟩, (strs (gainsV (rOf a) ws[i.toNat]), setE vs), rfl, by simp only [side23, strs_len, maxI]; omega, _, ?_, ⟨a, ws, n, i + 1, vs ++ gainsV (rOf a) ws[i.toNat]⟩, ?_, ⟨h1, h2, by simp only; omega, by simp only; omega, h5, h6, h7⟩, rfl, ?_⟩
    · simp only; omega
    · simp only [setE_app]
    · simp only [out10l, Out.run, show (i + 1).toNat = i.toNat + 1 by omega]
      simpa only [gainsL, List.flatMap_cons, List.append_assoc] using ho
  · rw [List.drop_eq_nil_of_le (by rw [List.length_take]; omega)] at ho
    simpa [gainsL] using ho
noncomputable def E10l (κ : Kp) : Env := ((E7 κ).addLoop 12 8 (loopE 0 st10l side10l out10l)).addCall 33 (callE st25B side25B out25B)
theorem e10l (κ : Kp) : EnvOK (E10l κ) := ((e7 κ).addLoop (m7 κ) (l10 κ)).addSim (d25B κ)
theorem m10l (κ : Kp) : EnvMono (E10l κ) := ((m7 κ).addLoop loopE_mono).addCall callE_mono
theorem y10 (κ : Kp) (a : A45) (k : Int) (K : AV → List Dn.Obj → Prop) : (funA (E10l κ) 12 12 [rl45 a, .int k] [] K) = (
  ∃ (a_1 : A45), ([AV.agg [AV.agg [AV.str (A45.rel a), AV.lst 43 (A45.hl a)], AV.lst 46 (A45.bl a), AV.int (A45.line a)]], nilO) = ([AV.agg [AV.agg [AV.str
  (A45.rel a_1), AV.lst 43 (A45.hl a_1)], AV.lst 46 (A45.bl a_1), AV.int (A45.line a_1)]], nilO) ∧ (cntL (tmsOf (ruleTs 43 (A45.hl a_1) (A45.bl a_1))) ≤ 100000 ∧
  List.length (A45.bl a_1) ≤ 100000) ∧ brn (rightR (rOf a_1)) (brn (safeR (rOf a_1)) (brn (decide (k < (0 : Int))) (K (AV.tup [AV.nil, AV.int 2]) []) (brn
  (decide (k > (↑(List.length (walkR (rOf a_1))) : Int))) (K (AV.tup [AV.nil, AV.int 2]) []) (cnd (true && decide ((0 : Int) ≤ k) && decide (k ≤ (↑(List.length
  (walkR (rOf a_1))) : Int))) (loopCode (Pg.toProgram (Env.P (E7 κ))) 12 8 = loopCode (Pg.toProgram (Env.P (E7 κ))) 12 8 ∧ ∃ (a_2 : A10), sp 48 [(2, AV.ptr 0 0
  [] 0), (8, AV.ptr 1 0 [] 0), (32, AV.slc 3 0 (Int.toNat (k - (0 : Int)))), (33, AV.int (↑(Int.toNat (k - (0 : Int))) : Int)), (34, AV.int 0)] [Obj.box 27
  (AV.agg [AV.agg [AV.str (A45.rel a), AV.lst 43 (A45.hl a)], AV.lst 46 (A45.bl a), AV.int (A45.line a)]), Obj.box 65 (AV.mp 2), Dn.Obj.map 9 4 [], Obj.row 3
  (ints (walkR (rOf a_1)))] = sp 48 [(2, AV.ptr 0 0 [] 0), (8, AV.ptr 1 0 [] 0), (32, AV.slc 3 0 (A10.n a_2)), (33, AV.int (↑(A10.n a_2) : Int)), (34, AV.int
  (A10.i a_2))] [Obj.box 27 (AV.agg [AV.agg [AV.str (A45.rel (A10.a a_2)), AV.lst 43 (A45.hl (A10.a a_2))], AV.lst 46 (A45.bl (A10.a a_2)), AV.int (A45.line
  (A10.a a_2))]), Obj.box 65 (AV.mp 2), Dn.Obj.map 9 4 (setE (A10.vs a_2)), Obj.row 3 (ints (A10.ws a_2))] ∧ (rightR (rOf (A10.a a_2)) = true ∧ (cntL (tmsOf
  (ruleTs 43 (A45.hl (A10.a a_2)) (A45.bl (A10.a a_2)))) ≤ 100000 ∧ List.length (A45.bl (A10.a a_2)) ≤ 100000) ∧ (0 : Int) ≤ A10.i a_2 ∧ A10.i a_2 ≤ (↑(A10.n
  a_2) : Int) ∧ A10.n a_2 ≤ List.length (A10.ws a_2) ∧ List.length (A10.ws a_2) ≤ List.length (A45.bl (A10.a a_2)) ∧ ∀ (k : Nat), List.Mem k (A10.ws a_2) → k <
  List.length (A45.bl (A10.a a_2))) ∧ ∃ (a : A45), ([AV.agg [AV.agg [AV.str (A45.rel (A10.a a_2)), AV.lst 43 (A45.hl (A10.a a_2))], AV.lst 46 (A45.bl (A10.a
  a_2)), AV.int (A45.line (A10.a a_2))]], nilO) = ([AV.agg [AV.agg [AV.str (A45.rel a), AV.lst 43 (A45.hl a)], AV.lst 46 (A45.bl a), AV.int (A45.line a)]], nilO)
  ∧ (rightR (rOf a) = true ∧ cntL (tmsOf (ruleTs 43 (A45.hl a) (A45.bl a))) ≤ 100000 ∧ List.length (A45.bl a) ≤ 100000) ∧ ∃ (a_3 : DB), ([AV.slc 0 0 (List.length
  (varsR (rOf a))), AV.clo 35 [AV.ptr 1 0 [] 0]], [Obj.row 9 (strs (varsR (rOf a))), Obj.box 65 (AV.mp 2), Dn.Obj.map 9 4 (setE (A10.vs a_2 ++ gainsL (rOf (A10.a
  a_2)) (List.drop (Int.toNat (A10.i a_2)) (List.take (A10.n a_2) (A10.ws a_2)))))]) = ([AV.slc 0 0 (List.length (DB.vs a_3)), AV.clo 35 [AV.ptr 1 0 [] 0]],
  [Obj.row 9 (strs (DB.vs a_3)), Obj.box 65 (AV.mp 2), Dn.Obj.map 9 4 (DB.es a_3)]) ∧ side25B a_3 ∧ ∀ (y : List AV), True → K (AV.tup [AV.lst 9 (strs
  (List.filter (keepB (DB.es a_3)) (DB.vs a_3))), AV.int 0]) [])))) (K (AV.tup [AV.nil, AV.int 60]) [])) (K (AV.tup [AV.nil, AV.int 30]) [])) := by kernel_rfl
def st10 (a : A45 × Int) : List AV × List Dn.Obj := ([rl45 a.1, .int a.2], [])
def side10 (a : A45 × Int) : Prop := side42 a.1
def out10 (a : A45 × Int) : Out (AV × List Dn.Obj) := .brn (rightR (rOf a.1)) (.brn (safeR (rOf a.1)) (.brn (decide (a.2 < 0) || decide (a.1.bl.length < a.2)) (.one (.tup [.nil, .int 2], []))
  (.one (.tup [.lst 9 (strs (boundV (rOf a.1) a.2.toNat)), .int 0], []))) (.one (.tup [.nil, .int 60], []))) (.one (.tup [.nil, .int 30], []))
theorem walk_full {a : A45} (h : safeR (rOf a) = true) : (walkR (rOf a)).length = a.bl.length := by
  have h1 := walkR_len (rOf a)
  rw [body_len] at h1
  simp only [safeR, Bool.and_eq_true, decide_eq_true_eq, body_len] at h
  omega
theorem c10 (κ : Kp) : CallOk (E10l κ) 12 12 (callE st10 side10 out10) := by
  refine callE_ok ?_
  rintro ⟨a, k⟩ K h2 ho
  refine Eq.mpr (y10 κ a k K) ?_
  simp only [out10, Out.run, brn_iff] at ho
  have h2 : side42 a := h2
  have hl := h2.2
  refine ⟨a, rfl, h2, ?_⟩
  rw [brn_iff]
  refine ⟨fun e1 => ?_, fun e1 => ho.2 e1⟩
  rw [brn_iff]
  refine ⟨fun e2 => ?_, fun e2 => (ho.1 e1).2 e2⟩
  have hw := walk_full e2
  have ho1 := (ho.1 e1).1 e2
  rw [brn_iff, decide_eq_true_eq, decide_eq_false_iff_not]
  refine ⟨fun e3 => ho1.1 (by rw [decide_eq_true e3]; rfl), fun e3 => ?_⟩
  rw [brn_iff, decide_eq_true_eq, decide_eq_false_iff_not, hw]
  refine ⟨fun e4 => ho1.1 (by rw [decide_eq_true (show (a.bl.length : Int) < k from e4)]; simp), fun e4 => ?_⟩
  have ho2 := ho1.2 (by rw [decide_eq_false e3, decide_eq_false (show ¬ (a.bl.length : Int) < k from e4)]; rfl)
  simp only [cnd_iff, Bool.and_eq_true, decide_eq_true_eq, Int.sub_zero]
  have h5 : (ruleV (rOf a)).length ≤ 100000 := by
    have h6 := varsL_le (tmsOf (ruleTs 43 a.hl a.bl))
    rw [ruleTs_vars 43 a.rel a.hl a.bl] at h6
    exact Nat.le_trans h6 h2.1
  have h7 := ddup_len (ruleV (rOf a)) []
  refine ⟨⟨⟨trivial, by omega⟩, by omega⟩, trivial, ⟨a, walkR (rOf a), k.toNat, 0, []⟩, rfl, ⟨e1, h2, by simp only; omega, by simp only; omega, by simp only; omega, by simp only; omega, fun j hj => by have := walkR_lt hj; rwa [body_len] at this⟩, a, rfl, ⟨e1, h2⟩, ⟨varsR (rOf a), 0, setE ([] ++ gainsL (rOf a) (((walkR (rOf a)).take k.toNat).drop (Int.toNat 0)))⟩, rfl, ?_, ?_⟩
  · simp only [side25B, varsR, e1, cond_true, maxI]; omega
  · intro R _
    have hk3 : List.filter (keepB (setE ([] ++ gainsL (rOf a) (((walkR (rOf a)).take k.toNat).drop (Int.toNat 0))))) (varsR (rOf a)) = boundV (rOf a) k.toNat := by
      unfold boundV
      refine congrFun (congrArg _ ?_) _
      funext s
      unfold keepB
      rw [inS_set]; rfl
    simp only [hk3]
    exact ho2
noncomputable def E10 (κ : Kp) : Env := (E10l κ).addCall 12 (callE st10 side10 out10)
theorem e10 (κ : Kp) : EnvOK (E10 κ) := (e10l κ).addCall (m10l κ) (c10 κ)
theorem m10 (κ : Kp) : EnvMono (E10 κ) := (m10l κ).addCall callE_mono
end Go.Proofs.YtpgahkbkfflkaaaGreatDoor
