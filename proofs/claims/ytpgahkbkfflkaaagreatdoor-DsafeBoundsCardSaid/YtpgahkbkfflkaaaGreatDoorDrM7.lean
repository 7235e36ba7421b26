import Derived.Test.YtpgahkbkfflkaaaGreatDoorDrM6
namespace Go.Proofs.YtpgahkbkfflkaaaGreatDoor
open Go Go.Dn Go.Rl Go.Proofs
attribute [local irreducible] funA vc
set_option maxRecDepth 20000
abbrev AA := ByteArray × List AV
abbrev atA' (a : AA) : AV := .agg [.lit (.string a.1), .lst 43 a.2]
def AA.at (a : AA) : At := ⟨a.1, tmsOf a.2⟩
theorem xAV (κ : Kp) (a : AA) (o : List AV) (i : Int) (I : Nat → S → Prop) (n : Nat) (K : Exit → S → Prop) : (vc (ET κ) 12 26 none 0 (loopCode (Pr κ).toProgram 26 3) (sp 21 [(1, .ptr 0 0 [] 0), (3, .lst 9 o), (4, .int i)] [.box 24 (atA' a)]) (loopK (ET κ) 26 3 0 I n K)) = (
  brn (decide (i < (↑(List.length (Prod.snd a)) : Int))) (cnd (decide ((0 : Int) ≤ i) && decide (i < (↑(List.length (Prod.snd a)) : Int))) (∃ (a_1 : AT), ([AV.agg
  [AV.int (toInt (fld (nth (Prod.snd a) (Int.toNat i)) 0)), AV.str (toStr (fld (nth (Prod.snd a) (Int.toNat i)) 1)), AV.int (toInt (fld (nth (Prod.snd a)
  (Int.toNat i)) 2)), AV.lst 43 (toLst (fld (nth (Prod.snd a) (Int.toNat i)) 3))]], nilO) = ([AV.agg [AV.int (AT.op a_1), AV.str (AT.s a_1), AV.int (AT.n a_1),
  AV.lst 43 (AT.l a_1)]], nilO) ∧ sideTa a_1 ∧ ∃ (a_2 : List ByteArray × List ByteArray), ([AV.lst 9 o, AV.lst 9 (strs (Tm.rv (AT.tm a_1)))], nilO) = ([AV.lst 9
  (strs (Prod.fst a_2)), AV.lst 9 (strs (Prod.snd a_2))], nilO) ∧ (List.length (Prod.fst a_2) ≤ 1000000 ∧ List.length (Prod.snd a_2) ≤ 1000000) ∧ ∃ (m : Nat), m
  < n ∧ I m (sp 21 [(1, AV.ptr 0 0 [] 0), (3, AV.lst 9 (strs (withB (Prod.fst a_2) (Prod.snd a_2)))), (4, AV.int (IntKind.wrap IntKind.i64 (i + (1 : Int))))]
  [Obj.box 24 (AV.agg [AV.str (Prod.fst a), AV.lst 43 (Prod.snd a)])]))) (K (Exit.exit 0) (sp 21 [(3, AV.lst 9 o)] []))) := by kernel_rfl
abbrev AAl := AA × List ByteArray × Int
abbrev stAl (a : AAl) : S := sp 21 [(1, .ptr 0 0 [] 0), (3, .lst 9 (strs a.2.1)), (4, .int a.2.2)] [.box 24 (atA' a.1)]
def sideAl (a : AAl) : Prop := a.1.2.length ≤ maxI ∧ 0 ≤ a.2.2 ∧ a.2.2 ≤ a.1.2.length ∧ a.2.1.length + cntL (tmsOf (a.1.2.drop a.2.2.toNat)) ≤ 100000
def outAl (a : AAl) : Out (Exit × S) := .one (.exit 0, sp 21 [(3, .lst 9 (strs (rvL (tmsOf (a.1.2.drop a.2.2.toNat)) a.2.1)))] [])
theorem lAV (κ : Kp) : LoopOk (ET κ) 12 26 3 (loopE 0 stAl sideAl outAl) := by
  refine loopE_ok (fun a => a.1.2.length - a.2.2.toNat) ?_
  rintro ⟨⟨rel, l⟩, o, i⟩ K ⟨h1, h2, h3, h5⟩ ho
  simp only at h1 h2 h3 h5
  rw [show (ET κ).P = Pr κ from rfl]
  refine Eq.mpr (xAV κ (rel, l) (strs o) i _ _ K) ?_
  simp only [maxI] at h1
  simp only [outAl, Out.run] at ho
  simp only [brn_iff, cnd_iff, decide_eq_true_eq, decide_eq_false_iff_not, Bool.and_eq_true]
  refine ⟨fun hi => ?_, fun hi => ?_⟩
  · have hk : i.toNat < l.length := by omega
    have e := tms_drop l i.toNat hk
    rw [e, cntL] at h5
    rw [e, rvL] at ho
    have hl := Tm.rv_len (tmOf (nth l i.toNat))
    have hw := withB_len o (tmOf (nth l i.toNat)).rv
    rw [wrap_ok (n := i + 1) (by omega) (by omega)]
    refine ⟨⟨h2, hi⟩, atv (nth l i.toNat), rfl, by rw [sideTa, atv_tm]; omega, (o, (tmOf (nth l i.toNat)).rv), by rw [atv_tm], ⟨by simp only; omega, by simp only; omega⟩, _, ?_, ((rel, l), withB o (tmOf (nth l i.toNat)).rv, i + 1), rfl, ⟨by simpa [maxI] using h1, by simp only; omega, by simp only; omega, ?_⟩, rfl, ?_⟩
    · simp only; omega
    · simp only [show (i + 1).toNat = i.toNat + 1 by omega]; omega
    · simp only [outAl, Out.run, show (i + 1).toNat = i.toNat + 1 by omega]
      exact ho
  · rw [List.drop_eq_nil_of_le (by omega)] at ho
    exact ho
noncomputable def EAl (κ : Kp) : Env := (ET κ).addLoop 26 3 (loopE 0 stAl sideAl outAl)
theorem eAl (κ : Kp) : EnvOK (EAl κ) := (eT κ).addLoop (mT κ) (lAV κ)
theorem mAl (κ : Kp) : EnvMono (EAl κ) := (mT κ).addLoop loopE_mono
theorem yAV (κ : Kp) (a : AA) (K : AV → List Dn.Obj → Prop) : (funA (EAl κ) 12 26 [atA' a] [] K) = (
  loopCode (Pg.toProgram (Env.P (ET κ))) 26 3 = loopCode (Pg.toProgram (Env.P (ET κ))) 26 3 ∧ ∃ (a_1 : AAl), sp 21 [(1, AV.ptr 0 0 [] 0), (3, AV.lst 9 []), (4,
  AV.int 0)] [Obj.box 24 (AV.agg [AV.str (Prod.fst a), AV.lst 43 (Prod.snd a)])] = sp 21 [(1, AV.ptr 0 0 [] 0), (3, AV.lst 9 (strs (Prod.fst (Prod.snd a_1)))),
  (4, AV.int (Prod.snd (Prod.snd a_1)))] [Obj.box 24 (AV.agg [AV.str (Prod.fst (Prod.fst a_1)), AV.lst 43 (Prod.snd (Prod.fst a_1))])] ∧ (List.length (Prod.snd
  (Prod.fst a_1)) ≤ 9223372036854775807 ∧ (0 : Int) ≤ Prod.snd (Prod.snd a_1) ∧ Prod.snd (Prod.snd a_1) ≤ (↑(List.length (Prod.snd (Prod.fst a_1))) : Int) ∧
  List.length (Prod.fst (Prod.snd a_1)) + cntL (tmsOf (List.drop (Int.toNat (Prod.snd (Prod.snd a_1))) (Prod.snd (Prod.fst a_1)))) ≤ 100000) ∧ K (AV.lst 9 (strs
  (rvL (tmsOf (List.drop (Int.toNat (Prod.snd (Prod.snd a_1))) (Prod.snd (Prod.fst a_1)))) (Prod.fst (Prod.snd a_1))))) []) := by kernel_rfl
def stAA (a : AA) : List AV × List Dn.Obj := ([atA' a], [])
def sideAA (a : AA) : Prop := cntL (tmsOf a.2) ≤ 100000
def outAA (a : AA) : Out (AV × List Dn.Obj) := .one (.lst 9 (strs (atomR a.at)), [])
theorem cAV (κ : Kp) : CallOk (EAl κ) 12 26 (callE stAA sideAA outAA) := by
  refine callE_ok ?_
  rintro a K h1 ho
  refine Eq.mpr (yAV κ a K) ?_
  have ho' : K (.lst 9 (strs (rvL (tmsOf a.2) []))) [] := ho
  have hl := len_cntL (tmsOf a.2)
  rw [tms_len] at hl
  unfold sideAA at h1
  refine ⟨rfl, (a, [], 0), rfl, ⟨by simp only; omega, by simp only; omega, by simp only; omega, ?_⟩, ?_⟩
  · simp only [Int.toNat_zero, List.drop_zero, List.length_nil]; omega
  · simp only [Int.toNat_zero, List.drop_zero]
    exact ho'
noncomputable def EA (κ : Kp) : Env := (EAl κ).addCall 26 (callE stAA sideAA outAA)
theorem eA (κ : Kp) : EnvOK (EA κ) := (eAl κ).addCall (mAl κ) (cAV κ)
theorem mA (κ : Kp) : EnvMono (EA κ) := (mAl κ).addCall callE_mono
theorem yLV (κ : Kp) (a : LA) (K : AV → List Dn.Obj → Prop) : (funA (EA κ) 12 61 [a.av] [] K) = (
  (∃ (a_1 : AT), ([AV.agg [AV.int (LA.o1 a), AV.str (LA.s1 a), AV.int (LA.n1 a), AV.lst 43 (LA.l1 a)]], nilO) = ([AV.agg [AV.int (AT.op a_1), AV.str (AT.s a_1),
  AV.int (AT.n a_1), AV.lst 43 (AT.l a_1)]], nilO) ∧ sideTa a_1 ∧ ∃ (a_2 : AT), ([AV.agg [AV.int (LA.o2 a), AV.str (LA.s2 a), AV.int (LA.n2 a), AV.lst 43 (LA.l2
  a)]], nilO) = ([AV.agg [AV.int (AT.op a_2), AV.str (AT.s a_2), AV.int (AT.n a_2), AV.lst 43 (AT.l a_2)]], nilO) ∧ sideTa a_2 ∧ ∃ (a_3 : List ByteArray × List
  ByteArray), ([AV.lst 9 (strs (Tm.rv (AT.tm a_1))), AV.lst 9 (strs (Tm.rv (AT.tm a_2)))], nilO) = ([AV.lst 9 (strs (Prod.fst a_3)), AV.lst 9 (strs (Prod.snd
  a_3))], nilO) ∧ (List.length (Prod.fst a_3) ≤ 1000000 ∧ List.length (Prod.snd a_3) ≤ 1000000) ∧ ∃ (a_4 : AA), ([AV.agg [AV.str (LA.s a), AV.lst 43 (LA.l a)]],
  nilO) = ([AV.agg [AV.str (Prod.fst a_4), AV.lst 43 (Prod.snd a_4)]], nilO) ∧ sideAA a_4 ∧ ∃ (a : List ByteArray × List ByteArray), ([AV.lst 9 (strs (withB
  (Prod.fst a_3) (Prod.snd a_3))), AV.lst 9 (strs (atomR (AA.at a_4)))], nilO) = ([AV.lst 9 (strs (Prod.fst a)), AV.lst 9 (strs (Prod.snd a))], nilO) ∧
  (List.length (Prod.fst a) ≤ 1000000 ∧ List.length (Prod.snd a) ≤ 1000000) ∧ K (AV.lst 9 (strs (withB (Prod.fst a) (Prod.snd a)))) []) ∧ (∃ (a_1 : AT), ([AV.agg
  [AV.int (LA.o1 a), AV.str (LA.s1 a), AV.int (LA.n1 a), AV.lst 43 (LA.l1 a)]], nilO) = ([AV.agg [AV.int (AT.op a_1), AV.str (AT.s a_1), AV.int (AT.n a_1),
  AV.lst 43 (AT.l a_1)]], nilO) ∧ sideTa a_1 ∧ ∃ (a_2 : AT), ([AV.agg [AV.int (LA.o2 a), AV.str (LA.s2 a), AV.int (LA.n2 a), AV.lst 43 (LA.l2 a)]], nilO) =
  ([AV.agg [AV.int (AT.op a_2), AV.str (AT.s a_2), AV.int (AT.n a_2), AV.lst 43 (AT.l a_2)]], nilO) ∧ sideTa a_2 ∧ ∃ (a_3 : List ByteArray × List ByteArray),
  ([AV.lst 9 (strs (Tm.rv (AT.tm a_1))), AV.lst 9 (strs (Tm.rv (AT.tm a_2)))], nilO) = ([AV.lst 9 (strs (Prod.fst a_3)), AV.lst 9 (strs (Prod.snd a_3))], nilO) ∧
  (List.length (Prod.fst a_3) ≤ 1000000 ∧ List.length (Prod.snd a_3) ≤ 1000000) ∧ ∃ (a_4 : AA), ([AV.agg [AV.str (LA.s a), AV.lst 43 (LA.l a)]], nilO) = ([AV.agg
  [AV.str (Prod.fst a_4), AV.lst 43 (Prod.snd a_4)]], nilO) ∧ sideAA a_4 ∧ ∃ (a : List ByteArray × List ByteArray), ([AV.lst 9 (strs (withB (Prod.fst a_3)
  (Prod.snd a_3))), AV.lst 9 (strs (atomR (AA.at a_4)))], nilO) = ([AV.lst 9 (strs (Prod.fst a)), AV.lst 9 (strs (Prod.snd a))], nilO) ∧ (List.length (Prod.fst
  a) ≤ 1000000 ∧ List.length (Prod.snd a) ≤ 1000000) ∧ K (AV.lst 9 (strs (withB (Prod.fst a) (Prod.snd a)))) []) ∧ ∃ (a_1 : AT), ([AV.agg [AV.int (LA.o1 a),
  AV.str (LA.s1 a), AV.int (LA.n1 a), AV.lst 43 (LA.l1 a)]], nilO) = ([AV.agg [AV.int (AT.op a_1), AV.str (AT.s a_1), AV.int (AT.n a_1), AV.lst 43 (AT.l a_1)]],
  nilO) ∧ sideTa a_1 ∧ ∃ (a_2 : AT), ([AV.agg [AV.int (LA.o2 a), AV.str (LA.s2 a), AV.int (LA.n2 a), AV.lst 43 (LA.l2 a)]], nilO) = ([AV.agg [AV.int (AT.op a_2),
  AV.str (AT.s a_2), AV.int (AT.n a_2), AV.lst 43 (AT.l a_2)]], nilO) ∧ sideTa a_2 ∧ ∃ (a_3 : List ByteArray × List ByteArray), ([AV.lst 9 (strs (Tm.rv (AT.tm
  a_1))), AV.lst 9 (strs (Tm.rv (AT.tm a_2)))], nilO) = ([AV.lst 9 (strs (Prod.fst a_3)), AV.lst 9 (strs (Prod.snd a_3))], nilO) ∧ (List.length (Prod.fst a_3) ≤
  1000000 ∧ List.length (Prod.snd a_3) ≤ 1000000) ∧ ∃ (a_4 : AA), ([AV.agg [AV.str (LA.s a), AV.lst 43 (LA.l a)]], nilO) = ([AV.agg [AV.str (Prod.fst a_4),
  AV.lst 43 (Prod.snd a_4)]], nilO) ∧ sideAA a_4 ∧ ∃ (a : List ByteArray × List ByteArray), ([AV.lst 9 (strs (withB (Prod.fst a_3) (Prod.snd a_3))), AV.lst 9
  (strs (atomR (AA.at a_4)))], nilO) = ([AV.lst 9 (strs (Prod.fst a)), AV.lst 9 (strs (Prod.snd a))], nilO) ∧ (List.length (Prod.fst a) ≤ 1000000 ∧ List.length
  (Prod.snd a) ≤ 1000000) ∧ K (AV.lst 9 (strs (withB (Prod.fst a) (Prod.snd a)))) []) := by kernel_rfl
def stLV (a : LA) : List AV × List Dn.Obj := ([a.av], [])
def sideLV (a : LA) : Prop := litC a.lt ≤ 100000
def outLV (a : LA) : Out (AV × List Dn.Obj) := .one (.lst 9 (strs (litR a.lt)), [])
theorem cLV (κ : Kp) : CallOk (EA κ) 12 61 (callE stLV sideLV outLV) := by
  refine callE_ok ?_
  rintro a K h1 ho
  refine Eq.mpr (yLV κ a K) ?_
  simp only [outLV, Out.run] at ho
  obtain ⟨op, s, l, o1, s1, n1, l1, o2, s2, n2, l2⟩ := a
  have h1' : cntL [.mk o1 s1 n1 (tmsOf l1), .mk o2 s2 n2 (tmsOf l2)] + cntL (tmsOf l) ≤ 100000 := h1
  simp only [cntL] at h1'
  have k1 := Tm.rv_len (.mk o1 s1 n1 (tmsOf l1))
  have k2 := Tm.rv_len (.mk o2 s2 n2 (tmsOf l2))
  have k3 := withB_len (Tm.rv (.mk o1 s1 n1 (tmsOf l1))) (Tm.rv (.mk o2 s2 n2 (tmsOf l2)))
  have k4 := rvL_len (tmsOf l) []
  simp only [List.length_nil] at k4
  simp only [and_self]
  refine ⟨⟨o1, s1, n1, l1⟩, rfl, ?_, ⟨o2, s2, n2, l2⟩, rfl, ?_, (Tm.rv (.mk o1 s1 n1 (tmsOf l1)), Tm.rv (.mk o2 s2 n2 (tmsOf l2))), rfl, ⟨by simp only; omega, by simp only; omega⟩, (s, l), rfl, ?_, (withB (Tm.rv (.mk o1 s1 n1 (tmsOf l1))) (Tm.rv (.mk o2 s2 n2 (tmsOf l2))), atomR ⟨s, tmsOf l⟩), rfl, ⟨by simp only; omega, ?_⟩, ho⟩
  · show (Tm.mk o1 s1 n1 (tmsOf l1)).cnt ≤ 100000; omega
  · show (Tm.mk o2 s2 n2 (tmsOf l2)).cnt ≤ 100000; omega
  · show cntL (tmsOf l) ≤ 100000; omega
  · show (rvL (tmsOf l) []).length ≤ 1000000; omega
noncomputable def EL (κ : Kp) : Env := (EA κ).addCall 61 (callE stLV sideLV outLV)
theorem eL (κ : Kp) : EnvOK (EL κ) := (eA κ).addCall (mA κ) (cLV κ)
theorem mL (κ : Kp) : EnvMono (EL κ) := (mA κ).addCall callE_mono
abbrev AVl := A45 × List ByteArray × Int
theorem xVs (κ : Kp) (a : A45) (o : List AV) (i : Int) (I : Nat → S → Prop) (n : Nat) (K : Exit → S → Prop) : (vc (EL κ) 12 36 none 0 (loopCode (Pr κ).toProgram 36 6) (sp 29 [(1, .ptr 0 0 [] 0), (4, .lst 9 o), (5, .int i)] [.box 27 (rl45 a)]) (loopK (EL κ) 36 6 0 I n K)) = (
  brn (decide (i < (↑(List.length (A45.bl a)) : Int))) (cnd (decide ((0 : Int) ≤ i) && decide (i < (↑(List.length (A45.bl a)) : Int))) (∃ (a_1 : LA), ([AV.agg
  [AV.int (toInt (fld (nth (A45.bl a) (Int.toNat i)) 0)), AV.agg [AV.str (toStr (fld (fld (nth (A45.bl a) (Int.toNat i)) 1) 0)), AV.lst 43 (toLst (fld (fld (nth
  (A45.bl a) (Int.toNat i)) 1) 1))], AV.agg [AV.int (toInt (fld (fld (nth (A45.bl a) (Int.toNat i)) 2) 0)), AV.str (toStr (fld (fld (nth (A45.bl a) (Int.toNat
  i)) 2) 1)), AV.int (toInt (fld (fld (nth (A45.bl a) (Int.toNat i)) 2) 2)), AV.lst 43 (toLst (fld (fld (nth (A45.bl a) (Int.toNat i)) 2) 3))], AV.agg [AV.int
  (toInt (fld (fld (nth (A45.bl a) (Int.toNat i)) 3) 0)), AV.str (toStr (fld (fld (nth (A45.bl a) (Int.toNat i)) 3) 1)), AV.int (toInt (fld (fld (nth (A45.bl a)
  (Int.toNat i)) 3) 2)), AV.lst 43 (toLst (fld (fld (nth (A45.bl a) (Int.toNat i)) 3) 3))]]], nilO) = ([AV.agg [AV.int (LA.op a_1), AV.agg [AV.str (LA.s a_1),
  AV.lst 43 (LA.l a_1)], AV.agg [AV.int (LA.o1 a_1), AV.str (LA.s1 a_1), AV.int (LA.n1 a_1), AV.lst 43 (LA.l1 a_1)], AV.agg [AV.int (LA.o2 a_1), AV.str (LA.s2
  a_1), AV.int (LA.n2 a_1), AV.lst 43 (LA.l2 a_1)]]], nilO) ∧ sideLV a_1 ∧ ∃ (a_2 : List ByteArray × List ByteArray), ([AV.lst 9 o, AV.lst 9 (strs (litR (LA.lt
  a_1)))], nilO) = ([AV.lst 9 (strs (Prod.fst a_2)), AV.lst 9 (strs (Prod.snd a_2))], nilO) ∧ (List.length (Prod.fst a_2) ≤ 1000000 ∧ List.length (Prod.snd a_2)
  ≤ 1000000) ∧ ∃ (m : Nat), m < n ∧ I m (sp 29 [(1, AV.ptr 0 0 [] 0), (4, AV.lst 9 (strs (withB (Prod.fst a_2) (Prod.snd a_2)))), (5, AV.int (IntKind.wrap
  IntKind.i64 (i + (1 : Int))))] [Obj.box 27 (AV.agg [AV.agg [AV.str (A45.rel a), AV.lst 43 (A45.hl a)], AV.lst 46 (A45.bl a), AV.int (A45.line a)])]))) (K
  (Exit.exit 0) (sp 29 [(4, AV.lst 9 o)] []))) := by kernel_rfl
abbrev stVl (a : AVl) : S := sp 29 [(1, .ptr 0 0 [] 0), (4, .lst 9 (strs a.2.1)), (5, .int a.2.2)] [.box 27 (rl45 a.1)]
def sideVl (a : AVl) : Prop := side42 a.1 ∧ 0 ≤ a.2.2 ∧ a.2.2 ≤ a.1.bl.length ∧ a.2.1.length + ((ltsOf (a.1.bl.drop a.2.2.toNat)).map litC).sum ≤ 200000
def outVl (a : AVl) : Out (Exit × S) := .one (.exit 0, sp 29 [(4, .lst 9 (strs (litsR (ltsOf (a.1.bl.drop a.2.2.toNat)) a.2.1)))] [])
theorem lVs (κ : Kp) : LoopOk (EL κ) 12 36 6 (loopE 0 stVl sideVl outVl) := by
  refine loopE_ok (fun a => a.1.bl.length - a.2.2.toNat) ?_
  rintro ⟨a, o, i⟩ K ⟨h1, h2, h3, h5⟩ ho
  simp only at h1 h2 h3 h5
  rw [show (EL κ).P = Pr κ from rfl]
  refine Eq.mpr (xVs κ a (strs o) i _ _ K) ?_
  have hl := h1.2
  simp only [outVl, Out.run] at ho
  simp only [brn_iff, cnd_iff, decide_eq_true_eq, decide_eq_false_iff_not, Bool.and_eq_true]
  refine ⟨fun hi => ?_, fun hi => ?_⟩
  · have hk : i.toNat < a.bl.length := by omega
    have e := lts_drop a.bl i.toNat hk
    rw [e, List.map_cons, List.sum_cons] at h5
    rw [e, litsR] at ho
    have hlit := side_lit h1 hk
    have hw := withB_len o (litR (ltOf (nth a.bl i.toNat)))
    have hr := litR_len (ltOf (nth a.bl i.toNat))
    rw [wrap_ok (n := i + 1) (by omega) (by omega)]
    refine ⟨⟨h2, hi⟩, laOf (nth a.bl i.toNat), rfl, by rw [sideLV, laOf_lt]; exact hlit, (o, litR (ltOf (nth a.bl i.toNat))), by rw [laOf_lt], ⟨by simp only; omega, by simp only; omega⟩, _, ?_, (a, withB o (litR (ltOf (nth a.bl i.toNat))), i + 1), rfl, ⟨h1, by simp only; omega, by simp only; omega, ?_⟩, rfl, ?_⟩
    · simp only; omega
    · simp only [show (i + 1).toNat = i.toNat + 1 by omega]; omega
    · simp only [outVl, Out.run, show (i + 1).toNat = i.toNat + 1 by omega]
      exact ho
  · rw [List.drop_eq_nil_of_le (by omega)] at ho
    exact ho
noncomputable def EVl (κ : Kp) : Env := (EL κ).addLoop 36 6 (loopE 0 stVl sideVl outVl)
theorem eVl (κ : Kp) : EnvOK (EVl κ) := (eL κ).addLoop (mL κ) (lVs κ)
theorem mVl (κ : Kp) : EnvMono (EVl κ) := (mL κ).addLoop loopE_mono
theorem yVs (κ : Kp) (a : A45) (K : AV → List Dn.Obj → Prop) : (funA (EVl κ) 12 36 [rl45 a] [] K) = (
  cnd (decide (List.length (A45.hl a) ≤ 9223372036854775807) && decide (List.length (A45.bl a) ≤ 9223372036854775807) && fitL (A45.bl a)) (brn (!rightR
  { head := { rel := A45.rel a, l := tmsOf (A45.hl a) }, body := ltsOf (A45.bl a) }) (K (AV.lst 9 []) []) (∃ (a_1 : AA), ([AV.agg [AV.str (A45.rel a), AV.lst 43
  (A45.hl a)]], nilO) = ([AV.agg [AV.str (Prod.fst a_1), AV.lst 43 (Prod.snd a_1)]], nilO) ∧ sideAA a_1 ∧ loopCode (Pg.toProgram (Env.P (EL κ))) 36 6 = loopCode
  (Pg.toProgram (Env.P (EL κ))) 36 6 ∧ ∃ (a_2 : AVl), sp 29 [(1, AV.ptr 0 0 [] 0), (4, AV.lst 9 (strs (atomR (AA.at a_1)))), (5, AV.int 0)] [Obj.box 27 (AV.agg
  [AV.agg [AV.str (A45.rel a), AV.lst 43 (A45.hl a)], AV.lst 46 (A45.bl a), AV.int (A45.line a)])] = sp 29 [(1, AV.ptr 0 0 [] 0), (4, AV.lst 9 (strs (Prod.fst
  (Prod.snd a_2)))), (5, AV.int (Prod.snd (Prod.snd a_2)))] [Obj.box 27 (AV.agg [AV.agg [AV.str (A45.rel (Prod.fst a_2)), AV.lst 43 (A45.hl (Prod.fst a_2))],
  AV.lst 46 (A45.bl (Prod.fst a_2)), AV.int (A45.line (Prod.fst a_2))])] ∧ ((cntL (tmsOf (ruleTs 43 (A45.hl (Prod.fst a_2)) (A45.bl (Prod.fst a_2)))) ≤ 100000 ∧
  List.length (A45.bl (Prod.fst a_2)) ≤ 100000) ∧ (0 : Int) ≤ Prod.snd (Prod.snd a_2) ∧ Prod.snd (Prod.snd a_2) ≤ (↑(List.length (A45.bl (Prod.fst a_2))) : Int)
  ∧ List.length (Prod.fst (Prod.snd a_2)) + List.sum (List.map litC (ltsOf (List.drop (Int.toNat (Prod.snd (Prod.snd a_2))) (A45.bl (Prod.fst a_2))))) ≤ 200000)
  ∧ K (AV.lst 9 (strs (litsR (ltsOf (List.drop (Int.toNat (Prod.snd (Prod.snd a_2))) (A45.bl (Prod.fst a_2)))) (Prod.fst (Prod.snd a_2))))) []))) := by kernel_rfl
theorem side_parts {a : A45} (h : side42 a) : cntL (tmsOf a.hl) + cntL (tmsOf (partTs a.bl)) ≤ 100000 := by
  have h1 := h.1
  have e : ruleTs 43 a.hl a.bl = a.hl ++ partTs a.bl := rfl
  rw [e] at h1
  unfold tmsOf at h1
  rw [List.map_append, cntL_app] at h1
  exact h1
theorem parts_cnt : ∀ l : List AV, cntL (tmsOf (partTs l)) = ((ltsOf l).map litC).sum
  | [] => rfl
  | y :: l => by
    have e : cntL (tmsOf (partTs (y :: l))) = litC (ltOf y) + cntL (tmsOf (partTs l)) := by
      unfold partTs tmsOf
      rw [List.flatMap_cons, List.map_append, cntL_app, List.map_append, cntL_app]
      simp only [litC, ltOf, atOf, tmsOf, List.map_cons, List.map_nil, tmOf_ex]
    rw [e, parts_cnt l]; rfl
theorem side_fit {a : A45} (h : side42 a) : fitL a.bl = true := fitL_iff.2 fun x hx => by
  have h1 := lit_cnt a.bl x hx
  have h2 := side_parts h
  have h3 := len_cntL (tmsOf (toLst (fld (fld x 1) 1)))
  rw [tms_len] at h3
  have h4 : litC (ltOf x) = cntL [tmOf (fld x 2), tmOf (fld x 3)] + cntL (tmsOf (toLst (fld (fld x 1) 1))) := rfl
  simp only [maxI]; omega
theorem side_hlen {a : A45} (h : side42 a) : a.hl.length ≤ 100000 := by
  have h2 := side_parts h
  have h3 := len_cntL (tmsOf a.hl)
  rw [tms_len] at h3; omega
def stVs (a : A45) : List AV × List Dn.Obj := ([rl45 a], [])
def outVs (a : A45) : Out (AV × List Dn.Obj) := .one (.lst 9 (strs (varsF (rOf a))), [])
theorem cVs (κ : Kp) : CallOk (EVl κ) 12 36 (callE stVs side42 outVs) := by
  refine callE_ok ?_
  rintro a K h1 ho
  refine Eq.mpr (yVs κ a K) ?_
  simp only [outVs, Out.run, varsF] at ho
  have hr : rightR ⟨⟨a.rel, tmsOf a.hl⟩, ltsOf a.bl⟩ = rightR (rOf a) := rfl
  rw [hr, cnd_iff]
  have hp := side_parts h1
  have hh := side_hlen h1
  have hl := h1.2
  simp only [Bool.and_eq_true, decide_eq_true_eq]
  refine ⟨⟨⟨by omega, by omega⟩, side_fit h1⟩, ?_⟩
  cases e : rightR (rOf a) with
  | false => rw [e] at ho; exact ho
  | true =>
    rw [e] at ho
    have k4 := rvL_len (tmsOf a.hl) []
    simp only [List.length_nil] at k4
    have k5 := parts_cnt a.bl
    refine ⟨(a.rel, a.hl), rfl, by show cntL (tmsOf a.hl) ≤ 100000; omega, trivial, (a, atomR ⟨a.rel, tmsOf a.hl⟩, 0), rfl, ⟨h1, by simp only; omega, by simp only; omega, ?_⟩, ?_⟩
    · simp only [Int.toNat_zero, List.drop_zero]
      show (rvL (tmsOf a.hl) []).length + _ ≤ 200000
      omega
    · simp only [Int.toNat_zero, List.drop_zero]
      exact ho
noncomputable def EV (κ : Kp) : Env := (EVl κ).addCall 36 (callE stVs side42 outVs)
theorem eV (κ : Kp) : EnvOK (EV κ) := (eVl κ).addCall (mVl κ) (cVs κ)
theorem mV (κ : Kp) : EnvMono (EV κ) := (mVl κ).addCall callE_mono
theorem xST (κ : Kp) (l m : List AV) (i : Int) (I : Nat → S → Prop) (n : Nat) (K : Exit → S → Prop) : (vc (EV κ) 12 16 none 0 (loopCode (Pr κ).toProgram 16 4) (sp 26 [(0, .lst 9 l), (1, .lst 9 m), (5, .int i)] []) (loopK (EV κ) 16 4 0 I n K)) = (
  brn (decide (i < (↑(List.length l) : Int))) (cnd (decide ((0 : Int) ≤ i) && decide (i < (↑(List.length l) : Int))) (cnd (decide ((0 : Int) ≤ i) && decide (i <
  (↑(List.length m) : Int))) (brn (!ByteArray.toList (toStr (nth l (Int.toNat i))) == ByteArray.toList (toStr (nth m (Int.toNat i)))) (K Exit.ret (sp 26 [(4,
  AV.bool false)] [])) (∃ (m_1 : Nat), m_1 < n ∧ I m_1 (sp 26 [(0, AV.lst 9 l), (1, AV.lst 9 m), (5, AV.int (IntKind.wrap IntKind.i64 (i + (1 : Int))))] [])))))
  (K (Exit.exit 0) (sp 26 [] []))) := by kernel_rfl
def sameT (l m : List AV) : Bool := decide (l.map toStr = m.map toStr)
abbrev stST (a : List AV × List AV × Int) : S := sp 26 [(0, .lst 9 a.1), (1, .lst 9 a.2.1), (5, .int a.2.2)] []
def outST (a : List AV × List AV × Int) : Out (Exit × S) := .brn (sameT (a.1.drop a.2.2.toNat) (a.2.1.drop a.2.2.toNat)) (.one (.exit 0, sp 26 [] [])) (.one (.ret, sp 26 [(4, .bool false)] []))
theorem lST (κ : Kp) : LoopOk (EV κ) 12 16 4 (loopE 0 stST side15l outST) := by
  refine loopE_ok (fun a => a.1.length - a.2.2.toNat) ?_
  rintro ⟨l, m, i⟩ K ⟨h1, h2, h3, h4⟩ ho
  simp only at h1 h2 h3 h4
  rw [show (EV κ).P = Pr κ from rfl]
  refine Eq.mpr (xST κ l m i _ _ K) ?_
  simp only [maxI] at h2
  simp only [outST, Out.run, brn_iff] at ho
  simp only [brn_iff, cnd_iff, decide_eq_true_eq, decide_eq_false_iff_not, Bool.and_eq_true, Bool.not_eq_true', Bool.not_eq_false']
  refine ⟨fun hi => ⟨⟨h3, hi⟩, ⟨h3, by omega⟩, ?_⟩, fun hi => ?_⟩
  · rw [List.drop_eq_getElem_cons (show i.toNat < l.length by omega), ← nth_get l i.toNat (by omega), List.drop_eq_getElem_cons (show i.toNat < m.length by omega), ← nth_get m i.toNat (by omega)] at ho
    simp only [sameT, List.map_cons, List.cons.injEq] at ho
    refine ⟨fun e => ?_, fun e => ?_⟩
    · have e' : toStr (nth l i.toNat) ≠ toStr (nth m i.toNat) := fun h => by
        have := eqS_iff.2 h
        unfold eqS at this; rw [this] at e; cases e
      exact ho.2 (by simp [e'])
    · have e' : toStr (nth l i.toNat) = toStr (nth m i.toNat) := eqS_iff.1 e
      rw [wrap_ok (n := i + 1) (by omega) (by omega)]
      refine ⟨_, ?_, (l, m, i + 1), rfl, ⟨h1, by simpa [maxI] using h2, by simp only; omega, by simp only; omega⟩, rfl, ?_⟩
      · simp only; omega
      · simp only [outST, Out.run, brn_iff, show (i + 1).toNat = i.toNat + 1 by omega, sameT]
        simpa [e'] using ho
  · rw [List.drop_eq_nil_of_le (by omega), List.drop_eq_nil_of_le (by omega)] at ho
    exact ho.1 rfl
noncomputable def ESl (κ : Kp) : Env := (EV κ).addLoop 16 4 (loopE 0 stST side15l outST)
theorem eSl (κ : Kp) : EnvOK (ESl κ) := (eV κ).addLoop (mV κ) (lST κ)
theorem mSl (κ : Kp) : EnvMono (ESl κ) := (mV κ).addLoop loopE_mono
theorem yST (κ : Kp) (l m : List AV) (K : AV → List Dn.Obj → Prop) : (funA (ESl κ) 12 16 [.lst 9 l, .lst 9 m] [] K) = (
  brn ((↑(List.length l) : Int) != (↑(List.length m) : Int)) (K (AV.bool false) []) (loopCode (Pg.toProgram (Env.P (EV κ))) 16 4 = loopCode (Pg.toProgram (Env.P
  (EV κ))) 16 4 ∧ ∃ (a : List AV × List AV × Int), sp 26 [(0, AV.lst 9 l), (1, AV.lst 9 m), (5, AV.int 0)] [] = sp 26 [(0, AV.lst 9 (Prod.fst a)), (1, AV.lst 9
  (Prod.fst (Prod.snd a))), (5, AV.int (Prod.snd (Prod.snd a)))] [] ∧ (List.length (Prod.fst a) = List.length (Prod.fst (Prod.snd a)) ∧ List.length (Prod.fst a)
  ≤ 9223372036854775807 ∧ (0 : Int) ≤ Prod.snd (Prod.snd a) ∧ Prod.snd (Prod.snd a) ≤ (↑(List.length (Prod.fst a)) : Int)) ∧ brn (sameT (List.drop (Int.toNat
  (Prod.snd (Prod.snd a))) (Prod.fst a)) (List.drop (Int.toNat (Prod.snd (Prod.snd a))) (Prod.fst (Prod.snd a)))) (K (AV.bool true) []) (K (AV.bool false) []))) := by kernel_rfl
def gST : List AV → Option (Bool × AV)
  | [.lst 9 l, .lst 9 m] => some (decide (l.length ≤ maxI), .bool (sameT l m))
  | _ => none
theorem pST (κ : Kp) : PureOk (ESl κ) 12 16 gST := by
  intro args x hh
  unfold gST at hh
  split at hh
  · rename_i l m
    simp only [Option.some.injEq, Prod.mk.injEq, decide_eq_true_eq] at hh
    obtain ⟨h1, rfl⟩ := hh
    refine ⟨_, rfl, rfl, ?_⟩
    refine Eq.mpr (yST κ l m _) ?_
    simp only [brn_iff, bne_iff_ne, bne_eq_false_iff_eq]
    refine ⟨fun e => ?_, fun e => ⟨trivial, (l, m, 0), rfl, ⟨by simp only; omega, h1, by simp only; omega, by simp only; omega⟩, ?_⟩⟩
    · have : sameT l m = false := by
        unfold sameT
        rw [decide_eq_false]
        intro h
        have := congrArg List.length h
        simp at this; omega
      rw [this]
    · simp only [Int.toNat_zero, List.drop_zero]
      exact ⟨fun e => by rw [e], fun e => by rw [e]⟩
  · cases hh
noncomputable def ES (κ : Kp) : Env := (ESl κ).addPure 16 gST
theorem eS (κ : Kp) : EnvOK (ES κ) := (eSl κ).addPure (mSl κ) (pST κ)
theorem mS (κ : Kp) : EnvMono (ES κ) := (mSl κ).addPure
theorem xWi (κ : Kp) (l m : List AV) (i : Int) (I : Nat → S → Prop) (n : Nat) (K : Exit → S → Prop) : (vc (ES κ) 12 25 none 0 (loopCode (Pr κ).toProgram 25 2) (sp 19 [(0, .lst 9 l), (1, .lst 9 m), (5, .int i)] []) (loopK (ES κ) 25 2 0 I n K)) = (
  brn (decide (i < (↑(List.length l) : Int))) (cnd (decide ((0 : Int) ≤ i) && decide (i < (↑(List.length l) : Int))) (cnd (decide (List.length m ≤
  9223372036854775807)) (brn (decide (placeS (toStr (nth l (Int.toNat i))) m (0 : Int) < (0 : Int))) (K Exit.ret (sp 19 [(4, AV.bool false)] [])) (∃ (m_1 : Nat),
  m_1 < n ∧ I m_1 (sp 19 [(0, AV.lst 9 l), (1, AV.lst 9 m), (5, AV.int (IntKind.wrap IntKind.i64 (i + (1 : Int))))] []))))) (K (Exit.exit 0) (sp 19 [] []))) := by kernel_rfl
def inA (m : List AV) (x : AV) : Bool := decide (placeS (toStr x) m 0 ≥ 0)
def withinA (l m : List AV) : Bool := l.all (inA m)
theorem inA_strs (m : List ByteArray) (s : ByteArray) : inA (strs m) (.lit (.string s)) = m.contains s := placeS_ge s m 0 (by omega)
theorem within_strs (l m : List ByteArray) : withinA (strs l) (strs m) = hasB m l := by
  unfold withinA hasB strs
  rw [List.all_map]
  congr 1; funext s
  exact inA_strs m s
abbrev stWi (a : List AV × List AV × Int) : S := sp 19 [(0, .lst 9 a.1), (1, .lst 9 a.2.1), (5, .int a.2.2)] []
def sideWi (a : List AV × List AV × Int) : Prop := a.1.length ≤ maxI ∧ a.2.1.length ≤ maxI ∧ 0 ≤ a.2.2 ∧ a.2.2 ≤ a.1.length
def outWi (a : List AV × List AV × Int) : Out (Exit × S) := .brn (withinA (a.1.drop a.2.2.toNat) a.2.1) (.one (.exit 0, sp 19 [] [])) (.one (.ret, sp 19 [(4, .bool false)] []))
theorem lWi (κ : Kp) : LoopOk (ES κ) 12 25 2 (loopE 0 stWi sideWi outWi) := by
  refine loopE_ok (fun a => a.1.length - a.2.2.toNat) ?_
  rintro ⟨l, m, i⟩ K ⟨h1, h2, h3, h4⟩ ho
  simp only at h1 h2 h3 h4
  rw [show (ES κ).P = Pr κ from rfl]
  refine Eq.mpr (xWi κ l m i _ _ K) ?_
  simp only [maxI] at h1 h2
  simp only [outWi, Out.run, brn_iff] at ho
  simp only [brn_iff, cnd_iff, decide_eq_true_eq, decide_eq_false_iff_not, Bool.and_eq_true]
  refine ⟨fun hi => ⟨⟨h3, hi⟩, h2, ?_⟩, fun hi => ?_⟩
  · rw [List.drop_eq_getElem_cons (show i.toNat < l.length by omega), ← nth_get l i.toNat (by omega)] at ho
    simp only [withinA, List.all_cons] at ho
    refine ⟨fun e => ?_, fun e => ?_⟩
    · rw [show inA m (nth l i.toNat) = false from decide_eq_false (by omega), Bool.false_and] at ho
      exact ho.2 rfl
    · rw [show inA m (nth l i.toNat) = true from decide_eq_true (by omega), Bool.true_and] at ho
      rw [wrap_ok (n := i + 1) (by omega) (by omega)]
      refine ⟨_, ?_, (l, m, i + 1), rfl, ⟨by simpa [maxI] using h1, by simpa [maxI] using h2, by simp only; omega, by simp only; omega⟩, rfl, ?_⟩
      · simp only; omega
      · simp only [outWi, Out.run, brn_iff, show (i + 1).toNat = i.toNat + 1 by omega, withinA]
        exact ho
  · rw [List.drop_eq_nil_of_le (by omega)] at ho
    exact ho.1 rfl
noncomputable def EWl (κ : Kp) : Env := (ES κ).addLoop 25 2 (loopE 0 stWi sideWi outWi)
theorem eWl (κ : Kp) : EnvOK (EWl κ) := (eS κ).addLoop (mS κ) (lWi κ)
theorem mWl (κ : Kp) : EnvMono (EWl κ) := (mS κ).addLoop loopE_mono
theorem yWi (κ : Kp) (l m : List AV) (K : AV → List Dn.Obj → Prop) : (funA (EWl κ) 12 25 [.lst 9 l, .lst 9 m] [] K) = (
  loopCode (Pg.toProgram (Env.P (ES κ))) 25 2 = loopCode (Pg.toProgram (Env.P (ES κ))) 25 2 ∧ ∃ (a : List AV × List AV × Int), sp 19 [(0, AV.lst 9 l), (1, AV.lst 9
  m), (5, AV.int 0)] [] = sp 19 [(0, AV.lst 9 (Prod.fst a)), (1, AV.lst 9 (Prod.fst (Prod.snd a))), (5, AV.int (Prod.snd (Prod.snd a)))] [] ∧ (List.length
  (Prod.fst a) ≤ 9223372036854775807 ∧ List.length (Prod.fst (Prod.snd a)) ≤ 9223372036854775807 ∧ (0 : Int) ≤ Prod.snd (Prod.snd a) ∧ Prod.snd (Prod.snd a) ≤
  (↑(List.length (Prod.fst a)) : Int)) ∧ brn (withinA (List.drop (Int.toNat (Prod.snd (Prod.snd a))) (Prod.fst a)) (Prod.fst (Prod.snd a))) (K (AV.bool true) [])
  (K (AV.bool false) [])) := by kernel_rfl
def gWi : List AV → Option (Bool × AV)
  | [.lst 9 l, .lst 9 m] => some (decide (l.length ≤ maxI) && decide (m.length ≤ maxI), .bool (withinA l m))
  | _ => none
theorem pWi (κ : Kp) : PureOk (EWl κ) 12 25 gWi := by
  intro args x hh
  unfold gWi at hh
  split at hh
  · rename_i l m
    simp only [Option.some.injEq, Prod.mk.injEq, Bool.and_eq_true, decide_eq_true_eq] at hh
    obtain ⟨⟨h1, h2⟩, rfl⟩ := hh
    refine ⟨_, rfl, rfl, ?_⟩
    refine Eq.mpr (yWi κ l m _) ?_
    refine ⟨rfl, (l, m, 0), rfl, ⟨h1, h2, by simp only; omega, by simp only; omega⟩, ?_⟩
    simp only [Int.toNat_zero, List.drop_zero]
    cases withinA l m <;> rfl
  · cases hh
noncomputable def EWi (κ : Kp) : Env := (EWl κ).addPure 25 gWi
theorem eWi (κ : Kp) : EnvOK (EWi κ) := (eWl κ).addPure (mWl κ) (pWi κ)
theorem mWi (κ : Kp) : EnvMono (EWi κ) := (mWl κ).addPure
end Go.Proofs.YtpgahkbkfflkaaaGreatDoor
namespace Go.Proofs.YtpgahkbkfflkaaaGreatDoor
open Go Go.Dn Go.Rl Go.Proofs
attribute [local irreducible] funA vc
set_option maxRecDepth 20000
theorem xRk (κ : Kp) (a : AA) (o : List AV) (i : Int) (I : Nat → S → Prop) (n : Nat) (K : Exit → S → Prop) : (vc (EWi κ) 12 91 none 0 (loopCode (Pr κ).toProgram 91 3) (sp 28 [(1, .ptr 0 0 [] 0), (3, .lst 9 o), (4, .int i)] [.box 24 (atA' a)]) (loopK (EWi κ) 91 3 0 I n K)) = (
  brn (decide (i < (↑(List.length (Prod.snd a)) : Int))) (cnd (decide ((0 : Int) ≤ i) && decide (i < (↑(List.length (Prod.snd a)) : Int))) (brn (decide (toInt (fld
  (nth (Prod.snd a) (Int.toNat i)) 0) ≥ (5 : Int))) (cnd (decide ((0 : Int) ≤ i) && decide (i < (↑(List.length (Prod.snd a)) : Int))) (∃ (a_1 : AT), ([AV.agg
  [AV.int (toInt (fld (nth (Prod.snd a) (Int.toNat i)) 0)), AV.str (toStr (fld (nth (Prod.snd a) (Int.toNat i)) 1)), AV.int (toInt (fld (nth (Prod.snd a)
  (Int.toNat i)) 2)), AV.lst 43 (toLst (fld (nth (Prod.snd a) (Int.toNat i)) 3))]], nilO) = ([AV.agg [AV.int (AT.op a_1), AV.str (AT.s a_1), AV.int (AT.n a_1),
  AV.lst 43 (AT.l a_1)]], nilO) ∧ sideTa a_1 ∧ ∃ (a_2 : List ByteArray × List ByteArray), ([AV.lst 9 o, AV.lst 9 (strs (Tm.rv (AT.tm a_1)))], nilO) = ([AV.lst 9
  (strs (Prod.fst a_2)), AV.lst 9 (strs (Prod.snd a_2))], nilO) ∧ (List.length (Prod.fst a_2) ≤ 1000000 ∧ List.length (Prod.snd a_2) ≤ 1000000) ∧ ∃ (m : Nat), m
  < n ∧ I m (sp 28 [(1, AV.ptr 0 0 [] 0), (3, AV.lst 9 (strs (withB (Prod.fst a_2) (Prod.snd a_2)))), (4, AV.int (IntKind.wrap IntKind.i64 (i + (1 : Int))))]
  [Obj.box 24 (AV.agg [AV.str (Prod.fst a), AV.lst 43 (Prod.snd a)])]))) (∃ (m : Nat), m < n ∧ I m (sp 28 [(1, AV.ptr 0 0 [] 0), (3, AV.lst 9 o), (4, AV.int
  (IntKind.wrap IntKind.i64 (i + (1 : Int))))] [Obj.box 24 (AV.agg [AV.str (Prod.fst a), AV.lst 43 (Prod.snd a)])])))) (K (Exit.exit 0) (sp 28 [(3, AV.lst 9 o)]
  []))) := by kernel_rfl
abbrev stRk (a : AAl) : S := sp 28 [(1, .ptr 0 0 [] 0), (3, .lst 9 (strs a.2.1)), (4, .int a.2.2)] [.box 24 (atA' a.1)]
def outRk (a : AAl) : Out (Exit × S) := .one (.exit 0, sp 28 [(3, .lst 9 (strs (reckF (tmsOf (a.1.2.drop a.2.2.toNat)) a.2.1)))] [])
theorem lRk (κ : Kp) : LoopOk (EWi κ) 12 91 3 (loopE 0 stRk sideAl outRk) := by
  refine loopE_ok (fun a => a.1.2.length - a.2.2.toNat) ?_
  rintro ⟨⟨rel, l⟩, o, i⟩ K ⟨h1, h2, h3, h5⟩ ho
  simp only at h1 h2 h3 h5
  rw [show (EWi κ).P = Pr κ from rfl]
  refine Eq.mpr (xRk κ (rel, l) (strs o) i _ _ K) ?_
  simp only [maxI] at h1
  simp only [outRk, Out.run] at ho
  simp only [brn_iff, cnd_iff, decide_eq_true_eq, decide_eq_false_iff_not, Bool.and_eq_true]
  refine ⟨fun hi => ?_, fun hi => ?_⟩
  · have hk : i.toNat < l.length := by omega
    have e := tms_drop l i.toNat hk
    rw [e, cntL] at h5
    rw [e, reckF] at ho
    have hop : (tmOf (nth l i.toNat)).op = toInt (fld (nth l i.toNat) 0) := by rw [tmOf_eq]; rfl
    rw [hop] at ho
    have hl := Tm.rv_len (tmOf (nth l i.toNat))
    have hw := withB_len o (tmOf (nth l i.toNat)).rv
    rw [wrap_ok (n := i + 1) (by omega) (by omega)]
    refine ⟨⟨h2, hi⟩, fun e2 => ⟨⟨h2, hi⟩, atv (nth l i.toNat), rfl, by rw [sideTa, atv_tm]; omega, (o, (tmOf (nth l i.toNat)).rv), by rw [atv_tm], ⟨by simp only; omega, by simp only; omega⟩, _, ?_, ((rel, l), withB o (tmOf (nth l i.toNat)).rv, i + 1), rfl, ⟨by simpa [maxI] using h1, by simp only; omega, by simp only; omega, ?_⟩, rfl, ?_⟩,
      fun e2 => ⟨_, ?_, ((rel, l), o, i + 1), rfl, ⟨by simpa [maxI] using h1, by simp only; omega, by simp only; omega, ?_⟩, rfl, ?_⟩⟩
    · simp only; omega
    · simp only [show (i + 1).toNat = i.toNat + 1 by omega]; omega
    · simp only [outRk, Out.run, show (i + 1).toNat = i.toNat + 1 by omega]
      rw [decide_eq_true e2] at ho
      exact ho
    · simp only; omega
    · simp only [show (i + 1).toNat = i.toNat + 1 by omega]; omega
    · simp only [outRk, Out.run, show (i + 1).toNat = i.toNat + 1 by omega]
      rw [decide_eq_false e2] at ho
      exact ho
  · rw [List.drop_eq_nil_of_le (by omega)] at ho
    exact ho
noncomputable def EKl (κ : Kp) : Env := (EWi κ).addLoop 91 3 (loopE 0 stRk sideAl outRk)
theorem eKl (κ : Kp) : EnvOK (EKl κ) := (eWi κ).addLoop (mWi κ) (lRk κ)
theorem mKl (κ : Kp) : EnvMono (EKl κ) := (mWi κ).addLoop loopE_mono
theorem yRk (κ : Kp) (a : AA) (K : AV → List Dn.Obj → Prop) : (funA (EKl κ) 12 91 [atA' a] [] K) = (
  loopCode (Pg.toProgram (Env.P (EWi κ))) 91 3 = loopCode (Pg.toProgram (Env.P (EWi κ))) 91 3 ∧ ∃ (a_1 : AAl), sp 28 [(1, AV.ptr 0 0 [] 0), (3, AV.lst 9 []), (4,
  AV.int 0)] [Obj.box 24 (AV.agg [AV.str (Prod.fst a), AV.lst 43 (Prod.snd a)])] = sp 28 [(1, AV.ptr 0 0 [] 0), (3, AV.lst 9 (strs (Prod.fst (Prod.snd a_1)))),
  (4, AV.int (Prod.snd (Prod.snd a_1)))] [Obj.box 24 (AV.agg [AV.str (Prod.fst (Prod.fst a_1)), AV.lst 43 (Prod.snd (Prod.fst a_1))])] ∧ (List.length (Prod.snd
  (Prod.fst a_1)) ≤ 9223372036854775807 ∧ (0 : Int) ≤ Prod.snd (Prod.snd a_1) ∧ Prod.snd (Prod.snd a_1) ≤ (↑(List.length (Prod.snd (Prod.fst a_1))) : Int) ∧
  List.length (Prod.fst (Prod.snd a_1)) + cntL (tmsOf (List.drop (Int.toNat (Prod.snd (Prod.snd a_1))) (Prod.snd (Prod.fst a_1)))) ≤ 100000) ∧ K (AV.lst 9 (strs
  (reckF (tmsOf (List.drop (Int.toNat (Prod.snd (Prod.snd a_1))) (Prod.snd (Prod.fst a_1)))) (Prod.fst (Prod.snd a_1))))) []) := by kernel_rfl
def outRkc (a : AA) : Out (AV × List Dn.Obj) := .one (.lst 9 (strs (reckF a.at.l [])), [])
theorem cRk (κ : Kp) : CallOk (EKl κ) 12 91 (callE stAA sideAA outRkc) := by
  refine callE_ok ?_
  rintro a K h1 ho
  refine Eq.mpr (yRk κ a K) ?_
  have ho' : K (.lst 9 (strs (reckF (tmsOf a.2) []))) [] := ho
  have hl := len_cntL (tmsOf a.2)
  rw [tms_len] at hl
  unfold sideAA at h1
  refine ⟨rfl, (a, [], 0), rfl, ⟨by simp only; omega, by simp only; omega, by simp only; omega, ?_⟩, ?_⟩
  · simp only [Int.toNat_zero, List.drop_zero, List.length_nil]; omega
  · simp only [Int.toNat_zero, List.drop_zero]
    exact ho'
noncomputable def EK (κ : Kp) : Env := (EKl κ).addCall 91 (callE stAA sideAA outRkc)
theorem eK (κ : Kp) : EnvOK (EK κ) := (eKl κ).addCall (mKl κ) (cRk κ)
theorem mK (κ : Kp) : EnvMono (EK κ) := (mKl κ).addCall callE_mono
theorem xEl (κ : Kp) (a : A45) (k : Int) (o : List AV) (i : Int) (I : Nat → S → Prop) (n : Nat) (K : Exit → S → Prop) : (vc (EK κ) 12 64 none 0 (loopCode (Pr κ).toProgram 64 3) (sp 35 [(1, .int k), (2, .ptr 0 0 [] 0), (5, .lst 9 o), (6, .int i)] [.box 27 (rl45 a)]) (loopK (EK κ) 64 3 0 I n K)) = (
  brn (decide (i < (↑(List.length (A45.bl a)) : Int))) (cnd (decide ((0 : Int) ≤ i) && decide (i < (↑(List.length (A45.bl a)) : Int))) (brn (i == k) (∃ (a_1 : LA),
  ([AV.agg [AV.int (toInt (fld (nth (A45.bl a) (Int.toNat i)) 0)), AV.agg [AV.str { data := #[] }, AV.lst 43 []], AV.agg [AV.lit (Value.int IntKind.i64 (toInt
  (fld (fld (nth (A45.bl a) (Int.toNat i)) 2) 0))), AV.str (toStr (fld (fld (nth (A45.bl a) (Int.toNat i)) 2) 1)), AV.lit (Value.int IntKind.i64 (toInt (fld (fld
  (nth (A45.bl a) (Int.toNat i)) 2) 2))), AV.lst 43 (toLst (fld (fld (nth (A45.bl a) (Int.toNat i)) 2) 3))], AV.agg [AV.int 0, AV.str { data := #[] }, AV.int 0,
  AV.lst 43 []]]], nilO) = ([AV.agg [AV.int (LA.op a_1), AV.agg [AV.str (LA.s a_1), AV.lst 43 (LA.l a_1)], AV.agg [AV.int (LA.o1 a_1), AV.str (LA.s1 a_1), AV.int
  (LA.n1 a_1), AV.lst 43 (LA.l1 a_1)], AV.agg [AV.int (LA.o2 a_1), AV.str (LA.s2 a_1), AV.int (LA.n2 a_1), AV.lst 43 (LA.l2 a_1)]]], nilO) ∧ sideLV a_1 ∧ ∃ (a_2
  : List ByteArray × List ByteArray), ([AV.lst 9 o, AV.lst 9 (strs (litR (LA.lt a_1)))], nilO) = ([AV.lst 9 (strs (Prod.fst a_2)), AV.lst 9 (strs (Prod.snd
  a_2))], nilO) ∧ (List.length (Prod.fst a_2) ≤ 1000000 ∧ List.length (Prod.snd a_2) ≤ 1000000) ∧ ∃ (m : Nat), m < n ∧ I m (sp 35 [(1, AV.int k), (2, AV.ptr 0 0
  [] 0), (5, AV.lst 9 (strs (withB (Prod.fst a_2) (Prod.snd a_2)))), (6, AV.int (IntKind.wrap IntKind.i64 (i + (1 : Int))))] [Obj.box 27 (AV.agg [AV.agg [AV.str
  (A45.rel a), AV.lst 43 (A45.hl a)], AV.lst 46 (A45.bl a), AV.int (A45.line a)])])) (∃ (a_1 : LA), ([AV.agg [AV.int (toInt (fld (nth (A45.bl a) (Int.toNat i))
  0)), AV.agg [AV.str (toStr (fld (fld (nth (A45.bl a) (Int.toNat i)) 1) 0)), AV.lst 43 (toLst (fld (fld (nth (A45.bl a) (Int.toNat i)) 1) 1))], AV.agg [AV.lit
  (Value.int IntKind.i64 (toInt (fld (fld (nth (A45.bl a) (Int.toNat i)) 2) 0))), AV.str (toStr (fld (fld (nth (A45.bl a) (Int.toNat i)) 2) 1)), AV.lit
  (Value.int IntKind.i64 (toInt (fld (fld (nth (A45.bl a) (Int.toNat i)) 2) 2))), AV.lst 43 (toLst (fld (fld (nth (A45.bl a) (Int.toNat i)) 2) 3))], AV.agg
  [AV.lit (Value.int IntKind.i64 (toInt (fld (fld (nth (A45.bl a) (Int.toNat i)) 3) 0))), AV.str (toStr (fld (fld (nth (A45.bl a) (Int.toNat i)) 3) 1)), AV.lit
  (Value.int IntKind.i64 (toInt (fld (fld (nth (A45.bl a) (Int.toNat i)) 3) 2))), AV.lst 43 (toLst (fld (fld (nth (A45.bl a) (Int.toNat i)) 3) 3))]]], nilO) =
  ([AV.agg [AV.int (LA.op a_1), AV.agg [AV.str (LA.s a_1), AV.lst 43 (LA.l a_1)], AV.agg [AV.int (LA.o1 a_1), AV.str (LA.s1 a_1), AV.int (LA.n1 a_1), AV.lst 43
  (LA.l1 a_1)], AV.agg [AV.int (LA.o2 a_1), AV.str (LA.s2 a_1), AV.int (LA.n2 a_1), AV.lst 43 (LA.l2 a_1)]]], nilO) ∧ sideLV a_1 ∧ ∃ (a_2 : List ByteArray × List
  ByteArray), ([AV.lst 9 o, AV.lst 9 (strs (litR (LA.lt a_1)))], nilO) = ([AV.lst 9 (strs (Prod.fst a_2)), AV.lst 9 (strs (Prod.snd a_2))], nilO) ∧ (List.length
  (Prod.fst a_2) ≤ 1000000 ∧ List.length (Prod.snd a_2) ≤ 1000000) ∧ ∃ (m : Nat), m < n ∧ I m (sp 35 [(1, AV.int k), (2, AV.ptr 0 0 [] 0), (5, AV.lst 9 (strs
  (withB (Prod.fst a_2) (Prod.snd a_2)))), (6, AV.int (IntKind.wrap IntKind.i64 (i + (1 : Int))))] [Obj.box 27 (AV.agg [AV.agg [AV.str (A45.rel a), AV.lst 43
  (A45.hl a)], AV.lst 46 (A45.bl a), AV.int (A45.line a)])])))) (K (Exit.exit 0) (sp 35 [(5, AV.lst 9 o)] []))) := by kernel_rfl
abbrev AEl := A45 × Int × List ByteArray × Int
abbrev stEl (a : AEl) : S := sp 35 [(1, .int a.2.1), (2, .ptr 0 0 [] 0), (5, .lst 9 (strs a.2.2.1)), (6, .int a.2.2.2)] [.box 27 (rl45 a.1)]
def sideEl (a : AEl) : Prop := side42 a.1 ∧ 0 ≤ a.2.1 ∧ 0 ≤ a.2.2.2 ∧ a.2.2.2 ≤ a.1.bl.length ∧ a.2.2.1.length + ((ltsOf (a.1.bl.drop a.2.2.2.toNat)).map litC).sum ≤ 900000
def outEl (a : AEl) : Out (Exit × S) := .one (.exit 0, sp 35 [(5, .lst 9 (strs (elseF a.2.1.toNat (ltsOf (a.1.bl.drop a.2.2.2.toNat)) a.2.2.2.toNat a.2.2.1)))] [])
def laX (x : AV) : LA := ⟨toInt (fld x 0), ByteArray.mk #[], [], toInt (fld (fld x 2) 0), toStr (fld (fld x 2) 1), toInt (fld (fld x 2) 2), toLst (fld (fld x 2) 3), 0, ByteArray.mk #[], 0, []⟩
theorem laX_lt (x : AV) : (laX x).lt = ⟨(ltOf x).op, ⟨ByteArray.empty, []⟩, (ltOf x).x, .mk 0 ByteArray.empty 0 []⟩ := by
  have e : (ltOf x).x = tmOf (fld x 2) := rfl
  rw [e, tmOf_eq]; rfl
theorem cnt_pos : ∀ t : Tm, 1 ≤ t.cnt
  | .mk _ _ _ _ => by rw [Tm.cnt]; omega
theorem laX_C (x : AV) : litC (laX x).lt ≤ litC (ltOf x) := by
  rw [laX_lt]
  have := cnt_pos (ltOf x).y
  simp only [litC, cntL, Tm.cnt]; omega
theorem lEl (κ : Kp) : LoopOk (EK κ) 12 64 3 (loopE 0 stEl sideEl outEl) := by
  refine loopE_ok (fun a => a.1.bl.length - a.2.2.2.toNat) ?_
  rintro ⟨a, k, o, i⟩ K ⟨h1, h0, h2, h3, h5⟩ ho
  simp only at h1 h0 h2 h3 h5
  rw [show (EK κ).P = Pr κ from rfl]
  refine Eq.mpr (xEl κ a k (strs o) i _ _ K) ?_
  have hl := h1.2
  simp only [outEl, Out.run] at ho
  simp only [brn_iff, cnd_iff, decide_eq_true_eq, decide_eq_false_iff_not, Bool.and_eq_true, beq_iff_eq, beq_eq_false_iff_ne]
  refine ⟨fun hi => ?_, fun hi => ?_⟩
  · have hk : i.toNat < a.bl.length := by omega
    have e := lts_drop a.bl i.toNat hk
    rw [e, List.map_cons, List.sum_cons] at h5
    rw [e, elseF] at ho
    have hlit := side_lit h1 hk
    have hx := laX_C (nth a.bl i.toNat)
    rw [wrap_ok (n := i + 1) (by omega) (by omega)]
    refine ⟨⟨h2, hi⟩, fun e2 => ?_, fun e2 => ?_⟩
    · subst e2
      rw [Nat.beq_refl, cond_true, ← laX_lt] at ho
      have hw := withB_len o (litR (laX (nth a.bl i.toNat)).lt)
      have hr := litR_len (laX (nth a.bl i.toNat)).lt
      refine ⟨laX (nth a.bl i.toNat), rfl, by rw [sideLV]; omega, (o, litR (laX (nth a.bl i.toNat)).lt), rfl, ⟨by simp only; omega, by simp only; omega⟩, _, ?_, (a, i, withB o (litR (laX (nth a.bl i.toNat)).lt), i + 1), rfl, ⟨h1, h0, by simp only; omega, by simp only; omega, ?_⟩, rfl, ?_⟩
      · simp only; omega
      · simp only [show (i + 1).toNat = i.toNat + 1 by omega]; omega
      · simp only [outEl, Out.run, show (i + 1).toNat = i.toNat + 1 by omega]
        exact ho
    · rw [beq_ne (show i.toNat ≠ k.toNat by omega), cond_false] at ho
      have hw := withB_len o (litR (ltOf (nth a.bl i.toNat)))
      have hr := litR_len (ltOf (nth a.bl i.toNat))
      refine ⟨laOf (nth a.bl i.toNat), rfl, by rw [sideLV, laOf_lt]; omega, (o, litR (ltOf (nth a.bl i.toNat))), by rw [laOf_lt], ⟨by simp only; omega, by simp only; omega⟩, _, ?_, (a, k, withB o (litR (ltOf (nth a.bl i.toNat))), i + 1), rfl, ⟨h1, h0, by simp only; omega, by simp only; omega, ?_⟩, rfl, ?_⟩
      · simp only; omega
      · simp only [show (i + 1).toNat = i.toNat + 1 by omega]; omega
      · simp only [outEl, Out.run, show (i + 1).toNat = i.toNat + 1 by omega]
        exact ho
  · rw [List.drop_eq_nil_of_le (by omega)] at ho
    exact ho
noncomputable def EEl (κ : Kp) : Env := (EK κ).addLoop 64 3 (loopE 0 stEl sideEl outEl)
theorem eEl (κ : Kp) : EnvOK (EEl κ) := (eK κ).addLoop (mK κ) (lEl κ)
theorem mEl (κ : Kp) : EnvMono (EEl κ) := (mK κ).addLoop loopE_mono
theorem yEl (κ : Kp) (a : A45) (k : Int) (K : AV → List Dn.Obj → Prop) : (funA (EEl κ) 12 64 [rl45 a, .int k] [] K) = (
  ∃ (a_1 : AA), ([AV.agg [AV.str (A45.rel a), AV.lst 43 (A45.hl a)]], nilO) = ([AV.agg [AV.str (Prod.fst a_1), AV.lst 43 (Prod.snd a_1)]], nilO) ∧ sideAA a_1 ∧
  loopCode (Pg.toProgram (Env.P (EK κ))) 64 3 = loopCode (Pg.toProgram (Env.P (EK κ))) 64 3 ∧ ∃ (a_2 : AEl), sp 35 [(1, AV.int k), (2, AV.ptr 0 0 [] 0), (5,
  AV.lst 9 (strs (atomR (AA.at a_1)))), (6, AV.int 0)] [Obj.box 27 (AV.agg [AV.agg [AV.str (A45.rel a), AV.lst 43 (A45.hl a)], AV.lst 46 (A45.bl a), AV.int
  (A45.line a)])] = sp 35 [(1, AV.int (Prod.fst (Prod.snd a_2))), (2, AV.ptr 0 0 [] 0), (5, AV.lst 9 (strs (Prod.fst (Prod.snd (Prod.snd a_2))))), (6, AV.int
  (Prod.snd (Prod.snd (Prod.snd a_2))))] [Obj.box 27 (AV.agg [AV.agg [AV.str (A45.rel (Prod.fst a_2)), AV.lst 43 (A45.hl (Prod.fst a_2))], AV.lst 46 (A45.bl
  (Prod.fst a_2)), AV.int (A45.line (Prod.fst a_2))])] ∧ ((cntL (tmsOf (ruleTs 43 (A45.hl (Prod.fst a_2)) (A45.bl (Prod.fst a_2)))) ≤ 100000 ∧ List.length
  (A45.bl (Prod.fst a_2)) ≤ 100000) ∧ (0 : Int) ≤ Prod.fst (Prod.snd a_2) ∧ (0 : Int) ≤ Prod.snd (Prod.snd (Prod.snd a_2)) ∧ Prod.snd (Prod.snd (Prod.snd a_2)) ≤
  (↑(List.length (A45.bl (Prod.fst a_2))) : Int) ∧ List.length (Prod.fst (Prod.snd (Prod.snd a_2))) + List.sum (List.map litC (ltsOf (List.drop (Int.toNat
  (Prod.snd (Prod.snd (Prod.snd a_2)))) (A45.bl (Prod.fst a_2))))) ≤ 900000) ∧ K (AV.lst 9 (strs (elseF (Int.toNat (Prod.fst (Prod.snd a_2))) (ltsOf (List.drop
  (Int.toNat (Prod.snd (Prod.snd (Prod.snd a_2)))) (A45.bl (Prod.fst a_2)))) (Int.toNat (Prod.snd (Prod.snd (Prod.snd a_2)))) (Prod.fst (Prod.snd (Prod.snd
  a_2)))))) []) := by kernel_rfl
def stRK (a : AP) : List AV × List Dn.Obj := ([rl45 a.1, .int a.2], [])
def sideRK (a : AP) : Prop := side42 a.1 ∧ 0 ≤ a.2 ∧ a.2 < a.1.bl.length
def outElc (a : AP) : Out (AV × List Dn.Obj) := .one (.lst 9 (strs (elseF a.2.toNat (rOf a.1).body 0 (atomR (rOf a.1).head))), [])
theorem cEl (κ : Kp) : CallOk (EEl κ) 12 64 (callE stRK sideRK outElc) := by
  refine callE_ok ?_
  rintro ⟨a, k⟩ K ⟨h1, h2, h3⟩ ho
  simp only at h1 h2 h3
  refine Eq.mpr (yEl κ a k K) ?_
  simp only [outElc, Out.run] at ho
  have hp := side_parts h1
  have hl := h1.2
  have k4 := rvL_len (tmsOf a.hl) []
  simp only [List.length_nil] at k4
  have k5 := parts_cnt a.bl
  refine ⟨(a.rel, a.hl), rfl, by show cntL (tmsOf a.hl) ≤ 100000; omega, rfl, (a, k, atomR ⟨a.rel, tmsOf a.hl⟩, 0), rfl, ⟨h1, h2, by simp only; omega, by simp only; omega, ?_⟩, ?_⟩
  · simp only [Int.toNat_zero, List.drop_zero]
    show (rvL (tmsOf a.hl) []).length + _ ≤ 900000
    omega
  · simp only [Int.toNat_zero, List.drop_zero]
    exact ho
noncomputable def EE (κ : Kp) : Env := (EEl κ).addCall 64 (callE stRK sideRK outElc)
theorem eE (κ : Kp) : EnvOK (EE κ) := (eEl κ).addCall (mEl κ) (cEl κ)
theorem mE (κ : Kp) : EnvMono (EE κ) := (mEl κ).addCall callE_mono
theorem xOu (κ : Kp) (o all inn oth : List AV) (i : Int) (I : Nat → S → Prop) (n : Nat) (K : Exit → S → Prop) : (vc (EE κ) 12 39 none 0 (loopCode (Pr κ).toProgram 39 6) (sp 52 [(5, .slc 0 0 o.length), (6, .lst 9 all), (7, .lst 9 inn), (8, .lst 9 oth), (9, .int i)] [.row 9 o]) (loopK (EE κ) 39 6 0 I n K)) = (
  brn (decide (i < (↑(List.length all) : Int))) (cnd (decide ((0 : Int) ≤ i) && decide (i < (↑(List.length all) : Int))) (cnd (decide (List.length inn ≤
  9223372036854775807)) (brn (decide (placeS (toStr (nth all (Int.toNat i))) inn (0 : Int) ≥ (0 : Int))) (cnd (decide ((0 : Int) ≤ i) && decide (i <
  (↑(List.length all) : Int))) (cnd (decide (List.length oth ≤ 9223372036854775807)) (brn (decide (placeS (toStr (nth all (Int.toNat i))) oth (0 : Int) ≥ (0 :
  Int))) (cnd (decide ((0 : Int) ≤ i) && decide (i < (↑(List.length all) : Int))) (cnd (decide ((List.length o + 1 + 1) * 17 ≤ 70368744177664)) (∃ (m : Nat), m <
  n ∧ I m (sp 52 [(5, AV.slc 0 0 (List.length o + 1)), (6, AV.lst 9 all), (7, AV.lst 9 inn), (8, AV.lst 9 oth), (9, AV.int (IntKind.wrap IntKind.i64 (i + (1 :
  Int))))] [Obj.row 9 (List.take (List.length o) o ++ [AV.str (toStr (nth all (Int.toNat i)))])])))) (∃ (m : Nat), m < n ∧ I m (sp 52 [(5, AV.slc 0 0
  (List.length o)), (6, AV.lst 9 all), (7, AV.lst 9 inn), (8, AV.lst 9 oth), (9, AV.int (IntKind.wrap IntKind.i64 (i + (1 : Int))))] [Obj.row 9 o]))))) (∃ (m :
  Nat), m < n ∧ I m (sp 52 [(5, AV.slc 0 0 (List.length o)), (6, AV.lst 9 all), (7, AV.lst 9 inn), (8, AV.lst 9 oth), (9, AV.int (IntKind.wrap IntKind.i64 (i +
  (1 : Int))))] [Obj.row 9 o]))))) (K (Exit.exit 0) (sp 52 [(5, AV.slc 0 0 (List.length o))] [Obj.row 9 o]))) := by kernel_rfl
structure AOu where
  o : List ByteArray
  all : List ByteArray
  inn : List ByteArray
  oth : List ByteArray
  i : Int
abbrev stOu (a : AOu) : S := sp 52 [(5, .slc 0 0 (strs a.o).length), (6, .lst 9 (strs a.all)), (7, .lst 9 (strs a.inn)), (8, .lst 9 (strs a.oth)), (9, .int a.i)] [.row 9 (strs a.o)]
def sideOu (a : AOu) : Prop := a.all.length ≤ 1000000 ∧ a.inn.length ≤ 1000000 ∧ a.oth.length ≤ 1000000 ∧ a.o.length ≤ a.i.toNat ∧ 0 ≤ a.i ∧ a.i ≤ a.all.length
def endOu (a : AOu) : List ByteArray := a.o ++ (a.all.drop a.i.toNat).filter fun v => a.inn.contains v && a.oth.contains v
def outOu (a : AOu) : Out (Exit × S) := .one (.exit 0, sp 52 [(5, .slc 0 0 (strs (endOu a)).length)] [.row 9 (strs (endOu a))])
theorem lOu (κ : Kp) : LoopOk (EE κ) 12 39 6 (loopE 0 stOu sideOu outOu) := by
  refine loopE_ok (fun a => a.all.length - a.i.toNat) ?_
  rintro ⟨o, all, inn, oth, i⟩ K ⟨h1, h2, h3, h4, h5, h6⟩ ho
  simp only at h1 h2 h3 h4 h5 h6
  rw [show (EE κ).P = Pr κ from rfl]
  refine Eq.mpr (xOu κ (strs o) (strs all) (strs inn) (strs oth) i _ _ K) ?_
  simp only [outOu, endOu, Out.run] at ho
  simp only [brn_iff, cnd_iff, decide_eq_true_eq, decide_eq_false_iff_not, Bool.and_eq_true]
  rw [List.take_length]
  simp only [strs_len] at ho ⊢
  refine ⟨fun hi => ?_, fun hi => ?_⟩
  · have hk : i.toNat < all.length := by omega
    rw [strs_nth all _ hk]
    have c1 := placeS_ge all[i.toNat] inn 0 (by omega)
    have c2 := placeS_ge all[i.toNat] oth 0 (by omega)
    rw [List.drop_eq_getElem_cons hk, List.filter_cons] at ho
    have go : ∀ o' : List ByteArray, o'.length ≤ o.length + 1 → o' ++ (all.drop (i.toNat + 1)).filter (fun v => inn.contains v && oth.contains v) = o ++ (if (inn.contains all[i.toNat] && oth.contains all[i.toNat]) = true then all[i.toNat] :: (all.drop (i.toNat + 1)).filter (fun v => inn.contains v && oth.contains v) else (all.drop (i.toNat + 1)).filter (fun v => inn.contains v && oth.contains v)) →
        ∃ k, k < all.length - i.toNat ∧ invOf stOu sideOu outOu (fun a => a.all.length - a.i.toNat) K k (stOu ⟨o', all, inn, oth, i + 1⟩) := by
      intro o' hl he
      refine ⟨_, ?_, ⟨o', all, inn, oth, i + 1⟩, rfl, ⟨h1, h2, h3, by simp only; omega, by simp only; omega, by simp only; omega⟩, rfl, ?_⟩
      · simp only; omega
      · simp only [outOu, endOu, Out.run, show (i + 1).toNat = i.toNat + 1 by omega, he, strs_len]
        exact ho
    rw [wrap_ok (n := i + 1) (by omega) (by omega)]
    have g0 := go o (by omega)
    have g1 := go (o ++ [all[i.toNat]]) (by simp)
    simp only [stOu, strs_len, strs_app, List.length_append, List.length_cons, List.length_nil] at g0 g1
    refine ⟨⟨h5, hi⟩, by omega, fun e1 => ⟨⟨h5, hi⟩, by omega, fun e2 => ⟨⟨h5, hi⟩, by omega, g1 ?_⟩, fun e2 => g0 ?_⟩, fun e1 => g0 ?_⟩
    · rw [← c1, ← c2, decide_eq_true (show placeS all[i.toNat] (strs inn) 0 ≥ 0 from e1), decide_eq_true (show placeS all[i.toNat] (strs oth) 0 ≥ 0 from e2)]
      simp
    · rw [← c1, ← c2, decide_eq_true (show placeS all[i.toNat] (strs inn) 0 ≥ 0 from e1), decide_eq_false (show ¬ placeS all[i.toNat] (strs oth) 0 ≥ 0 from e2)]
      simp
    · rw [← c1, decide_eq_false (show ¬ placeS all[i.toNat] (strs inn) 0 ≥ 0 from e1)]
      simp
  · rw [List.drop_eq_nil_of_le (by omega)] at ho
    simpa using ho
noncomputable def EOl (κ : Kp) : Env := (EE κ).addLoop 39 6 (loopE 0 stOu sideOu outOu)
theorem eOl (κ : Kp) : EnvOK (EOl κ) := (eE κ).addLoop (mE κ) (lOu κ)
theorem mOl (κ : Kp) : EnvMono (EOl κ) := (mE κ).addLoop loopE_mono
theorem litsR_le : ∀ (b : List Lt) (o : List ByteArray), (litsR b o).length ≤ o.length + (b.map litC).sum
  | [], o => by simp [litsR]
  | l :: b, o => by
    have h1 := litsR_le b (withB o (litR l))
    have h2 := withB_len o (litR l)
    have h3 := litR_len l
    rw [litsR, List.map_cons, List.sum_cons]; omega
theorem varsF_le {a : A45} (h : side42 a) : (varsF (rOf a)).length ≤ 1000000 := by
  have hp := side_parts h
  have k5 := parts_cnt a.bl
  have k1 := litsR_le (ltsOf a.bl) (atomR (rOf a).head)
  have k4 := rvL_len (tmsOf a.hl) []
  simp only [List.length_nil] at k4
  have k6 : (atomR (rOf a).head).length = (rvL (tmsOf a.hl) []).length := rfl
  unfold varsF
  cases rightR (rOf a)
  · simp
  · rw [cond_true]
    show (litsR (ltsOf a.bl) (atomR (rOf a).head)).length ≤ 1000000
    omega
theorem elseF_le (k : Nat) : ∀ (b : List Lt) (i : Nat) (o : List ByteArray), (elseF k b i o).length ≤ o.length + (b.map litC).sum
  | [], _, o => by simp [elseF]
  | l :: b, i, o => by
    rw [elseF, List.map_cons, List.sum_cons]
    have h1 := elseF_le k b (i + 1) (withB o (bif Nat.beq i k then litR ⟨l.op, ⟨ByteArray.empty, []⟩, l.x, .mk 0 ByteArray.empty 0 []⟩ else litR l))
    have h2 := withB_len o (bif Nat.beq i k then litR ⟨l.op, ⟨ByteArray.empty, []⟩, l.x, .mk 0 ByteArray.empty 0 []⟩ else litR l)
    have h3 := litR_len l
    have h4 := litR_len ⟨l.op, ⟨ByteArray.empty, []⟩, l.x, .mk 0 ByteArray.empty 0 []⟩
    have h5 : litC ⟨l.op, ⟨ByteArray.empty, []⟩, l.x, .mk 0 ByteArray.empty 0 []⟩ ≤ litC l := by
      have := cnt_pos l.y
      simp only [litC, cntL, Tm.cnt]; omega
    revert h1 h2
    cases Nat.beq i k
    · simp only [cond_false]; omega
    · simp only [cond_true]; omega
theorem else_le {a : A45} (h : side42 a) (k : Nat) : (elseF k (rOf a).body 0 (atomR (rOf a).head)).length ≤ 1000000 := by
  have hp := side_parts h
  have k5 := parts_cnt a.bl
  have k1 := elseF_le k (ltsOf a.bl) 0 (atomR (rOf a).head)
  have k4 := rvL_len (tmsOf a.hl) []
  simp only [List.length_nil] at k4
  have k6 : (atomR (rOf a).head).length = (rvL (tmsOf a.hl) []).length := rfl
  show (elseF k (ltsOf a.bl) 0 (atomR (rOf a).head)).length ≤ 1000000
  omega
theorem yOu (κ : Kp) (a : A45) (k : Int) (K : AV → List Dn.Obj → Prop) : (funA (EOl κ) 12 39 [rl45 a, .int k] [] K) = (
  ∃ (a_1 : A45), ([AV.agg [AV.agg [AV.str (A45.rel a), AV.lst 43 (A45.hl a)], AV.lst 46 (A45.bl a), AV.int (A45.line a)]], nilO) = ([AV.agg [AV.agg [AV.str
  (A45.rel a_1), AV.lst 43 (A45.hl a_1)], AV.lst 46 (A45.bl a_1), AV.int (A45.line a_1)]], nilO) ∧ (cntL (tmsOf (ruleTs 43 (A45.hl a_1) (A45.bl a_1))) ≤ 100000 ∧
  List.length (A45.bl a_1) ≤ 100000) ∧ cnd (decide ((0 : Int) ≤ k) && decide (k < (↑(List.length (A45.bl a)) : Int))) (∃ (a_2 : AA), ([AV.agg [AV.str (toStr (fld
  (fld (nth (A45.bl a) (Int.toNat k)) 1) 0)), AV.lst 43 (toLst (fld (fld (nth (A45.bl a) (Int.toNat k)) 1) 1))]], nilO) = ([AV.agg [AV.str (Prod.fst a_2), AV.lst
  43 (Prod.snd a_2)]], nilO) ∧ sideAA a_2 ∧ ∃ (a_3 : AP), ([AV.agg [AV.agg [AV.str (A45.rel a), AV.lst 43 (A45.hl a)], AV.lst 46 (A45.bl a), AV.int (A45.line
  a)], AV.int k], nilO) = ([AV.agg [AV.agg [AV.str (A45.rel (Prod.fst a_3)), AV.lst 43 (A45.hl (Prod.fst a_3))], AV.lst 46 (A45.bl (Prod.fst a_3)), AV.int
  (A45.line (Prod.fst a_3))], AV.int (Prod.snd a_3)], nilO) ∧ ((cntL (tmsOf (ruleTs 43 (A45.hl (Prod.fst a_3)) (A45.bl (Prod.fst a_3)))) ≤ 100000 ∧ List.length
  (A45.bl (Prod.fst a_3)) ≤ 100000) ∧ (0 : Int) ≤ Prod.snd a_3 ∧ Prod.snd a_3 < (↑(List.length (A45.bl (Prod.fst a_3))) : Int)) ∧ loopCode (Pg.toProgram (Env.P
  (EE κ))) 39 6 = loopCode (Pg.toProgram (Env.P (EE κ))) 39 6 ∧ ∃ (a : AOu), sp 52 [(5, AV.slc 0 0 0), (6, AV.lst 9 (strs (varsF (rOf a_1)))), (7, AV.lst 9 (strs
  (atomR (AA.at a_2)))), (8, AV.lst 9 (strs (elseF (Int.toNat (Prod.snd a_3)) (Rl.body (rOf (Prod.fst a_3))) 0 (atomR (Rl.head (rOf (Prod.fst a_3))))))), (9,
  AV.int 0)] [Obj.row 9 []] = sp 52 [(5, AV.slc 0 0 (List.length (strs (AOu.o a)))), (6, AV.lst 9 (strs (AOu.all a))), (7, AV.lst 9 (strs (AOu.inn a))), (8,
  AV.lst 9 (strs (AOu.oth a))), (9, AV.int (AOu.i a))] [Obj.row 9 (strs (AOu.o a))] ∧ (List.length (AOu.all a) ≤ 1000000 ∧ List.length (AOu.inn a) ≤ 1000000 ∧
  List.length (AOu.oth a) ≤ 1000000 ∧ List.length (AOu.o a) ≤ Int.toNat (AOu.i a) ∧ (0 : Int) ≤ AOu.i a ∧ AOu.i a ≤ (↑(List.length (AOu.all a)) : Int)) ∧ K
  (AV.lst 9 (List.take (List.length (strs (endOu a))) (List.drop 0 (strs (endOu a))))) [])) := by kernel_rfl
def outOuc (a : AP) : Out (AV × List Dn.Obj) := .one (.lst 9 (strs (outerF (rOf a.1) a.2.toNat)), [])
theorem cOu (κ : Kp) : CallOk (EOl κ) 12 39 (callE stRK sideRK outOuc) := by
  refine callE_ok ?_
  rintro ⟨a, k⟩ K ⟨h1, h2, h3⟩ ho
  simp only at h1 h2 h3
  refine Eq.mpr (yOu κ a k K) ?_
  simp only [outOuc, Out.run] at ho
  have hk : k.toNat < a.bl.length := by omega
  have hlit := side_lit h1 hk
  have hb : (nthLt (rOf a).body k.toNat) = ltOf (nth a.bl k.toNat) := nthLt_lts a.bl hk
  have hc : cntL (tmsOf (toLst (fld (fld (nth a.bl k.toNat) 1) 1))) ≤ 100000 := by
    have : litC (ltOf (nth a.bl k.toNat)) = cntL [tmOf (fld (nth a.bl k.toNat) 2), tmOf (fld (nth a.bl k.toNat) 3)] + cntL (tmsOf (toLst (fld (fld (nth a.bl k.toNat) 1) 1))) := rfl
    omega
  have k4 := rvL_len (tmsOf (toLst (fld (fld (nth a.bl k.toNat) 1) 1))) []
  simp only [List.length_nil] at k4
  refine ⟨a, rfl, h1, ?_⟩
  rw [cnd_iff, Bool.and_eq_true, decide_eq_true_eq, decide_eq_true_eq]
  refine ⟨⟨h2, h3⟩, (toStr (fld (fld (nth a.bl k.toNat) 1) 0), toLst (fld (fld (nth a.bl k.toNat) 1) 1)), rfl, hc, (a, k), rfl, ⟨h1, h2, h3⟩, rfl, ⟨[], varsF (rOf a), atomR (ltOf (nth a.bl k.toNat)).a, elseF k.toNat (rOf a).body 0 (atomR (rOf a).head), 0⟩, rfl, ⟨varsF_le h1, ?_, else_le h1 k.toNat, by simp only [List.length_nil]; omega, by simp only; omega, by simp only; omega⟩, ?_⟩
  · show (rvL (tmsOf (toLst (fld (fld (nth a.bl k.toNat) 1) 1))) []).length ≤ 1000000
    omega
  · simp only [endOu, Int.toNat_zero, List.drop_zero, List.nil_append, List.take_length]
    unfold outerF at ho
    rw [hb] at ho
    exact ho
noncomputable def EO (κ : Kp) : Env := (EOl κ).addCall 39 (callE stRK sideRK outOuc)
theorem eO (κ : Kp) : EnvOK (EO κ) := (eOl κ).addCall (mOl κ) (cOu κ)
theorem mO (κ : Kp) : EnvMono (EO κ) := (mOl κ).addCall callE_mono
theorem yBi (κ : Kp) (x y : AT) (b : List AV) (K : AV → List Dn.Obj → Prop) : (funA (EO κ) 12 30 [tmA x, tmA y, .lst 9 b] [] K) = (
  ∃ (a : AT), ([AV.agg [AV.int (AT.op y), AV.str (AT.s y), AV.int (AT.n y), AV.lst 43 (AT.l y)]], nilO) = ([AV.agg [AV.int (AT.op a), AV.str (AT.s a), AV.int (AT.n
  a), AV.lst 43 (AT.l a)]], nilO) ∧ sideTa a ∧ cnd (decide (List.length (strs (Tm.rv (AT.tm a))) ≤ 9223372036854775807) && decide (List.length b ≤
  9223372036854775807)) (brn (AT.op x == (1 : Int)) (cnd (decide (List.length b ≤ 9223372036854775807)) (brn (decide (placeS (AT.s x) b (0 : Int) < (0 : Int)))
  (K (AV.bool (withinA (strs (Tm.rv (AT.tm a))) b)) []) (K (AV.bool false) []))) (K (AV.bool false) []))) := by kernel_rfl
theorem placeS_map (s : ByteArray) : ∀ (b : List AV) (i : Int), placeS s b i = placeS s (strs (b.map toStr)) i
  | [], _ => rfl
  | x :: b, i => by
    show (bif eqS s (toStr x) then i else placeS s b (i + 1)) = (bif eqS s (toStr x) then i else placeS s (strs (b.map toStr)) (i + 1))
    rw [placeS_map s b]
theorem inA_map (b : List AV) (x : AV) : inA b x = (b.map toStr).contains (toStr x) := by
  unfold inA; rw [placeS_map]; exact placeS_ge _ _ _ (by omega)
theorem within_map (l : List ByteArray) (b : List AV) : withinA (strs l) b = hasB (b.map toStr) l := by
  unfold withinA hasB strs
  rw [List.all_map]
  congr 1; funext s
  exact inA_map b _
theorem strs_map (b : List ByteArray) : (strs b).map toStr = b := by
  unfold strs
  rw [List.map_map]
  exact List.map_id'' (fun _ => rfl) b
def gBi : List AV → Option (Bool × AV)
  | [.agg [.lit (.int .i64 o1), .lit (.string s1), .lit (.int .i64 n1), .lst 43 l1], .agg [.lit (.int .i64 o2), .lit (.string s2), .lit (.int .i64 n2), .lst 43 l2], .lst 9 b] =>
    some (decide ((Tm.mk o2 s2 n2 (tmsOf l2)).cnt ≤ 100000) && decide (b.length ≤ 1000000), .bool (bindsF (b.map toStr) (.mk o1 s1 n1 (tmsOf l1)) (.mk o2 s2 n2 (tmsOf l2))))
  | _ => none
theorem pBi (κ : Kp) : PureOk (EO κ) 12 30 gBi := by
  intro args x hh
  unfold gBi at hh
  split at hh
  · rename_i o1 s1 n1 l1 o2 s2 n2 l2 b
    simp only [Option.some.injEq, Prod.mk.injEq, Bool.and_eq_true, decide_eq_true_eq] at hh
    obtain ⟨⟨h1, h2⟩, rfl⟩ := hh
    refine ⟨_, rfl, rfl, ?_⟩
    refine Eq.mpr (yBi κ ⟨o1, s1, n1, l1⟩ ⟨o2, s2, n2, l2⟩ b _) ?_
    have k := Tm.rv_len (.mk o2 s2 n2 (tmsOf l2))
    have eb : bindsF (b.map toStr) (.mk o1 s1 n1 (tmsOf l1)) (.mk o2 s2 n2 (tmsOf l2)) = (decide (o1 = 1) && !(b.map toStr).contains s1 && hasB (b.map toStr) (Tm.mk o2 s2 n2 (tmsOf l2)).rv) := rfl
    refine ⟨⟨o2, s2, n2, l2⟩, rfl, h1, ?_⟩
    simp only [strs_len]
    rw [cnd_iff, Bool.and_eq_true, decide_eq_true_eq, decide_eq_true_eq, brn_iff, beq_iff_eq, beq_eq_false_iff_ne]
    refine ⟨⟨by show (Tm.rv (.mk o2 s2 n2 (tmsOf l2))).length ≤ _; omega, by omega⟩, fun e => ?_, fun e => boolE ?_⟩
    · rw [cnd_iff, decide_eq_true_eq, brn_iff, decide_eq_true_eq, decide_eq_false_iff_not, within_map]
      have hp := placeS_ge s1 (b.map toStr) 0 (by omega)
      rw [← placeS_map] at hp
      refine ⟨by omega, fun e2 => boolE ?_, fun e2 => boolE ?_⟩
      · rw [decide_eq_false (show ¬ placeS s1 b 0 ≥ 0 by omega)] at hp
        rw [eb, ← hp, decide_eq_true (show o1 = 1 from e)]; rfl
      · rw [decide_eq_true (show placeS s1 b 0 ≥ 0 by omega)] at hp
        rw [eb, ← hp, decide_eq_true (show o1 = 1 from e)]; rfl
    · rw [eb, decide_eq_false (show ¬ o1 = 1 from e)]; rfl
  · cases hh
noncomputable def EB (κ : Kp) : Env := (EO κ).addPure 30 gBi
theorem eB (κ : Kp) : EnvOK (EB κ) := (eO κ).addPure (mO κ) (pBi κ)
theorem mB (κ : Kp) : EnvMono (EB κ) := (mO κ).addPure
end Go.Proofs.YtpgahkbkfflkaaaGreatDoor
namespace Go.Proofs.YtpgahkbkfflkaaaGreatDoor
open Go Go.Dn Go.Rl Go.Proofs
attribute [local irreducible] funA vc
set_option maxRecDepth 20000
theorem yRe (κ : Kp) (a : A45) (k : Int) (b : List AV) (K : AV → List Dn.Obj → Prop) : (funA (EB κ) 12 78 [rl45 a, .int k, .lst 9 b] [] K) = (
  cnd (decide ((0 : Int) ≤ k) && decide (k < (↑(List.length (A45.bl a)) : Int))) (∃ (a_1 : LA), ([AV.agg [AV.int (toInt (fld (nth (A45.bl a) (Int.toNat k)) 0)),
  AV.agg [AV.str (toStr (fld (fld (nth (A45.bl a) (Int.toNat k)) 1) 0)), AV.lst 43 (toLst (fld (fld (nth (A45.bl a) (Int.toNat k)) 1) 1))], AV.agg [AV.int (toInt
  (fld (fld (nth (A45.bl a) (Int.toNat k)) 2) 0)), AV.str (toStr (fld (fld (nth (A45.bl a) (Int.toNat k)) 2) 1)), AV.int (toInt (fld (fld (nth (A45.bl a)
  (Int.toNat k)) 2) 2)), AV.lst 43 (toLst (fld (fld (nth (A45.bl a) (Int.toNat k)) 2) 3))], AV.agg [AV.int (toInt (fld (fld (nth (A45.bl a) (Int.toNat k)) 3)
  0)), AV.str (toStr (fld (fld (nth (A45.bl a) (Int.toNat k)) 3) 1)), AV.int (toInt (fld (fld (nth (A45.bl a) (Int.toNat k)) 3) 2)), AV.lst 43 (toLst (fld (fld
  (nth (A45.bl a) (Int.toNat k)) 3) 3))]]], nilO) = ([AV.agg [AV.int (LA.op a_1), AV.agg [AV.str (LA.s a_1), AV.lst 43 (LA.l a_1)], AV.agg [AV.int (LA.o1 a_1),
  AV.str (LA.s1 a_1), AV.int (LA.n1 a_1), AV.lst 43 (LA.l1 a_1)], AV.agg [AV.int (LA.o2 a_1), AV.str (LA.s2 a_1), AV.int (LA.n2 a_1), AV.lst 43 (LA.l2 a_1)]]],
  nilO) ∧ sideLV a_1 ∧ cnd (decide (List.length (strs (litR (LA.lt a_1))) ≤ 9223372036854775807) && decide (List.length b ≤ 9223372036854775807)) (brn (toInt
  (fld (nth (A45.bl a) (Int.toNat k)) 0) == (1 : Int)) (∃ (a_2 : AA), ([AV.agg [AV.str (toStr (fld (fld (nth (A45.bl a) (Int.toNat k)) 1) 0)), AV.lst 43 (toLst
  (fld (fld (nth (A45.bl a) (Int.toNat k)) 1) 1))]], nilO) = ([AV.agg [AV.str (Prod.fst a_2), AV.lst 43 (Prod.snd a_2)]], nilO) ∧ sideAA a_2 ∧ cnd (decide
  (List.length (strs (reckF (At.l (AA.at a_2)) [])) ≤ 9223372036854775807) && decide (List.length b ≤ 9223372036854775807)) (K (AV.bool (withinA (strs (reckF
  (At.l (AA.at a_2)) [])) b)) [])) (brn (toInt (fld (nth (A45.bl a) (Int.toNat k)) 0) == (2 : Int)) (K (AV.bool (withinA (strs (litR (LA.lt a_1))) b)) []) (brn
  (toInt (fld (nth (A45.bl a) (Int.toNat k)) 0) == (4 : Int)) (K (AV.bool (withinA (strs (litR (LA.lt a_1))) b)) []) (brn (toInt (fld (nth (A45.bl a) (Int.toNat
  k)) 0) == (5 : Int)) (K (AV.bool (withinA (strs (litR (LA.lt a_1))) b)) []) (brn (toInt (fld (nth (A45.bl a) (Int.toNat k)) 0) == (6 : Int)) (K (AV.bool
  (withinA (strs (litR (LA.lt a_1))) b)) []) (brn (toInt (fld (nth (A45.bl a) (Int.toNat k)) 0) == (3 : Int)) (cnd (decide (Tm.cnt (Tm.mk (toInt (fld (fld (nth
  (A45.bl a) (Int.toNat k)) 3) 0)) (toStr (fld (fld (nth (A45.bl a) (Int.toNat k)) 3) 1)) (toInt (fld (fld (nth (A45.bl a) (Int.toNat k)) 3) 2)) (tmsOf (toLst
  (fld (fld (nth (A45.bl a) (Int.toNat k)) 3) 3)))) ≤ 100000) && decide (List.length b ≤ 1000000)) (cnd (decide (Tm.cnt (Tm.mk (toInt (fld (fld (nth (A45.bl a)
  (Int.toNat k)) 2) 0)) (toStr (fld (fld (nth (A45.bl a) (Int.toNat k)) 2) 1)) (toInt (fld (fld (nth (A45.bl a) (Int.toNat k)) 2) 2)) (tmsOf (toLst (fld (fld
  (nth (A45.bl a) (Int.toNat k)) 2) 3)))) ≤ 100000) && decide (List.length b ≤ 1000000)) (brn (withinA (strs (litR (LA.lt a_1))) b) (K (AV.bool true) []) (brn
  (bindsF (List.map toStr b) (Tm.mk (toInt (fld (fld (nth (A45.bl a) (Int.toNat k)) 2) 0)) (toStr (fld (fld (nth (A45.bl a) (Int.toNat k)) 2) 1)) (toInt (fld
  (fld (nth (A45.bl a) (Int.toNat k)) 2) 2)) (tmsOf (toLst (fld (fld (nth (A45.bl a) (Int.toNat k)) 2) 3)))) (Tm.mk (toInt (fld (fld (nth (A45.bl a) (Int.toNat
  k)) 3) 0)) (toStr (fld (fld (nth (A45.bl a) (Int.toNat k)) 3) 1)) (toInt (fld (fld (nth (A45.bl a) (Int.toNat k)) 3) 2)) (tmsOf (toLst (fld (fld (nth (A45.bl
  a) (Int.toNat k)) 3) 3))))) (K (AV.bool true) []) (K (AV.bool (bindsF (List.map toStr b) (Tm.mk (toInt (fld (fld (nth (A45.bl a) (Int.toNat k)) 3) 0)) (toStr
  (fld (fld (nth (A45.bl a) (Int.toNat k)) 3) 1)) (toInt (fld (fld (nth (A45.bl a) (Int.toNat k)) 3) 2)) (tmsOf (toLst (fld (fld (nth (A45.bl a) (Int.toNat k))
  3) 3)))) (Tm.mk (toInt (fld (fld (nth (A45.bl a) (Int.toNat k)) 2) 0)) (toStr (fld (fld (nth (A45.bl a) (Int.toNat k)) 2) 1)) (toInt (fld (fld (nth (A45.bl a)
  (Int.toNat k)) 2) 2)) (tmsOf (toLst (fld (fld (nth (A45.bl a) (Int.toNat k)) 2) 3)))))) []))))) (∃ (a_2 : AA), ([AV.agg [AV.str (toStr (fld (fld (nth (A45.bl
  a) (Int.toNat k)) 1) 0)), AV.lst 43 (toLst (fld (fld (nth (A45.bl a) (Int.toNat k)) 1) 1))]], nilO) = ([AV.agg [AV.str (Prod.fst a_2), AV.lst 43 (Prod.snd
  a_2)]], nilO) ∧ sideAA a_2 ∧ ∃ (a_3 : AP), ([AV.agg [AV.agg [AV.str (A45.rel a), AV.lst 43 (A45.hl a)], AV.lst 46 (A45.bl a), AV.int (A45.line a)], AV.int k],
  nilO) = ([AV.agg [AV.agg [AV.str (A45.rel (Prod.fst a_3)), AV.lst 43 (A45.hl (Prod.fst a_3))], AV.lst 46 (A45.bl (Prod.fst a_3)), AV.int (A45.line (Prod.fst
  a_3))], AV.int (Prod.snd a_3)], nilO) ∧ ((cntL (tmsOf (ruleTs 43 (A45.hl (Prod.fst a_3)) (A45.bl (Prod.fst a_3)))) ≤ 100000 ∧ List.length (A45.bl (Prod.fst
  a_3)) ≤ 100000) ∧ (0 : Int) ≤ Prod.snd a_3 ∧ Prod.snd a_3 < (↑(List.length (A45.bl (Prod.fst a_3))) : Int)) ∧ cnd (decide (List.length (strs (outerF (rOf
  (Prod.fst a_3)) (Int.toNat (Prod.snd a_3)))) ≤ 9223372036854775807) && decide (List.length b ≤ 9223372036854775807)) (brn (withinA (strs (outerF (rOf (Prod.fst
  a_3)) (Int.toNat (Prod.snd a_3)))) b) (∃ (a_4 : AA), ([AV.agg [AV.str (toStr (fld (fld (nth (A45.bl a) (Int.toNat k)) 1) 0)), AV.lst 43 (toLst (fld (fld (nth
  (A45.bl a) (Int.toNat k)) 1) 1))]], nilO) = ([AV.agg [AV.str (Prod.fst a_4), AV.lst 43 (Prod.snd a_4)]], nilO) ∧ sideAA a_4 ∧ cnd (decide (List.length (strs
  (reckF (At.l (AA.at a_4)) [])) ≤ 9223372036854775807) && decide (List.length b ≤ 9223372036854775807)) (brn (withinA (strs (reckF (At.l (AA.at a_4)) [])) b)
  (brn (toInt (fld (nth (A45.bl a) (Int.toNat k)) 0) == (7 : Int)) (K (AV.bool true) []) (cnd (decide (List.length (strs (atomR (AA.at a_2))) ≤
  9223372036854775807)) (K (AV.bool (decide (placeS (toStr (fld (fld (nth (A45.bl a) (Int.toNat k)) 3) 1)) (strs (atomR (AA.at a_2))) (0 : Int) ≥ (0 : Int))))
  []))) (K (AV.bool false) []))) (K (AV.bool false) []))))))))))) := by kernel_rfl
def gRe : List AV → Option (Bool × AV)
  | [.agg [.agg [.lit (.string rel), .lst 43 hl], .lst 46 bl, .lit (.int .i64 _)], .lit (.int .i64 k), .lst 9 b] =>
    some (decide (cntL (tmsOf (ruleTs 43 hl bl)) ≤ 100000) && decide (bl.length ≤ 100000) && (decide (0 ≤ k) && decide (k < bl.length)) && decide (b.length ≤ 1000000), .bool (readyF (b.map toStr) ⟨⟨rel, tmsOf hl⟩, ltsOf bl⟩ k.toNat))
  | _ => none
theorem lit_parts (x : AV) : litC (ltOf x) = cntL [tmOf (fld x 2), tmOf (fld x 3)] + cntL (tmsOf (toLst (fld (fld x 1) 1))) := rfl
theorem outerF_le {a : A45} (h : side42 a) (k : Nat) : (outerF (rOf a) k).length ≤ 1000000 := Nat.le_trans (List.length_filter_le _ _) (varsF_le h)
theorem pRe (κ : Kp) : PureOk (EB κ) 12 78 gRe := by
  intro args x hh
  unfold gRe at hh
  split at hh
  · rename_i rel hl bl line k b
    simp only [Option.some.injEq, Prod.mk.injEq, Bool.and_eq_true, decide_eq_true_eq] at hh
    obtain ⟨⟨⟨⟨h1, h2⟩, h3, h4⟩, h5⟩, rfl⟩ := hh
    refine ⟨_, rfl, rfl, ?_⟩
    let a : A45 := ⟨[], [], rel, hl, bl, line, 0⟩
    have hs : side42 a := ⟨h1, h2⟩
    refine Eq.mpr (yRe κ a k b _) ?_
    have hk : k.toNat < bl.length := by omega
    have hlit : litC (ltOf (nth bl k.toNat)) ≤ 100000 := side_lit hs hk
    have hb : (nthLt (ltsOf bl) k.toNat) = ltOf (nth bl k.toNat) := nthLt_lts bl hk
    have hv : readyF (b.map toStr) ⟨⟨rel, tmsOf hl⟩, ltsOf bl⟩ k.toNat =
        bif decide (toInt (fld (nth bl k.toNat) 0) = 1) then hasB (b.map toStr) (reckF (tmsOf (toLst (fld (fld (nth bl k.toNat) 1) 1))) [])
        else bif decide (toInt (fld (nth bl k.toNat) 0) = 2) || decide (toInt (fld (nth bl k.toNat) 0) = 4) || decide (toInt (fld (nth bl k.toNat) 0) = 5) || decide (toInt (fld (nth bl k.toNat) 0) = 6) then hasB (b.map toStr) (litR (ltOf (nth bl k.toNat)))
        else bif decide (toInt (fld (nth bl k.toNat) 0) = 3) then hasB (b.map toStr) (litR (ltOf (nth bl k.toNat))) || bindsF (b.map toStr) (tmOf (fld (nth bl k.toNat) 2)) (tmOf (fld (nth bl k.toNat) 3)) || bindsF (b.map toStr) (tmOf (fld (nth bl k.toNat) 3)) (tmOf (fld (nth bl k.toNat) 2))
        else hasB (b.map toStr) (outerF (rOf a) k.toNat) && hasB (b.map toStr) (reckF (tmsOf (toLst (fld (fld (nth bl k.toNat) 1) 1))) []) && (decide (toInt (fld (nth bl k.toNat) 0) = 7) || (atomR (ltOf (nth bl k.toNat)).a).contains (toStr (fld (fld (nth bl k.toNat) 3) 1))) := by
      have hy : (tmOf (fld (nth bl k.toNat) 3)).s = toStr (fld (fld (nth bl k.toNat) 3) 1) := by rw [tmOf_eq]; rfl
      unfold readyF
      show (bif decide ((nthLt (ltsOf bl) k.toNat).op = 1) then _ else _) = _
      simp only [hb]
      rw [← hy]; rfl
    rw [hv]
    have hp := lit_parts (nth bl k.toNat)
    simp only [cntL] at hp
    have hc : cntL (tmsOf (toLst (fld (fld (nth bl k.toNat) 1) 1))) ≤ 100000 := by omega
    have r1 := litR_len (ltOf (nth bl k.toNat))
    have r2 := reckF_len (tmsOf (toLst (fld (fld (nth bl k.toNat) 1) 1))) []
    have r3 := outerF_le hs k.toNat
    have r4 := rvL_len (tmsOf (toLst (fld (fld (nth bl k.toNat) 1) 1))) []
    simp only [List.length_nil] at r2 r4
    simp only [← tmOf_eq]
    rw [cnd_iff, Bool.and_eq_true, decide_eq_true_eq, decide_eq_true_eq]
    refine ⟨⟨h3, h4⟩, laOf (nth bl k.toNat), rfl, by rw [sideLV, laOf_lt]; exact hlit, ?_⟩
    simp only [within_map, laOf_lt, strs_len]
    rw [cnd_iff, Bool.and_eq_true, decide_eq_true_eq, decide_eq_true_eq]
    refine ⟨⟨by omega, by omega⟩, ?_⟩
    show brn (toInt (fld (nth bl k.toNat) 0) == 1) _ _
    rw [brn_iff, beq_iff_eq, beq_eq_false_iff_ne]
    refine ⟨fun e1 => ?_, fun e1 => ?_⟩
    · rw [decide_eq_true e1, cond_true]
      refine ⟨(toStr (fld (fld (nth bl k.toNat) 1) 0), toLst (fld (fld (nth bl k.toNat) 1) 1)), rfl, hc, ?_⟩
      rw [cnd_iff, Bool.and_eq_true, decide_eq_true_eq, decide_eq_true_eq]
      exact ⟨⟨by show (reckF (tmsOf (toLst (fld (fld (nth bl k.toNat) 1) 1))) []).length ≤ _; omega, by omega⟩, rfl⟩
    rw [decide_eq_false e1, cond_false]
    show brn (toInt (fld (nth bl k.toNat) 0) == 2) _ _
    rw [brn_iff, beq_iff_eq, beq_eq_false_iff_ne]
    refine ⟨fun e2 => by rw [decide_eq_true e2]; rfl, fun e2 => ?_⟩
    rw [decide_eq_false e2, Bool.false_or]
    show brn (toInt (fld (nth bl k.toNat) 0) == 4) _ _
    rw [brn_iff, beq_iff_eq, beq_eq_false_iff_ne]
    refine ⟨fun e4 => by rw [decide_eq_true e4]; rfl, fun e4 => ?_⟩
    rw [decide_eq_false e4, Bool.false_or]
    show brn (toInt (fld (nth bl k.toNat) 0) == 5) _ _
    rw [brn_iff, beq_iff_eq, beq_eq_false_iff_ne]
    refine ⟨fun e5 => by rw [decide_eq_true e5]; rfl, fun e5 => ?_⟩
    rw [decide_eq_false e5, Bool.false_or]
    show brn (toInt (fld (nth bl k.toNat) 0) == 6) _ _
    rw [brn_iff, beq_iff_eq, beq_eq_false_iff_ne]
    refine ⟨fun e6 => by rw [decide_eq_true e6]; rfl, fun e6 => ?_⟩
    rw [decide_eq_false e6, cond_false]
    show brn (toInt (fld (nth bl k.toNat) 0) == 3) _ _
    rw [brn_iff, beq_iff_eq, beq_eq_false_iff_ne]
    refine ⟨fun e3 => ?_, fun e3 => ?_⟩
    · rw [decide_eq_true e3, cond_true]
      rw [cnd_iff, cnd_iff, Bool.and_eq_true, Bool.and_eq_true, decide_eq_true_eq, decide_eq_true_eq, decide_eq_true_eq]
      refine ⟨⟨by show (tmOf (fld (nth bl k.toNat) 3)).cnt ≤ _; omega, h5⟩, ⟨by show (tmOf (fld (nth bl k.toNat) 2)).cnt ≤ _; omega, h5⟩, ?_⟩
      show brn (hasB (b.map toStr) (litR (ltOf (nth bl k.toNat)))) _ (brn (bindsF (b.map toStr) (tmOf (fld (nth bl k.toNat) 2)) (tmOf (fld (nth bl k.toNat) 3))) _ _)
      cases hasB (b.map toStr) (litR (ltOf (nth bl k.toNat)))
      · cases bindsF (b.map toStr) (tmOf (fld (nth bl k.toNat) 2)) (tmOf (fld (nth bl k.toNat) 3)) <;> rfl
      · rfl
    · rw [decide_eq_false e3, cond_false]
      refine ⟨(toStr (fld (fld (nth bl k.toNat) 1) 0), toLst (fld (fld (nth bl k.toNat) 1) 1)), rfl, hc, (a, k), rfl, ⟨hs, h3, h4⟩, ?_⟩
      rw [cnd_iff, Bool.and_eq_true, decide_eq_true_eq, decide_eq_true_eq]
      refine ⟨⟨by show (outerF (rOf a) k.toNat).length ≤ _; omega, by omega⟩, ?_⟩
      show brn (hasB (b.map toStr) (outerF (rOf a) k.toNat)) _ _
      cases hasB (b.map toStr) (outerF (rOf a) k.toNat)
      · rfl
      · refine ⟨(toStr (fld (fld (nth bl k.toNat) 1) 0), toLst (fld (fld (nth bl k.toNat) 1) 1)), rfl, hc, ?_⟩
        rw [cnd_iff, Bool.and_eq_true, decide_eq_true_eq, decide_eq_true_eq]
        refine ⟨⟨by show (reckF (tmsOf (toLst (fld (fld (nth bl k.toNat) 1) 1))) []).length ≤ _; omega, by omega⟩, ?_⟩
        show brn (hasB (b.map toStr) (reckF (tmsOf (toLst (fld (fld (nth bl k.toNat) 1) 1))) [])) _ _
        cases hasB (b.map toStr) (reckF (tmsOf (toLst (fld (fld (nth bl k.toNat) 1) 1))) [])
        · rfl
        · show brn (toInt (fld (nth bl k.toNat) 0) == 7) _ _
          rw [brn_iff, beq_iff_eq, beq_eq_false_iff_ne]
          refine ⟨fun e7 => by rw [decide_eq_true e7]; rfl, fun e7 => ?_⟩
          rw [decide_eq_false e7, cnd_iff, decide_eq_true_eq]
          refine ⟨by show (rvL (tmsOf (toLst (fld (fld (nth bl k.toNat) 1) 1))) []).length ≤ _; omega, ?_⟩
          rw [placeS_ge _ _ 0 (by omega)]; rfl
  · cases hh
noncomputable def ERe (κ : Kp) : Env := (EB κ).addPure 78 gRe
theorem eRe (κ : Kp) : EnvOK (ERe κ) := (eB κ).addPure (mB κ) (pRe κ)
theorem mRe (κ : Kp) : EnvMono (ERe κ) := (mB κ).addPure
theorem yGa (κ : Kp) (a : A45) (k : Int) (K : AV → List Dn.Obj → Prop) : (funA (ERe κ) 12 53 [rl45 a, .int k] [] K) = (
  cnd (decide ((0 : Int) ≤ k) && decide (k < (↑(List.length (A45.bl a)) : Int))) (brn (decide (toInt (fld (nth (A45.bl a) (Int.toNat k)) 0) ≥ (7 : Int))) ((∃ (a_1
  : AT), ([AV.agg [AV.int (toInt (fld (fld (nth (A45.bl a) (Int.toNat k)) 2) 0)), AV.str (toStr (fld (fld (nth (A45.bl a) (Int.toNat k)) 2) 1)), AV.int (toInt
  (fld (fld (nth (A45.bl a) (Int.toNat k)) 2) 2)), AV.lst 43 (toLst (fld (fld (nth (A45.bl a) (Int.toNat k)) 2) 3))]], nilO) = ([AV.agg [AV.int (AT.op a_1),
  AV.str (AT.s a_1), AV.int (AT.n a_1), AV.lst 43 (AT.l a_1)]], nilO) ∧ sideTa a_1 ∧ ∃ (a_2 : AP), ([AV.agg [AV.agg [AV.str (A45.rel a), AV.lst 43 (A45.hl a)],
  AV.lst 46 (A45.bl a), AV.int (A45.line a)], AV.int k], nilO) = ([AV.agg [AV.agg [AV.str (A45.rel (Prod.fst a_2)), AV.lst 43 (A45.hl (Prod.fst a_2))], AV.lst 46
  (A45.bl (Prod.fst a_2)), AV.int (A45.line (Prod.fst a_2))], AV.int (Prod.snd a_2)], nilO) ∧ ((cntL (tmsOf (ruleTs 43 (A45.hl (Prod.fst a_2)) (A45.bl (Prod.fst
  a_2)))) ≤ 100000 ∧ List.length (A45.bl (Prod.fst a_2)) ≤ 100000) ∧ (0 : Int) ≤ Prod.snd a_2 ∧ Prod.snd a_2 < (↑(List.length (A45.bl (Prod.fst a_2))) : Int)) ∧
  ∃ (a : List ByteArray × List ByteArray), ([AV.lst 9 (strs (Tm.rv (AT.tm a_1))), AV.lst 9 (strs (outerF (rOf (Prod.fst a_2)) (Int.toNat (Prod.snd a_2))))],
  nilO) = ([AV.lst 9 (strs (Prod.fst a)), AV.lst 9 (strs (Prod.snd a))], nilO) ∧ (List.length (Prod.fst a) ≤ 1000000 ∧ List.length (Prod.snd a) ≤ 1000000) ∧ K
  (AV.lst 9 (strs (withB (Prod.fst a) (Prod.snd a)))) []) ∧ ∃ (a_1 : AT), ([AV.agg [AV.int (toInt (fld (fld (nth (A45.bl a) (Int.toNat k)) 2) 0)), AV.str (toStr
  (fld (fld (nth (A45.bl a) (Int.toNat k)) 2) 1)), AV.int (toInt (fld (fld (nth (A45.bl a) (Int.toNat k)) 2) 2)), AV.lst 43 (toLst (fld (fld (nth (A45.bl a)
  (Int.toNat k)) 2) 3))]], nilO) = ([AV.agg [AV.int (AT.op a_1), AV.str (AT.s a_1), AV.int (AT.n a_1), AV.lst 43 (AT.l a_1)]], nilO) ∧ sideTa a_1 ∧ ∃ (a_2 : AP),
  ([AV.agg [AV.agg [AV.str (A45.rel a), AV.lst 43 (A45.hl a)], AV.lst 46 (A45.bl a), AV.int (A45.line a)], AV.int k], nilO) = ([AV.agg [AV.agg [AV.str (A45.rel
  (Prod.fst a_2)), AV.lst 43 (A45.hl (Prod.fst a_2))], AV.lst 46 (A45.bl (Prod.fst a_2)), AV.int (A45.line (Prod.fst a_2))], AV.int (Prod.snd a_2)], nilO) ∧
  ((cntL (tmsOf (ruleTs 43 (A45.hl (Prod.fst a_2)) (A45.bl (Prod.fst a_2)))) ≤ 100000 ∧ List.length (A45.bl (Prod.fst a_2)) ≤ 100000) ∧ (0 : Int) ≤ Prod.snd a_2
  ∧ Prod.snd a_2 < (↑(List.length (A45.bl (Prod.fst a_2))) : Int)) ∧ ∃ (a : List ByteArray × List ByteArray), ([AV.lst 9 (strs (Tm.rv (AT.tm a_1))), AV.lst 9
  (strs (outerF (rOf (Prod.fst a_2)) (Int.toNat (Prod.snd a_2))))], nilO) = ([AV.lst 9 (strs (Prod.fst a)), AV.lst 9 (strs (Prod.snd a))], nilO) ∧ (List.length
  (Prod.fst a) ≤ 1000000 ∧ List.length (Prod.snd a) ≤ 1000000) ∧ K (AV.lst 9 (strs (withB (Prod.fst a) (Prod.snd a)))) []) (∃ (a_1 : LA), ([AV.agg [AV.int (toInt
  (fld (nth (A45.bl a) (Int.toNat k)) 0)), AV.agg [AV.str (toStr (fld (fld (nth (A45.bl a) (Int.toNat k)) 1) 0)), AV.lst 43 (toLst (fld (fld (nth (A45.bl a)
  (Int.toNat k)) 1) 1))], AV.agg [AV.int (toInt (fld (fld (nth (A45.bl a) (Int.toNat k)) 2) 0)), AV.str (toStr (fld (fld (nth (A45.bl a) (Int.toNat k)) 2) 1)),
  AV.int (toInt (fld (fld (nth (A45.bl a) (Int.toNat k)) 2) 2)), AV.lst 43 (toLst (fld (fld (nth (A45.bl a) (Int.toNat k)) 2) 3))], AV.agg [AV.int (toInt (fld
  (fld (nth (A45.bl a) (Int.toNat k)) 3) 0)), AV.str (toStr (fld (fld (nth (A45.bl a) (Int.toNat k)) 3) 1)), AV.int (toInt (fld (fld (nth (A45.bl a) (Int.toNat
  k)) 3) 2)), AV.lst 43 (toLst (fld (fld (nth (A45.bl a) (Int.toNat k)) 3) 3))]]], nilO) = ([AV.agg [AV.int (LA.op a_1), AV.agg [AV.str (LA.s a_1), AV.lst 43
  (LA.l a_1)], AV.agg [AV.int (LA.o1 a_1), AV.str (LA.s1 a_1), AV.int (LA.n1 a_1), AV.lst 43 (LA.l1 a_1)], AV.agg [AV.int (LA.o2 a_1), AV.str (LA.s2 a_1), AV.int
  (LA.n2 a_1), AV.lst 43 (LA.l2 a_1)]]], nilO) ∧ sideLV a_1 ∧ K (AV.lst 9 (strs (litR (LA.lt a_1)))) []))) := by kernel_rfl
def outGa (a : AP) : Out (AV × List Dn.Obj) := .one (.lst 9 (strs (gainsF (rOf a.1) a.2.toNat)), [])
theorem cGa (κ : Kp) : CallOk (ERe κ) 12 53 (callE stRK sideRK outGa) := by
  refine callE_ok ?_
  rintro ⟨a, k⟩ K ⟨h1, h3, h4⟩ ho
  simp only at h1 h3 h4
  refine Eq.mpr (yGa κ a k K) ?_
  simp only [outGa, Out.run, gainsF] at ho
  have hk : k.toNat < a.bl.length := by omega
  have hlit : litC (ltOf (nth a.bl k.toNat)) ≤ 100000 := side_lit h1 hk
  have hb : (nthLt (rOf a).body k.toNat) = ltOf (nth a.bl k.toNat) := nthLt_lts a.bl hk
  rw [hb] at ho
  have hp := lit_parts (nth a.bl k.toNat)
  simp only [cntL] at hp
  have r3 := outerF_le h1 k.toNat
  have r5 := Tm.rv_len (tmOf (fld (nth a.bl k.toNat) 2))
  simp only [and_self]
  rw [cnd_iff, Bool.and_eq_true, decide_eq_true_eq, decide_eq_true_eq, brn_iff, decide_eq_true_eq, decide_eq_false_iff_not]
  refine ⟨⟨h3, h4⟩, fun e => ?_, fun e => ?_⟩
  · rw [decide_eq_true (show (ltOf (nth a.bl k.toNat)).op ≥ 7 from e)] at ho
    exact ⟨atv (fld (nth a.bl k.toNat) 2), rfl, by rw [sideTa, atv_tm]; omega, (a, k), rfl, ⟨h1, h3, h4⟩, (Tm.rv (tmOf (fld (nth a.bl k.toNat) 2)), outerF (rOf a) k.toNat), by rw [atv_tm], ⟨by simp only; omega, r3⟩, ho⟩
  · rw [decide_eq_false (show ¬ (ltOf (nth a.bl k.toNat)).op ≥ 7 from e)] at ho
    exact ⟨laOf (nth a.bl k.toNat), rfl, by rw [sideLV, laOf_lt]; exact hlit, by rw [laOf_lt]; exact ho⟩
noncomputable def EGa (κ : Kp) : Env := (ERe κ).addCall 53 (callE stRK sideRK outGa)
theorem eGa (κ : Kp) : EnvOK (EGa κ) := (eRe κ).addCall (mRe κ) (cGa κ)
theorem mGa (κ : Kp) : EnvMono (EGa κ) := (mRe κ).addCall callE_mono
end Go.Proofs.YtpgahkbkfflkaaaGreatDoor
namespace Go.Proofs.YtpgahkbkfflkaaaGreatDoor
open Go Go.Dn Go.Rl Go.Proofs
attribute [local irreducible] funA vc
set_option maxRecDepth 20000
theorem xN1 (κ : Kp) (a : A45) (done b : List AV) (rd k : Int) (I : Nat → S → Prop) (n : Nat) (K : Exit → S → Prop) : (vc (EGa κ) 12 51 none 1 (loopCode (Pr κ).toProgram 51 5) (sp 48 [(1, .slc 0 0 done.length), (2, .lst 9 b), (3, .ptr 1 0 [] 0), (7, .int rd), (8, .int k)] [.row 4 done, .box 27 (rl45 a)]) (loopK (EGa κ) 51 5 1 I n K)) = (
  brn (decide (k < (↑(List.length (A45.bl a)) : Int))) (cnd (decide ((0 : Int) ≤ k) && decide (k < (↑(List.length (A45.bl a)) : Int))) (cnd (decide (cntL (tmsOf
  (ruleTs 43 (A45.hl a) (A45.bl a))) ≤ 100000) && decide (List.length (A45.bl a) ≤ 100000) && (decide ((0 : Int) ≤ k) && decide (k < (↑(List.length (A45.bl a)) :
  Int))) && decide (List.length b ≤ 1000000)) (cnd (decide ((0 : Int) ≤ k) && decide (k < (↑(List.length done) : Int))) (brn (!Dn.toBool (nth done (0 + Int.toNat
  k))) (brn ((toInt (fld (nth (A45.bl a) (Int.toNat k)) 0) == (1 : Int)) == (rd == (1 : Int))) (brn (readyF (List.map toStr b)
  { head := { rel := A45.rel a, l := tmsOf (A45.hl a) }, body := ltsOf (A45.bl a) } (Int.toNat k)) (K Exit.ret (sp 48 [(6, AV.int k)] [Obj.row 4 done])) (∃ (m :
  Nat), m < n ∧ I m (sp 48 [(1, AV.slc 0 0 (List.length done)), (2, AV.lst 9 b), (3, AV.ptr 1 0 [] 0), (7, AV.int rd), (8, AV.int (IntKind.wrap IntKind.i64 (k +
  (1 : Int))))] [Obj.row 4 done, Obj.box 27 (AV.agg [AV.agg [AV.str (A45.rel a), AV.lst 43 (A45.hl a)], AV.lst 46 (A45.bl a), AV.int (A45.line a)])]))) (∃ (m :
  Nat), m < n ∧ I m (sp 48 [(1, AV.slc 0 0 (List.length done)), (2, AV.lst 9 b), (3, AV.ptr 1 0 [] 0), (7, AV.int rd), (8, AV.int (IntKind.wrap IntKind.i64 (k +
  (1 : Int))))] [Obj.row 4 done, Obj.box 27 (AV.agg [AV.agg [AV.str (A45.rel a), AV.lst 43 (A45.hl a)], AV.lst 46 (A45.bl a), AV.int (A45.line a)])]))) (∃ (m :
  Nat), m < n ∧ I m (sp 48 [(1, AV.slc 0 0 (List.length done)), (2, AV.lst 9 b), (3, AV.ptr 1 0 [] 0), (7, AV.int rd), (8, AV.int (IntKind.wrap IntKind.i64 (k +
  (1 : Int))))] [Obj.row 4 done, Obj.box 27 (AV.agg [AV.agg [AV.str (A45.rel a), AV.lst 43 (A45.hl a)], AV.lst 46 (A45.bl a), AV.int (A45.line a)])])))))) (K
  (Exit.exit 2) (sp 48 [(1, AV.slc 0 0 (List.length done)), (2, AV.lst 9 b), (3, AV.ptr 1 0 [] 0), (7, AV.int rd)] [Obj.row 4 done, Obj.box 27 (AV.agg [AV.agg
  [AV.str (A45.rel a), AV.lst 43 (A45.hl a)], AV.lst 46 (A45.bl a), AV.int (A45.line a)])]))) := by kernel_rfl
structure AN where
  a : A45
  done : List Bool
  b : List ByteArray
  rd : Int
  k : Int
abbrev rgN (a : AN) : List (Nat × AV) := [(1, .slc 0 0 (bools a.done).length), (2, .lst 9 (strs a.b)), (3, .ptr 1 0 [] 0), (7, .int a.rd)]
abbrev bxN (a : AN) : List Dn.Obj := [.row 4 (bools a.done), .box 27 (rl45 a.a)]
abbrev stN1 (a : AN) : S := sp 48 [(1, .slc 0 0 (bools a.done).length), (2, .lst 9 (strs a.b)), (3, .ptr 1 0 [] 0), (7, .int a.rd), (8, .int a.k)] (bxN a)
def sideN (a : AN) : Prop := side42 a.a ∧ a.done.length = a.a.bl.length ∧ a.b.length ≤ 1000000
def sideN1 (a : AN) : Prop := sideN a ∧ 0 ≤ a.k ∧ a.k ≤ a.a.bl.length
def fstN (a : AN) : Int := firstI (okF (rOf a.a) a.done a.b (a.rd == 1)) (a.a.bl.length - a.k.toNat) a.k.toNat
def outN1 (a : AN) : Out (Exit × S) := .brn (decide (0 ≤ fstN a)) (.one (.ret, sp 48 [(6, .int (fstN a))] [.row 4 (bools a.done)])) (.one (.exit 2, sp 48 (rgN a) (bxN a)))
theorem lN1 (κ : Kp) : LoopOk (EGa κ) 12 51 5 (loopE 1 stN1 sideN1 outN1) := by
  refine loopE_ok (fun a => a.a.bl.length - a.k.toNat) ?_
  rintro ⟨a, done, b, rd, k⟩ K ⟨⟨h1, h5, h6⟩, h2, h3⟩ ho
  simp only at h1 h2 h3 h5 h6
  rw [show (EGa κ).P = Pr κ from rfl]
  refine Eq.mpr (xN1 κ a (bools done) (strs b) rd k _ _ K) ?_
  have hl := h1.2
  simp only [outN1, Out.run, brn_iff] at ho
  simp only [strs_map, strs_len, bools_len, Nat.zero_add, bools_nth] at ho ⊢
  rw [brn_iff, decide_eq_true_eq, decide_eq_false_iff_not]
  refine ⟨fun hi => ?_, fun hi => ?_⟩
  · have hk : k.toNat < a.bl.length := by omega
    have hb : (nthLt (rOf a).body k.toNat) = ltOf (nth a.bl k.toNat) := nthLt_lts a.bl hk
    have hf : fstN ⟨a, done, b, rd, k⟩ = bif okF (rOf a) done b (rd == 1) k.toNat then (k.toNat : Int) else fstN ⟨a, done, b, rd, k + 1⟩ := by
      unfold fstN
      simp only [show (k + 1).toNat = k.toNat + 1 by omega]
      rw [show a.bl.length - k.toNat = (a.bl.length - (k.toNat + 1)) + 1 by omega, firstI]
    have ho2 : okF (rOf a) done b (rd == 1) k.toNat = (!Rl.nthB done k.toNat && ((toInt (fld (nth a.bl k.toNat) 0) == 1) == (rd == 1)) && readyF b ⟨⟨a.rel, tmsOf a.hl⟩, ltsOf a.bl⟩ k.toNat) := by
      unfold okF
      rw [hb, eqI (toInt (fld (nth a.bl k.toNat) 0)) 1]; rfl
    rw [ho2] at hf
    have go : fstN ⟨a, done, b, rd, k⟩ = fstN ⟨a, done, b, rd, k + 1⟩ → ∃ m, m < a.bl.length - k.toNat ∧ invOf stN1 sideN1 outN1 (fun a => a.a.bl.length - a.k.toNat) K m (stN1 ⟨a, done, b, rd, k + 1⟩) := fun e => by
      rw [e] at ho
      refine ⟨_, ?_, ⟨a, done, b, rd, k + 1⟩, rfl, ⟨⟨h1, h5, h6⟩, by simp only; omega, by simp only; omega⟩, rfl, ?_⟩
      · simp only; omega
      · simp only [outN1, Out.run, brn_iff, bools_len, strs_len]
        exact ho
    simp only [stN1, bools_len] at go
    rw [wrap_ok (n := k + 1) (by omega) (by omega)]
    simp only [cnd_iff, Bool.and_eq_true, decide_eq_true_eq]
    refine ⟨⟨h2, hi⟩, ⟨⟨⟨h1.1, h1.2⟩, h2, hi⟩, h6⟩, ⟨h2, by omega⟩, ?_⟩
    cases e1 : Rl.nthB done k.toNat with
    | true => exact go (by rw [hf, e1]; rfl)
    | false =>
      cases e2 : ((toInt (fld (nth a.bl k.toNat) 0) == 1) == (rd == 1)) with
      | false => exact go (by rw [hf, e2, e1]; rfl)
      | true =>
        cases e3 : readyF b ⟨⟨a.rel, tmsOf a.hl⟩, ltsOf a.bl⟩ k.toNat with
        | false => exact go (by rw [hf, e3, e2, e1]; rfl)
        | true =>
          rw [e1, e2, e3] at hf
          have hf' : fstN ⟨a, done, b, rd, k⟩ = k := by rw [hf]; exact Int.toNat_of_nonneg h2
          rw [hf'] at ho
          exact ho.1 (decide_eq_true h2)
  · have hf : fstN ⟨a, done, b, rd, k⟩ = -1 := by
      unfold fstN
      simp only [show a.bl.length - k.toNat = 0 by omega]; rfl
    rw [hf] at ho
    have := ho.2 rfl
    simp only [rgN, bools_len] at this
    exact this
noncomputable def EN1 (κ : Kp) : Env := (EGa κ).addLoop 51 5 (loopE 1 stN1 sideN1 outN1)
theorem eN1 (κ : Kp) : EnvOK (EN1 κ) := (eGa κ).addLoop (mGa κ) (lN1 κ)
theorem mN1 (κ : Kp) : EnvMono (EN1 κ) := (mGa κ).addLoop loopE_mono
theorem xN2 (κ : Kp) (a : AN) (I : Nat → S → Prop) (n : Nat) (K : Exit → S → Prop) : (vc (EN1 κ) 12 51 none 1 (loopCode (Pr κ).toProgram 51 2) (sp 48 (rgN a) (bxN a)) (loopK (EN1 κ) 51 2 1 I n K)) = (
  brn (decide (AN.rd a < (2 : Int))) (loopCode (Pg.toProgram (Env.P (EGa κ))) 51 5 = loopCode (Pg.toProgram (Env.P (EGa κ))) 51 5 ∧ ∃ (a_1 : AN), sp 48 [(1, AV.slc
  0 0 (List.length (bools (AN.done a)))), (2, AV.lst 9 (strs (AN.b a))), (3, AV.ptr 1 0 [] 0), (7, AV.int (AN.rd a)), (8, AV.int 0)] [Obj.row 4 (bools (AN.done
  a)), Obj.box 27 (AV.agg [AV.agg [AV.str (A45.rel (AN.a a)), AV.lst 43 (A45.hl (AN.a a))], AV.lst 46 (A45.bl (AN.a a)), AV.int (A45.line (AN.a a))])] = sp 48
  [(1, AV.slc 0 0 (List.length (bools (AN.done a_1)))), (2, AV.lst 9 (strs (AN.b a_1))), (3, AV.ptr 1 0 [] 0), (7, AV.int (AN.rd a_1)), (8, AV.int (AN.k a_1))]
  [Obj.row 4 (bools (AN.done a_1)), Obj.box 27 (AV.agg [AV.agg [AV.str (A45.rel (AN.a a_1)), AV.lst 43 (A45.hl (AN.a a_1))], AV.lst 46 (A45.bl (AN.a a_1)),
  AV.int (A45.line (AN.a a_1))])] ∧ (((cntL (tmsOf (ruleTs 43 (A45.hl (AN.a a_1)) (A45.bl (AN.a a_1)))) ≤ 100000 ∧ List.length (A45.bl (AN.a a_1)) ≤ 100000) ∧
  List.length (AN.done a_1) = List.length (A45.bl (AN.a a_1)) ∧ List.length (AN.b a_1) ≤ 1000000) ∧ (0 : Int) ≤ AN.k a_1 ∧ AN.k a_1 ≤ (↑(List.length (A45.bl
  (AN.a a_1))) : Int)) ∧ brn (decide ((0 : Int) ≤ fstN a_1)) (K Exit.ret (sp 48 [(6, AV.int (fstN a_1))] [Obj.row 4 (bools (AN.done a_1))])) (∃ (m : Nat), m < n
  ∧ I m (sp 48 [(1, AV.slc 0 0 (List.length (bools (AN.done a_1)))), (2, AV.lst 9 (strs (AN.b a_1))), (3, AV.ptr 1 0 [] 0), (7, AV.int (IntKind.wrap IntKind.i64
  (AN.rd a_1 + (1 : Int))))] [Obj.row 4 (bools (AN.done a_1)), Obj.box 27 (AV.agg [AV.agg [AV.str (A45.rel (AN.a a_1)), AV.lst 43 (A45.hl (AN.a a_1))], AV.lst 46
  (A45.bl (AN.a a_1)), AV.int (A45.line (AN.a a_1))])]))) (K (Exit.exit 0) (sp 48 [] [Obj.row 4 (bools (AN.done a))]))) := by kernel_rfl
def sideN2 (a : AN) : Prop := sideN a ∧ 0 ≤ a.rd ∧ a.rd ≤ 2
abbrev stN2 (a : AN) : S := sp 48 (rgN a) (bxN a)
def roundF (a : AN) : Int := bif decide (a.rd = 0) then nextG (rOf a.a) a.done a.b else bif decide (a.rd = 1) then firstI (okF (rOf a.a) a.done a.b true) a.a.bl.length 0 else -1
def outN2 (a : AN) : Out (Exit × S) := .brn (decide (0 ≤ roundF a)) (.one (.ret, sp 48 [(6, .int (roundF a))] [.row 4 (bools a.done)])) (.one (.exit 0, sp 48 [] [.row 4 (bools a.done)]))
theorem round_go (a : AN) (h : a.rd = 0 ∨ a.rd = 1) : (0 ≤ fstN { a with k := 0 } → roundF a = fstN { a with k := 0 }) ∧ (¬ 0 ≤ fstN { a with k := 0 } → roundF a = roundF { a with rd := a.rd + 1 }) := by
  obtain ⟨a, done, b, rd, k⟩ := a
  have hb : (rOf a).body.length = a.bl.length := body_len a
  rcases h with h | h
  · simp only at h
    subst h
    have e1 : fstN ⟨a, done, b, 0, 0⟩ = firstI (okF (rOf a) done b false) a.bl.length 0 := rfl
    have e2 : roundF ⟨a, done, b, 0, k⟩ = nextG (rOf a) done b := rfl
    have e3 : roundF ⟨a, done, b, 0 + 1, k⟩ = firstI (okF (rOf a) done b true) a.bl.length 0 := rfl
    simp only
    rw [e1, e2, e3, nextG, hb]
    refine ⟨fun h => by rw [decide_eq_true h]; rfl, fun h => by rw [decide_eq_false h]; rfl⟩
  · simp only at h
    subst h
    have e1 : fstN ⟨a, done, b, 1, 0⟩ = firstI (okF (rOf a) done b true) a.bl.length 0 := rfl
    have e2 : roundF ⟨a, done, b, 1, k⟩ = firstI (okF (rOf a) done b true) a.bl.length 0 := rfl
    have e3 : roundF ⟨a, done, b, 1 + 1, k⟩ = -1 := rfl
    simp only
    rw [e1, e2, e3]
    refine ⟨fun _ => rfl, fun h => ?_⟩
    rcases firstI_ge (okF (rOf a) done b true) a.bl.length 0 with h2 | h2
    · exact h2
    · exact absurd h2 h
theorem lN2 (κ : Kp) : LoopOk (EN1 κ) 12 51 2 (loopE 1 stN2 sideN2 outN2) := by
  refine loopE_ok (fun a => 2 - a.rd.toNat) ?_
  rintro a K ⟨h1, h2, h3⟩ ho
  rw [show (EN1 κ).P = Pr κ from rfl]
  refine Eq.mpr (xN2 κ a _ _ K) ?_
  simp only [outN2, Out.run, brn_iff] at ho
  rw [brn_iff, decide_eq_true_eq, decide_eq_false_iff_not]
  refine ⟨fun hi => ?_, fun hi => ?_⟩
  · have hg := round_go a (by omega)
    refine ⟨rfl, { a with k := 0 }, rfl, ⟨h1, by simp only; omega, by simp only; omega⟩, ?_⟩
    rw [brn_iff, decide_eq_true_eq, decide_eq_false_iff_not]
    refine ⟨fun e => ?_, fun e => ?_⟩
    · rw [← hg.1 e]
      exact ho.1 (decide_eq_true (by rw [hg.1 e]; exact e))
    · rw [hg.2 e] at ho
      simp only
      rw [wrap_ok (n := a.rd + 1) (by omega) (by omega)]
      refine ⟨_, ?_, { a with rd := a.rd + 1 }, rfl, ⟨h1, by simp only; omega, by simp only; omega⟩, rfl, ?_⟩
      · simp only; omega
      · simp only [outN2, Out.run, brn_iff]
        exact ho
  · have e : roundF a = -1 := by
      unfold roundF
      rw [decide_eq_false (show ¬ a.rd = 0 by omega), decide_eq_false (show ¬ a.rd = 1 by omega)]; rfl
    rw [e] at ho
    exact ho.2 rfl
noncomputable def EN2 (κ : Kp) : Env := (EN1 κ).addLoop 51 2 (loopE 1 stN2 sideN2 outN2)
theorem eN2 (κ : Kp) : EnvOK (EN2 κ) := (eN1 κ).addLoop (mN1 κ) (lN2 κ)
theorem mN2 (κ : Kp) : EnvMono (EN2 κ) := (mN1 κ).addLoop loopE_mono
theorem yN (κ : Kp) (a : AN) (K : AV → List Dn.Obj → Prop) : (funA (EN2 κ) 12 51 [rl45 a.a, .slc 0 0 (bools a.done).length, .lst 9 (strs a.b)] [.row 4 (bools a.done)] K) = (
  loopCode (Pg.toProgram (Env.P (EN1 κ))) 51 2 = loopCode (Pg.toProgram (Env.P (EN1 κ))) 51 2 ∧ ∃ (a_1 : AN), sp 48 [(1, AV.slc 0 0 (List.length (bools (AN.done
  a)))), (2, AV.lst 9 (strs (AN.b a))), (3, AV.ptr 1 0 [] 0), (7, AV.int 0)] [Obj.row 4 (bools (AN.done a)), Obj.box 27 (AV.agg [AV.agg [AV.str (A45.rel (AN.a
  a)), AV.lst 43 (A45.hl (AN.a a))], AV.lst 46 (A45.bl (AN.a a)), AV.int (A45.line (AN.a a))])] = sp 48 [(1, AV.slc 0 0 (List.length (bools (AN.done a_1)))), (2,
  AV.lst 9 (strs (AN.b a_1))), (3, AV.ptr 1 0 [] 0), (7, AV.int (AN.rd a_1))] [Obj.row 4 (bools (AN.done a_1)), Obj.box 27 (AV.agg [AV.agg [AV.str (A45.rel (AN.a
  a_1)), AV.lst 43 (A45.hl (AN.a a_1))], AV.lst 46 (A45.bl (AN.a a_1)), AV.int (A45.line (AN.a a_1))])] ∧ (((cntL (tmsOf (ruleTs 43 (A45.hl (AN.a a_1)) (A45.bl
  (AN.a a_1)))) ≤ 100000 ∧ List.length (A45.bl (AN.a a_1)) ≤ 100000) ∧ List.length (AN.done a_1) = List.length (A45.bl (AN.a a_1)) ∧ List.length (AN.b a_1) ≤
  1000000) ∧ (0 : Int) ≤ AN.rd a_1 ∧ AN.rd a_1 ≤ (2 : Int)) ∧ brn (decide ((0 : Int) ≤ roundF a_1)) (K (AV.int (roundF a_1)) [Obj.row 4 (bools (AN.done a_1))])
  (K (AV.int (-1)) [Obj.row 4 (bools (AN.done a_1))])) := by kernel_rfl
def stN (a : AN) : List AV × List Dn.Obj := ([rl45 a.a, .slc 0 0 (bools a.done).length, .lst 9 (strs a.b)], [.row 4 (bools a.done)])
def outN (a : AN) : Out (AV × List Dn.Obj) := .one (.int (nextG (rOf a.a) a.done a.b), [.row 4 (bools a.done)])
theorem nextG_ge (r : Rl) (done : List Bool) (b : List ByteArray) : nextG r done b = -1 ∨ 0 ≤ nextG r done b := by
  unfold nextG
  cases h : decide (0 ≤ firstI (okF r done b false) r.body.length 0) with
  | true => rw [cond_true]; right; simpa using h
  | false => rw [cond_false]; exact firstI_ge _ _ _
theorem cN (κ : Kp) : CallOk (EN2 κ) 12 51 (callE stN sideN outN) := by
  refine callE_ok ?_
  rintro a K h1 ho
  refine Eq.mpr (yN κ a K) ?_
  have ho' : K (.int (nextG (rOf a.a) a.done a.b)) [.row 4 (bools a.done)] := ho
  have e : roundF { a with rd := 0 } = nextG (rOf a.a) a.done a.b := rfl
  refine ⟨rfl, { a with rd := 0 }, rfl, ⟨h1, by simp only; omega, by simp only; omega⟩, ?_⟩
  rw [brn_iff, decide_eq_true_eq, decide_eq_false_iff_not, e]
  refine ⟨fun _ => ho', fun h => ?_⟩
  rcases nextG_ge (rOf a.a) a.done a.b with h2 | h2
  · rw [h2] at ho'; exact ho'
  · exact absurd h2 h
noncomputable def EN (κ : Kp) : Env := (EN2 κ).addCall 51 (callE stN sideN outN)
theorem eN (κ : Kp) : EnvOK (EN κ) := (eN2 κ).addCall (mN2 κ) (cN κ)
theorem mN (κ : Kp) : EnvMono (EN κ) := (mN2 κ).addCall callE_mono
theorem xWk (κ : Kp) (a : A45) (n0 : Int) (done l b : List AV) (I : Nat → S → Prop) (n : Nat) (K : Exit → S → Prop) : (vc (EN κ) 12 24 none 0 (loopCode (Pr κ).toProgram 24 4) (sp 39 [(1, .int n0), (2, .ptr 0 0 [] 0), (7, .slc 1 0 done.length), (8, .slc 2 0 l.length), (9, .lst 9 b)] [.box 27 (rl45 a), .row 4 done, .row 3 l]) (loopK (EN κ) 24 4 0 I n K)) = (
  brn (decide ((↑(List.length l) : Int) < n0)) (∃ (a_1 : AN), ([AV.agg [AV.agg [AV.str (A45.rel a), AV.lst 43 (A45.hl a)], AV.lst 46 (A45.bl a), AV.int (A45.line
  a)], AV.slc 0 0 (List.length done), AV.lst 9 b], [Obj.row 4 done]) = ([AV.agg [AV.agg [AV.str (A45.rel (AN.a a_1)), AV.lst 43 (A45.hl (AN.a a_1))], AV.lst 46
  (A45.bl (AN.a a_1)), AV.int (A45.line (AN.a a_1))], AV.slc 0 0 (List.length (bools (AN.done a_1))), AV.lst 9 (strs (AN.b a_1))], [Obj.row 4 (bools (AN.done
  a_1))]) ∧ ((cntL (tmsOf (ruleTs 43 (A45.hl (AN.a a_1)) (A45.bl (AN.a a_1)))) ≤ 100000 ∧ List.length (A45.bl (AN.a a_1)) ≤ 100000) ∧ List.length (AN.done a_1) =
  List.length (A45.bl (AN.a a_1)) ∧ List.length (AN.b a_1) ≤ 1000000) ∧ brn (decide (nextG (rOf (AN.a a_1)) (AN.done a_1) (AN.b a_1) < (0 : Int))) (K Exit.ret
  (sp 39 [(4, AV.nil), (5, AV.nil), (6, AV.bool false)] [])) (cnd (decide ((List.length l + 1 + 1) * 9 ≤ 70368744177664)) (cnd (decide ((0 : Int) ≤ nextG (rOf
  (AN.a a_1)) (AN.done a_1) (AN.b a_1)) && decide (nextG (rOf (AN.a a_1)) (AN.done a_1) (AN.b a_1) < (↑(List.length done) : Int))) (∃ (a_2 : AP), ([AV.agg
  [AV.agg [AV.str (A45.rel a), AV.lst 43 (A45.hl a)], AV.lst 46 (A45.bl a), AV.int (A45.line a)], AV.int (nextG (rOf (AN.a a_1)) (AN.done a_1) (AN.b a_1))],
  nilO) = ([AV.agg [AV.agg [AV.str (A45.rel (Prod.fst a_2)), AV.lst 43 (A45.hl (Prod.fst a_2))], AV.lst 46 (A45.bl (Prod.fst a_2)), AV.int (A45.line (Prod.fst
  a_2))], AV.int (Prod.snd a_2)], nilO) ∧ ((cntL (tmsOf (ruleTs 43 (A45.hl (Prod.fst a_2)) (A45.bl (Prod.fst a_2)))) ≤ 100000 ∧ List.length (A45.bl (Prod.fst
  a_2)) ≤ 100000) ∧ (0 : Int) ≤ Prod.snd a_2 ∧ Prod.snd a_2 < (↑(List.length (A45.bl (Prod.fst a_2))) : Int)) ∧ ∃ (a_3 : List ByteArray × List ByteArray),
  ([AV.lst 9 b, AV.lst 9 (strs (gainsF (rOf (Prod.fst a_2)) (Int.toNat (Prod.snd a_2))))], nilO) = ([AV.lst 9 (strs (Prod.fst a_3)), AV.lst 9 (strs (Prod.snd
  a_3))], nilO) ∧ (List.length (Prod.fst a_3) ≤ 1000000 ∧ List.length (Prod.snd a_3) ≤ 1000000) ∧ ∃ (m : Nat), m < n ∧ I m (sp 39 [(1, AV.int n0), (2, AV.ptr 0 0
  [] 0), (7, AV.slc 1 0 (List.length done)), (8, AV.slc 2 0 (List.length l + 1)), (9, AV.lst 9 (strs (withB (Prod.fst a_3) (Prod.snd a_3))))] [Obj.box 27 (AV.agg
  [AV.agg [AV.str (A45.rel a), AV.lst 43 (A45.hl a)], AV.lst 46 (A45.bl a), AV.int (A45.line a)]), Obj.row 4 (setN (bools (AN.done a_1)) (0 + Int.toNat (nextG
  (rOf (AN.a a_1)) (AN.done a_1) (AN.b a_1))) (AV.bool true)), Obj.row 3 (List.take (List.length l) l ++ [AV.int (nextG (rOf (AN.a a_1)) (AN.done a_1) (AN.b
  a_1))])]))))) (K (Exit.exit 0) (sp 39 [(8, AV.slc 0 0 (List.length l)), (9, AV.lst 9 b)] [Obj.row 3 l]))) := by kernel_rfl
structure AWk where
  a : A45
  n0 : Int
  done : List Bool
  l : List Nat
  b : List ByteArray
abbrev stWk (a : AWk) : S := sp 39 [(1, .int a.n0), (2, .ptr 0 0 [] 0), (7, .slc 1 0 (bools a.done).length), (8, .slc 2 0 (ints a.l).length), (9, .lst 9 (strs a.b))] [.box 27 (rl45 a.a), .row 4 (bools a.done), .row 3 (ints a.l)]
def sideWk (a : AWk) : Prop := rightR (rOf a.a) = true ∧ side42 a.a ∧ a.done.length = a.a.bl.length ∧ a.b.Nodup ∧ (∀ s, s ∈ a.b → s ∈ varsF (rOf a.a)) ∧ a.n0 ≤ a.a.bl.length ∧ (a.l.length : Int) ≤ a.n0
def wOf (a : AWk) : Option (List Nat × List ByteArray) := walkG (rOf a.a) (a.n0.toNat - a.l.length) a.done a.b
def wl (w : Option (List Nat × List ByteArray)) : List Nat := (w.map Prod.fst).getD []
def wd (w : Option (List Nat × List ByteArray)) : List ByteArray := (w.map Prod.snd).getD []
def outWk (a : AWk) : Out (Exit × S) := .brn (wOf a).isSome (.one (.exit 0, sp 39 [(8, .slc 0 0 (ints (a.l ++ wl (wOf a))).length), (9, .lst 9 (strs (wd (wOf a))))] [.row 3 (ints (a.l ++ wl (wOf a)))]))
  (.one (.ret, sp 39 [(4, .nil), (5, .nil), (6, .bool false)] []))
theorem nodup_len : ∀ {l m : List ByteArray}, l.Nodup → (∀ s, s ∈ l → s ∈ m) → l.length ≤ m.length
  | [], _, _, _ => Nat.zero_le _
  | x :: l, m, h, hs => by
    have h1 := List.nodup_cons.1 h
    have := nodup_len (l := l) (m := m.erase x) h1.2 fun s hs2 => (List.mem_erase_of_ne (fun (e : s = x) => h1.1 (by rw [← e]; exact hs2))).2 (hs s (List.mem_cons_of_mem _ hs2))
    have hx := hs x List.mem_cons_self
    rw [List.length_erase_of_mem hx] at this
    have := List.length_pos_of_mem hx
    rw [List.length_cons]; omega
theorem nodup_with : ∀ (m o : List ByteArray), o.Nodup → (withB o m).Nodup
  | [], _, h => h
  | s :: m, o, h => by
    rw [withB_cons]
    refine nodup_with m _ ?_
    unfold addB
    cases e : o.contains s with
    | true => exact h
    | false =>
      rw [cond_false]
      refine List.nodup_append.2 ⟨h, by simp, fun a ha b hb e2 => ?_⟩
      rw [List.mem_singleton] at hb
      subst hb; subst e2
      rw [List.contains_iff_mem.2 ha] at e; cases e
theorem varsF_le' {a : A45} (h : side42 a) : (varsF (rOf a)).length ≤ 100000 := by
  have h6 := varsL_le (tmsOf (ruleTs 43 a.hl a.bl))
  rw [ruleTs_vars 43 a.rel a.hl a.bl] at h6
  have h7 := ddup_len (ruleV (rOf a)) []
  rw [varsF_eq]
  unfold varsR
  cases rightR (rOf a)
  · exact Nat.zero_le _
  · rw [cond_true]; exact Nat.le_trans h7 (Nat.le_trans h6 h.1)
theorem gainsF_len {a : A45} (h : side42 a) {k : Nat} (hk : k < a.bl.length) : (gainsF (rOf a) k).length ≤ 200000 := by
  have hlit : litC (ltOf (nth a.bl k)) ≤ 100000 := side_lit h hk
  have hb : (nthLt (rOf a).body k) = ltOf (nth a.bl k) := nthLt_lts a.bl hk
  have hc := x_lit_c (ltOf (nth a.bl k))
  have h1 := Tm.rv_len (ltOf (nth a.bl k)).x
  have h2 := withB_len (ltOf (nth a.bl k)).x.rv (outerF (rOf a) k)
  have h3 : (outerF (rOf a) k).length ≤ 100000 := Nat.le_trans (List.length_filter_le _ _) (varsF_le' h)
  have h4 := litR_len (ltOf (nth a.bl k))
  simp only [cntL] at hc
  unfold gainsF
  rw [hb]
  cases decide ((ltOf (nth a.bl k)).op ≥ 7) with
  | true => rw [cond_true]; omega
  | false => rw [cond_false]; omega
theorem gainsF_sub {a : A45} (hr : rightR (rOf a) = true) {k : Nat} (hk : k < a.bl.length) {s : ByteArray} (h : s ∈ gainsF (rOf a) k) : s ∈ varsF (rOf a) := by
  rw [varsF_eq, mem_varsR hr, ruleV, List.mem_append]
  exact .inr (mem_flat (by rw [body_len]; exact hk) (gains_lit ((mem_gainsF hr k s).1 h)))
theorem nextG_lt {r : Rl} (hr : rightR r = true) (done : List Bool) (b : List ByteArray) (h : ¬ nextG r done b < 0) : 0 ≤ nextG r done b ∧ (nextG r done b).toNat < r.body.length := by
  rw [nextG_eq hr (fun _ => Iff.rfl)] at h ⊢
  rcases nextI_spec r done b with e | ⟨e1, e2, _⟩
  · omega
  · exact ⟨e1, e2⟩
theorem wl_some (x : List Nat × List ByteArray) : wl (some x) = x.1 := rfl
theorem wd_some (x : List Nat × List ByteArray) : wd (some x) = x.2 := rfl
theorem lWk (κ : Kp) : LoopOk (EN κ) 12 24 4 (loopE 0 stWk sideWk outWk) := by
  refine loopE_ok (fun a => a.n0.toNat - a.l.length) ?_
  rintro ⟨a, n0, done, l, b⟩ K ⟨h1, h2, h3, h4, h5, h6, h7⟩ ho
  simp only at h1 h2 h3 h4 h5 h6 h7
  rw [show (EN κ).P = Pr κ from rfl]
  refine Eq.mpr (xWk κ a n0 (bools done) (ints l) (strs b) _ _ K) ?_
  simp only [outWk, Out.run, brn_iff] at ho
  have hl := h2.2
  have hb := nodup_len h4 h5
  have hv := varsF_le' h2
  rw [brn_iff, decide_eq_true_eq, decide_eq_false_iff_not, ints_len]
  refine ⟨fun hi => ⟨⟨a, done, b, 0, 0⟩, rfl, ⟨h2, h3, by simp only; omega⟩, ?_⟩, fun hi => ?_⟩
  · have hw : wOf ⟨a, n0, done, l, b⟩ = bif decide (nextG (rOf a) done b < 0) then none else (walkG (rOf a) (n0.toNat - (l.length + 1)) (done.set (nextG (rOf a) done b).toNat true) (withB b (gainsF (rOf a) (nextG (rOf a) done b).toNat))).map fun x => ((nextG (rOf a) done b).toNat :: x.1, x.2) := by
      unfold wOf
      simp only
      rw [show n0.toNat - l.length = (n0.toNat - (l.length + 1)) + 1 by omega, walkG]
    simp only
    rw [brn_iff, decide_eq_true_eq, decide_eq_false_iff_not]
    refine ⟨fun e => ?_, fun e => ?_⟩
    · rw [hw, decide_eq_true e] at ho
      exact ho.2 rfl
    · obtain ⟨e1, e2⟩ := nextG_lt h1 done b e
      rw [body_len] at e2
      have hg := gainsF_len h2 e2
      rw [hw, decide_eq_false e, cond_false] at ho
      simp only [cnd_iff, Bool.and_eq_true, decide_eq_true_eq, bools_len]
      refine ⟨by omega, ⟨e1, by omega⟩, (a, nextG (rOf a) done b), rfl, ⟨h2, e1, by simp only; omega⟩, (b, gainsF (rOf a) (nextG (rOf a) done b).toNat), rfl, ⟨by simp only; omega, by simp only; omega⟩, _, ?_,
        ⟨a, n0, done.set (nextG (rOf a) done b).toNat true, l ++ [(nextG (rOf a) done b).toNat], withB b (gainsF (rOf a) (nextG (rOf a) done b).toNat)⟩, ?_, ⟨h1, h2, by simpa using h3, nodup_with _ _ h4, fun s hs => ?_, h6, by simp only [List.length_append, List.length_singleton]; omega⟩, rfl, ?_⟩
      · simp only [List.length_append, List.length_singleton]; omega
      · simp only [stWk, Nat.zero_add, setN_bools, bools_len, List.length_set, ints_app, ints_len, List.length_append, List.length_singleton, List.take_of_length_le (show (ints l).length ≤ l.length by rw [ints_len]; omega)]
        rw [show ints [(nextG (rOf a) done b).toNat] = [.int (nextG (rOf a) done b)] by simp only [ints, List.map_cons, List.map_nil, Int.toNat_of_nonneg e1]]
      · rcases mem_withB.1 hs with h | h
        · exact h5 s h
        · exact gainsF_sub h1 e2 h
      · simp only [outWk, Out.run, brn_iff]
        unfold wOf
        simp only [List.length_append, List.length_singleton]
        cases hq : walkG (rOf a) (n0.toNat - (l.length + 1)) (done.set (nextG (rOf a) done b).toNat true) (withB b (gainsF (rOf a) (nextG (rOf a) done b).toNat)) with
        | none => rw [hq] at ho; exact ⟨(fun h => nomatch h), ho.2⟩
        | some x =>
          rw [hq] at ho
          simp only [Option.map_some, wl_some, wd_some] at ho ⊢
          rw [show l ++ [(nextG (rOf a) done b).toNat] ++ x.1 = l ++ (nextG (rOf a) done b).toNat :: x.1 by simp]
          exact ho
  · have e : wOf ⟨a, n0, done, l, b⟩ = some ([], b) := by
      unfold wOf
      simp only
      rw [show n0.toNat - l.length = 0 by omega, walkG]
    rw [e] at ho
    simp only [wl_some, wd_some, List.append_nil, ints_len] at ho
    exact ho.1 rfl
noncomputable def EWkl (κ : Kp) : Env := (EN κ).addLoop 24 4 (loopE 0 stWk sideWk outWk)
theorem eWkl (κ : Kp) : EnvOK (EWkl κ) := (eN κ).addLoop (mN κ) (lWk κ)
theorem mWkl (κ : Kp) : EnvMono (EWkl κ) := (mN κ).addLoop loopE_mono
theorem yWk (κ : Kp) (a : A45) (n0 : Int) (K : AV → List Dn.Obj → Prop) : (funA (EWkl κ) 12 24 [rl45 a, .int n0] [] K) = (
  cnd (true && decide ((↑(List.length (A45.bl a)) : Int) ≤ (↑(List.length (A45.bl a)) : Int)) && decide ((Int.toNat (↑(List.length (A45.bl a)) : Int) + 1) * 2 ≤
  70368744177664) && true) (loopCode (Pg.toProgram (Env.P (EN κ))) 24 4 = loopCode (Pg.toProgram (Env.P (EN κ))) 24 4 ∧ ∃ (a_1 : AWk), sp 39 [(1, AV.int n0), (2,
  AV.ptr 0 0 [] 0), (7, AV.slc 1 0 (Int.toNat (↑(List.length (A45.bl a)) : Int))), (8, AV.slc 2 0 0), (9, AV.lst 9 [])] [Obj.box 27 (AV.agg [AV.agg [AV.str
  (A45.rel a), AV.lst 43 (A45.hl a)], AV.lst 46 (A45.bl a), AV.int (A45.line a)]), Obj.row 4 (zerosA (AV.bool false) (Int.toNat (↑(List.length (A45.bl a)) :
  Int))), Obj.row 3 []] = sp 39 [(1, AV.int (AWk.n0 a_1)), (2, AV.ptr 0 0 [] 0), (7, AV.slc 1 0 (List.length (bools (AWk.done a_1)))), (8, AV.slc 2 0
  (List.length (ints (AWk.l a_1)))), (9, AV.lst 9 (strs (AWk.b a_1)))] [Obj.box 27 (AV.agg [AV.agg [AV.str (A45.rel (AWk.a a_1)), AV.lst 43 (A45.hl (AWk.a
  a_1))], AV.lst 46 (A45.bl (AWk.a a_1)), AV.int (A45.line (AWk.a a_1))]), Obj.row 4 (bools (AWk.done a_1)), Obj.row 3 (ints (AWk.l a_1))] ∧ (rightR (rOf (AWk.a
  a_1)) = true ∧ (cntL (tmsOf (ruleTs 43 (A45.hl (AWk.a a_1)) (A45.bl (AWk.a a_1)))) ≤ 100000 ∧ List.length (A45.bl (AWk.a a_1)) ≤ 100000) ∧ List.length
  (AWk.done a_1) = List.length (A45.bl (AWk.a a_1)) ∧ List.Pairwise (fun (x1 x2 : ByteArray) => x1 ≠ x2) (AWk.b a_1) ∧ (∀ (s : ByteArray), List.Mem s (AWk.b a_1)
  → List.Mem s (varsF (rOf (AWk.a a_1)))) ∧ AWk.n0 a_1 ≤ (↑(List.length (A45.bl (AWk.a a_1))) : Int) ∧ (↑(List.length (AWk.l a_1)) : Int) ≤ AWk.n0 a_1) ∧ brn
  (Option.isSome (wOf a_1)) (K (AV.tup [AV.slc 0 0 (List.length (ints (AWk.l a_1 ++ wl (wOf a_1)))), AV.lst 9 (strs (wd (wOf a_1))), AV.bool true]) [Obj.row 3
  (ints (AWk.l a_1 ++ wl (wOf a_1)))]) (K (AV.tup [AV.nil, AV.nil, AV.bool false]) []))) := by kernel_rfl
def stWkc (a : AP) : List AV × List Dn.Obj := ([rl45 a.1, .int a.2], [])
def sideWkc (a : AP) : Prop := rightR (rOf a.1) = true ∧ side42 a.1 ∧ 0 ≤ a.2 ∧ a.2 ≤ a.1.bl.length
def wFrom (a : AP) : Option (List Nat × List ByteArray) := walkG (rOf a.1) a.2.toNat (falsesR (rOf a.1)) []
def outWkc (a : AP) : Out (AV × List Dn.Obj) := .brn (wFrom a).isSome (.one (.tup [.slc 0 0 (ints (wl (wFrom a))).length, .lst 9 (strs (wd (wFrom a))), .bool true], [.row 3 (ints (wl (wFrom a)))]))
  (.one (.tup [.nil, .nil, .bool false], []))
theorem cWk (κ : Kp) : CallOk (EWkl κ) 12 24 (callE stWkc sideWkc outWkc) := by
  refine callE_ok ?_
  rintro ⟨a, n0⟩ K ⟨h1, h2, h3, h4⟩ ho
  simp only at h1 h2 h3 h4
  refine Eq.mpr (yWk κ a n0 K) ?_
  have hl := h2.2
  simp only [cnd_iff, Bool.and_eq_true, decide_eq_true_eq, Int.toNat_natCast]
  refine ⟨⟨⟨⟨trivial, by omega⟩, by omega⟩, trivial⟩, trivial, ⟨a, n0, List.replicate a.bl.length false, [], []⟩, ?_, ⟨h1, h2, by simp, List.nodup_nil, (fun s hs => nomatch hs), h4, by simpa using h3⟩, ?_⟩
  · simp only [zeros_bools, bools_len, List.length_replicate]; rfl
  · have e : wOf ⟨a, n0, List.replicate a.bl.length false, [], []⟩ = wFrom (a, n0) := by
      unfold wOf wFrom falsesR
      rw [body_len]; rfl
    rw [e]
    simp only [List.nil_append]
    exact ho
noncomputable def EWk (κ : Kp) : Env := (EWkl κ).addCall 24 (callE stWkc sideWkc outWkc)
theorem eWk (κ : Kp) : EnvOK (EWk κ) := (eWkl κ).addCall (mWkl κ) (cWk κ)
theorem mWk (κ : Kp) : EnvMono (EWk κ) := (mWkl κ).addCall callE_mono
theorem yOd (κ : Kp) (a : A45) (K : AV → List Dn.Obj → Prop) : (funA (EWk κ) 12 8 [rl45 a] [] K) = (
  cnd (decide (List.length (A45.hl a) ≤ 9223372036854775807) && decide (List.length (A45.bl a) ≤ 9223372036854775807) && fitL (A45.bl a)) (brn (!rightR
  { head := { rel := A45.rel a, l := tmsOf (A45.hl a) }, body := ltsOf (A45.bl a) }) (K (AV.tup [AV.nil, AV.int 30]) []) (∃ (a_1 : AP), ([AV.agg [AV.agg [AV.str
  (A45.rel a), AV.lst 43 (A45.hl a)], AV.lst 46 (A45.bl a), AV.int (A45.line a)], AV.int (↑(List.length (A45.bl a)) : Int)], nilO) = ([AV.agg [AV.agg [AV.str
  (A45.rel (Prod.fst a_1)), AV.lst 43 (A45.hl (Prod.fst a_1))], AV.lst 46 (A45.bl (Prod.fst a_1)), AV.int (A45.line (Prod.fst a_1))], AV.int (Prod.snd a_1)],
  nilO) ∧ (rightR (rOf (Prod.fst a_1)) = true ∧ (cntL (tmsOf (ruleTs 43 (A45.hl (Prod.fst a_1)) (A45.bl (Prod.fst a_1)))) ≤ 100000 ∧ List.length (A45.bl
  (Prod.fst a_1)) ≤ 100000) ∧ (0 : Int) ≤ Prod.snd a_1 ∧ Prod.snd a_1 ≤ (↑(List.length (A45.bl (Prod.fst a_1))) : Int)) ∧ brn (Option.isSome (wFrom a_1)) (∃ (a_2
  : AA), ([AV.agg [AV.str (A45.rel a), AV.lst 43 (A45.hl a)]], nilO) = ([AV.agg [AV.str (Prod.fst a_2), AV.lst 43 (Prod.snd a_2)]], nilO) ∧ sideAA a_2 ∧ cnd
  (decide (List.length (strs (atomR (AA.at a_2))) ≤ 9223372036854775807) && decide (List.length (strs (wd (wFrom a_1))) ≤ 9223372036854775807)) (brn (!withinA
  (strs (atomR (AA.at a_2))) (strs (wd (wFrom a_1)))) (K (AV.tup [AV.nil, AV.int 60]) []) (K (AV.tup [AV.slc 0 0 (List.length (ints (wl (wFrom a_1)))), AV.int
  0]) [Obj.row 3 (ints (wl (wFrom a_1)))]))) (∃ (a_2 : AA), ([AV.agg [AV.str (A45.rel a), AV.lst 43 (A45.hl a)]], nilO) = ([AV.agg [AV.str (Prod.fst a_2), AV.lst
  43 (Prod.snd a_2)]], nilO) ∧ sideAA a_2 ∧ cnd (decide (List.length (strs (atomR (AA.at a_2))) ≤ 9223372036854775807) && true) (K (AV.tup [AV.nil, AV.int 60])
  []))))) := by kernel_rfl
theorem wd_len {a : A45} (hr : rightR (rOf a) = true) (h2 : side42 a) : ∀ (n : Nat) (done : List Bool) (b : List ByteArray), b.Nodup → (∀ s, s ∈ b → s ∈ varsF (rOf a)) → (wd (walkG (rOf a) n done b)).length ≤ 100000
  | 0, done, b, h4, h5 => Nat.le_trans (nodup_len h4 h5) (varsF_le' h2)
  | n + 1, done, b, h4, h5 => by
    rw [walkG]
    cases e : decide (nextG (rOf a) done b < 0) with
    | true => exact Nat.zero_le _
    | false =>
      rw [cond_false]
      rw [decide_eq_false_iff_not] at e
      obtain ⟨e1, e2⟩ := nextG_lt hr done b e
      rw [body_len] at e2
      have := wd_len hr h2 n (done.set (nextG (rOf a) done b).toNat true) (withB b (gainsF (rOf a) (nextG (rOf a) done b).toNat)) (nodup_with _ _ h4) fun s hs => by
        rcases mem_withB.1 hs with h | h
        · exact h5 s h
        · exact gainsF_sub hr e2 h
      cases hq : walkG (rOf a) n (done.set (nextG (rOf a) done b).toNat true) (withB b (gainsF (rOf a) (nextG (rOf a) done b).toNat)) with
      | none => exact Nat.zero_le _
      | some x => rw [hq] at this; exact this
theorem wFrom_len {a : A45} (hr : rightR (rOf a) = true) (h2 : side42 a) (n : Int) : (wd (wFrom (a, n))).length ≤ 100000 := wd_len hr h2 _ _ _ List.nodup_nil fun _ hs => nomatch hs
theorem cOd (κ : Kp) : CallOk (EWk κ) 12 8 (callE st17 side42 out7) := by
  refine callE_ok ?_
  rintro a K h2 ho
  refine Eq.mpr (yOd κ a K) ?_
  simp only [out7, Out.run, brn_iff] at ho
  have hc := side_hl h2
  have hl1 := len_cntL (tmsOf a.hl)
  rw [tms_len] at hl1
  have hl := h2.2
  have ha : sideAA (a.rel, a.hl) := hc
  have hal := rvL_len (tmsOf a.hl) []
  simp only [List.length_nil] at hal
  have hr : rightR ⟨⟨a.rel, tmsOf a.hl⟩, ltsOf a.bl⟩ = rightR (rOf a) := rfl
  rw [hr]
  simp only [cnd_iff, brn_iff, Bool.and_eq_true, decide_eq_true_eq, Bool.not_eq_true', Bool.not_eq_false', within_strs, strs_len, and_true]
  refine ⟨⟨⟨by omega, by omega⟩, side_fit h2⟩, fun e => ho.2 e, fun e => ⟨(a, (a.bl.length : Int)), rfl, ⟨e, h2, by simp only; omega, by simp only; omega⟩, fun e2 => ⟨(a.rel, a.hl), rfl, ha, ⟨?_, ?_⟩, ?_⟩, fun e2 => ⟨(a.rel, a.hl), rfl, ha, ?_, ?_⟩⟩⟩
  · show (rvL (tmsOf a.hl) []).length ≤ _
    omega
  · have := wFrom_len e h2 (a.bl.length : Int)
    omega
  · have hs : safeR (rOf a) = hasB (wd (wFrom (a, (a.bl.length : Int)))) (atomR (AA.at (a.rel, a.hl))) := by
      rw [← safeG_eq e]
      unfold safeG
      have e3 : walkG (rOf a) (rOf a).body.length (falsesR (rOf a)) [] = wFrom (a, (a.bl.length : Int)) := by
        unfold wFrom; rw [body_len]; rfl
      rw [e3]
      cases hq : wFrom (a, (a.bl.length : Int)) with
      | none => rw [hq] at e2; cases e2
      | some x => rfl
    rw [← hs]
    refine ⟨fun e4 => (ho.1 e).2 e4, fun e4 => ?_⟩
    have e5 : wl (wFrom (a, (a.bl.length : Int))) = walkR (rOf a) := by
      have e3 : wFrom (a, (a.bl.length : Int)) = walkG (rOf a) (rOf a).body.length (falsesR (rOf a)) [] := by
        unfold wFrom; rw [body_len]; rfl
      rcases walkG_spec e (rOf a).body.length (falsesR (rOf a)) [] [] (fun _ => Iff.rfl) with ⟨h, _⟩ | ⟨d, h, _⟩
      · rw [e3, h] at e2; cases e2
      · rw [e3, h]; rfl
    rw [e5, ints_len]
    exact (ho.1 e).1 e4
  · show (rvL (tmsOf a.hl) []).length ≤ _
    omega
  · refine (ho.1 e).2 ?_
    rw [← safeG_eq e]
    unfold safeG
    have e3 : walkG (rOf a) (rOf a).body.length (falsesR (rOf a)) [] = wFrom (a, (a.bl.length : Int)) := by
      unfold wFrom; rw [body_len]; rfl
    rw [e3]
    cases hq : wFrom (a, (a.bl.length : Int)) with
    | none => rfl
    | some x => rw [hq] at e2; cases e2
noncomputable def EOd (κ : Kp) : Env := (EWk κ).addCall 8 (callE st17 side42 out7)
theorem eOd (κ : Kp) : EnvOK (EOd κ) := (eWk κ).addCall (mWk κ) (cOd κ)
theorem mOd (κ : Kp) : EnvMono (EOd κ) := (mWk κ).addCall callE_mono
end Go.Proofs.YtpgahkbkfflkaaaGreatDoor
