import Derived.Test.YtpgahkbkfflkaaaGreatDoorDrM7
namespace Go.Proofs.YtpgahkbkfflkaaaGreatDoor
open Go Go.Dn Go.Rl Go.Proofs
attribute [local irreducible] funA vc
set_option maxRecDepth 20000
theorem yOr (κ : Kp) (a : A45) (k : Int) (K : AV → List Dn.Obj → Prop) : (funA (EOd κ) 12 15 [rl45 a, .int k] [] K) = (
  cnd (decide (List.length (A45.hl a) ≤ 9223372036854775807) && decide (List.length (A45.bl a) ≤ 9223372036854775807) && fitL (A45.bl a)) (brn (!rightR
  { head := { rel := A45.rel a, l := tmsOf (A45.hl a) }, body := ltsOf (A45.bl a) }) (K (AV.tup [AV.nil, AV.int 30]) []) (brn (decide (k < (0 : Int))) (K (AV.tup
  [AV.nil, AV.int 2]) []) (brn (decide (k ≥ (↑(List.length (A45.bl a)) : Int))) (K (AV.tup [AV.nil, AV.int 2]) []) (cnd (decide ((0 : Int) ≤ k) && decide (k <
  (↑(List.length (A45.bl a)) : Int))) (brn (decide (toInt (fld (nth (A45.bl a) (Int.toNat k)) 0) < (7 : Int))) (K (AV.tup [AV.nil, AV.int 2]) []) (∃ (a_1 : AP),
  ([AV.agg [AV.agg [AV.str (A45.rel a), AV.lst 43 (A45.hl a)], AV.lst 46 (A45.bl a), AV.int (A45.line a)], AV.int k], nilO) = ([AV.agg [AV.agg [AV.str (A45.rel
  (Prod.fst a_1)), AV.lst 43 (A45.hl (Prod.fst a_1))], AV.lst 46 (A45.bl (Prod.fst a_1)), AV.int (A45.line (Prod.fst a_1))], AV.int (Prod.snd a_1)], nilO) ∧
  ((cntL (tmsOf (ruleTs 43 (A45.hl (Prod.fst a_1)) (A45.bl (Prod.fst a_1)))) ≤ 100000 ∧ List.length (A45.bl (Prod.fst a_1)) ≤ 100000) ∧ (0 : Int) ≤ Prod.snd a_1
  ∧ Prod.snd a_1 < (↑(List.length (A45.bl (Prod.fst a_1))) : Int)) ∧ K (AV.tup [AV.lst 9 (strs (outerF (rOf (Prod.fst a_1)) (Int.toNat (Prod.snd a_1)))), AV.int
  0]) []))))))) := by kernel_rfl
def outOr (a : AP) : Out (AV × List Dn.Obj) := .brn (rightR (rOf a.1)) (.brn (decide (a.2 < 0) || decide ((a.1.bl.length : Int) ≤ a.2)) (.one (.tup [.nil, .int 2], []))
  (.brn (decide ((nthLt (rOf a.1).body a.2.toNat).op < 7)) (.one (.tup [.nil, .int 2], [])) (.one (.tup [.lst 9 (strs (outerV (rOf a.1) a.2.toNat)), .int 0], [])))) (.one (.tup [.nil, .int 30], []))
def sideOr (a : AP) : Prop := side42 a.1
theorem cOr (κ : Kp) : CallOk (EOd κ) 12 15 (callE stWkc sideOr outOr) := by
  refine callE_ok ?_
  rintro ⟨a, k⟩ K h2 ho
  have h2 : side42 a := h2
  refine Eq.mpr (yOr κ a k K) ?_
  simp only [outOr, Out.run, brn_iff] at ho
  have hc := side_hl h2
  have hl1 := len_cntL (tmsOf a.hl)
  rw [tms_len] at hl1
  have hl := h2.2
  have hr : rightR ⟨⟨a.rel, tmsOf a.hl⟩, ltsOf a.bl⟩ = rightR (rOf a) := rfl
  rw [hr]
  simp only [cnd_iff, brn_iff, Bool.and_eq_true, decide_eq_true_eq, decide_eq_false_iff_not, Bool.not_eq_true', Bool.not_eq_false']
  refine ⟨⟨⟨by omega, by omega⟩, side_fit h2⟩, fun e => ho.2 e, fun e => ⟨fun e2 => (ho.1 e).1 (by rw [decide_eq_true e2]; rfl), fun e2 => ⟨fun e3 => (ho.1 e).1 (by rw [decide_eq_true (show (a.bl.length : Int) ≤ k from e3)]; simp), fun e3 => ?_⟩⟩⟩
  have hk : k.toNat < a.bl.length := by omega
  have hb : (nthLt (rOf a).body k.toNat) = ltOf (nth a.bl k.toNat) := nthLt_lts a.bl hk
  have ho2 := (ho.1 e).2 (by rw [decide_eq_false e2, decide_eq_false (show ¬ (a.bl.length : Int) ≤ k by omega)]; rfl)
  rw [hb, decide_eq_true_eq, decide_eq_false_iff_not] at ho2
  refine ⟨⟨by omega, by omega⟩, fun e4 => ho2.1 e4, fun e4 => ⟨(a, k), rfl, ⟨h2, by simp only; omega, by simp only; omega⟩, ?_⟩⟩
  rw [outerF_eq e]
  exact ho2.2 e4
noncomputable def EOr (κ : Kp) : Env := (EOd κ).addCall 15 (callE stWkc sideOr outOr)
theorem eOr (κ : Kp) : EnvOK (EOr κ) := (eOd κ).addCall (mOd κ) (cOr κ)
theorem mOr (κ : Kp) : EnvMono (EOr κ) := (mOd κ).addCall callE_mono
theorem yOs (κ : Kp) (a : A45) (k : Int) (K : AV → List Dn.Obj → Prop) : (funA (EOr κ) 12 14 [rl45 a, .int k] [] K) = (
  cnd (decide (List.length (A45.hl a) ≤ 9223372036854775807) && decide (List.length (A45.bl a) ≤ 9223372036854775807)) (brn (!rightR
  { head := { rel := A45.rel a, l := tmsOf (A45.hl a) }, body := ltsOf (A45.bl a) }) (K (AV.tup [AV.nil, AV.int 30]) []) (brn (decide (k < (0 : Int))) (K (AV.tup
  [AV.nil, AV.int 2]) []) (brn (decide (k ≥ (↑(List.length (A45.bl a)) : Int))) (K (AV.tup [AV.nil, AV.int 2]) []) (cnd (decide ((0 : Int) ≤ k) && decide (k <
  (↑(List.length (A45.bl a)) : Int))) (brn (!decide ((7 : Int) ≤ toInt (fld (nth (A45.bl a) (Int.toNat k)) 0))) (K (AV.tup [AV.nil, AV.int 2]) []) (∃ (a_1 : A45
  × Int), ([AV.agg [AV.agg [AV.str (A45.rel a), AV.lst 43 (A45.hl a)], AV.lst 46 (A45.bl a), AV.int (A45.line a)], AV.int k], nilO) = ([AV.agg [AV.agg [AV.str
  (A45.rel (Prod.fst a_1)), AV.lst 43 (A45.hl (Prod.fst a_1))], AV.lst 46 (A45.bl (Prod.fst a_1)), AV.int (A45.line (Prod.fst a_1))], AV.int (Prod.snd a_1)],
  nilO) ∧ (rightR (rOf (Prod.fst a_1)) = true ∧ (cntL (tmsOf (ruleTs 43 (A45.hl (Prod.fst a_1)) (A45.bl (Prod.fst a_1)))) ≤ 100000 ∧ List.length (A45.bl
  (Prod.fst a_1)) ≤ 100000) ∧ (0 : Int) ≤ Prod.snd a_1 ∧ Prod.snd a_1 < (↑(List.length (A45.bl (Prod.fst a_1))) : Int)) ∧ K (AV.tup [AV.lst 9 (strs (outerV (rOf
  (Prod.fst a_1)) (Int.toNat (Prod.snd a_1)))), AV.int 0]) []))))))) := by kernel_rfl
theorem cOs (κ : Kp) : CallOk (EOr κ) 12 14 (callE stWkc sideOr outOr) := by
  refine callE_ok ?_
  rintro ⟨a, k⟩ K h2 ho
  have h2 : side42 a := h2
  refine Eq.mpr (yOs κ a k K) ?_
  simp only [outOr, Out.run, brn_iff] at ho
  have hc := side_hl h2
  have hl1 := len_cntL (tmsOf a.hl)
  rw [tms_len] at hl1
  have hl := h2.2
  have hr : rightR ⟨⟨a.rel, tmsOf a.hl⟩, ltsOf a.bl⟩ = rightR (rOf a) := rfl
  rw [hr]
  simp only [cnd_iff, brn_iff, Bool.and_eq_true, decide_eq_true_eq, decide_eq_false_iff_not, Bool.not_eq_true', Bool.not_eq_false']
  refine ⟨⟨by omega, by omega⟩, fun e => ho.2 e, fun e => ⟨fun e2 => (ho.1 e).1 (by rw [decide_eq_true e2]; rfl), fun e2 => ⟨fun e3 => (ho.1 e).1 (by rw [decide_eq_true (show (a.bl.length : Int) ≤ k from e3)]; simp), fun e3 => ?_⟩⟩⟩
  have hk : k.toNat < a.bl.length := by omega
  have hb : (nthLt (rOf a).body k.toNat) = ltOf (nth a.bl k.toNat) := nthLt_lts a.bl hk
  have ho2 := (ho.1 e).2 (by rw [decide_eq_false e2, decide_eq_false (show ¬ (a.bl.length : Int) ≤ k by omega)]; rfl)
  rw [hb, decide_eq_true_eq, decide_eq_false_iff_not] at ho2
  refine ⟨⟨by omega, by omega⟩, fun e4 => ho2.1 (show toInt (fld (nth a.bl k.toNat) 0) < 7 by omega), fun e4 => ⟨(a, k), rfl, ⟨e, h2, by simp only; omega, by simp only; omega⟩, ?_⟩⟩
  exact ho2.2 (show ¬ toInt (fld (nth a.bl k.toNat) 0) < 7 by omega)
noncomputable def EOs (κ : Kp) : Env := (EOr κ).addCall 14 (callE stWkc sideOr outOr)
theorem eOs (κ : Kp) : EnvOK (EOs κ) := (eOr κ).addCall (mOr κ) (cOs κ)
theorem mOs (κ : Kp) : EnvMono (EOs κ) := (mOr κ).addCall callE_mono
theorem xBl (κ : Kp) (o all b : List AV) (i : Int) (I : Nat → S → Prop) (n : Nat) (K : Exit → S → Prop) : (vc (EOs κ) 12 13 none 0 (loopCode (Pr κ).toProgram 13 10) (sp 61 [(9, .lst 9 b), (11, .slc 0 0 o.length), (12, .lst 9 all), (13, .int i)] [.row 9 o]) (loopK (EOs κ) 13 10 0 I n K)) = (
  brn (decide (i < (↑(List.length all) : Int))) (cnd (decide ((0 : Int) ≤ i) && decide (i < (↑(List.length all) : Int))) (cnd (decide (List.length b ≤
  9223372036854775807)) (brn (decide (placeS (toStr (nth all (Int.toNat i))) b (0 : Int) ≥ (0 : Int))) (cnd (decide ((0 : Int) ≤ i) && decide (i < (↑(List.length
  all) : Int))) (cnd (decide ((List.length o + 1 + 1) * 17 ≤ 70368744177664)) (∃ (m : Nat), m < n ∧ I m (sp 61 [(9, AV.lst 9 b), (11, AV.slc 0 0 (List.length o +
  1)), (12, AV.lst 9 all), (13, AV.int (IntKind.wrap IntKind.i64 (i + (1 : Int))))] [Obj.row 9 (List.take (List.length o) o ++ [AV.str (toStr (nth all (Int.toNat
  i)))])])))) (∃ (m : Nat), m < n ∧ I m (sp 61 [(9, AV.lst 9 b), (11, AV.slc 0 0 (List.length o)), (12, AV.lst 9 all), (13, AV.int (IntKind.wrap IntKind.i64 (i +
  (1 : Int))))] [Obj.row 9 o]))))) (K (Exit.exit 0) (sp 61 [(11, AV.slc 0 0 (List.length o))] [Obj.row 9 o]))) := by kernel_rfl
structure ABl where
  o : List ByteArray
  all : List ByteArray
  b : List ByteArray
  i : Int
abbrev stBl (a : ABl) : S := sp 61 [(9, .lst 9 (strs a.b)), (11, .slc 0 0 (strs a.o).length), (12, .lst 9 (strs a.all)), (13, .int a.i)] [.row 9 (strs a.o)]
def sideBl (a : ABl) : Prop := a.all.length ≤ 1000000 ∧ a.b.length ≤ 1000000 ∧ a.o.length ≤ a.i.toNat ∧ 0 ≤ a.i ∧ a.i ≤ a.all.length
def endBl (a : ABl) : List ByteArray := a.o ++ (a.all.drop a.i.toNat).filter fun v => a.b.contains v
def outBl (a : ABl) : Out (Exit × S) := .one (.exit 0, sp 61 [(11, .slc 0 0 (strs (endBl a)).length)] [.row 9 (strs (endBl a))])
theorem lBl (κ : Kp) : LoopOk (EOs κ) 12 13 10 (loopE 0 stBl sideBl outBl) := by
  refine loopE_ok (fun a => a.all.length - a.i.toNat) ?_
  rintro ⟨o, all, b, i⟩ K ⟨h1, h2, h4, h5, h6⟩ ho
  simp only at h1 h2 h4 h5 h6
  rw [show (EOs κ).P = Pr κ from rfl]
  refine Eq.mpr (xBl κ (strs o) (strs all) (strs b) i _ _ K) ?_
  simp only [outBl, endBl, Out.run] at ho
  simp only [brn_iff, cnd_iff, decide_eq_true_eq, decide_eq_false_iff_not, Bool.and_eq_true]
  rw [List.take_length]
  simp only [strs_len] at ho ⊢
  refine ⟨fun hi => ?_, fun hi => ?_⟩
  · have hk : i.toNat < all.length := by omega
    rw [strs_nth all _ hk]
    have c1 := placeS_ge all[i.toNat] b 0 (by omega)
    rw [List.drop_eq_getElem_cons hk, List.filter_cons] at ho
    have go : ∀ o' : List ByteArray, o'.length ≤ o.length + 1 → o' ++ (all.drop (i.toNat + 1)).filter (fun v => b.contains v) = o ++ (if b.contains all[i.toNat] = true then all[i.toNat] :: (all.drop (i.toNat + 1)).filter (fun v => b.contains v) else (all.drop (i.toNat + 1)).filter (fun v => b.contains v)) →
        ∃ k, k < all.length - i.toNat ∧ invOf stBl sideBl outBl (fun a => a.all.length - a.i.toNat) K k (stBl ⟨o', all, b, i + 1⟩) := by
      intro o' hl he
      refine ⟨_, ?_, ⟨o', all, b, i + 1⟩, rfl, ⟨h1, h2, by simp only; omega, by simp only; omega, by simp only; omega⟩, rfl, ?_⟩
      · simp only; omega
      · simp only [outBl, endBl, Out.run, show (i + 1).toNat = i.toNat + 1 by omega, he, strs_len]
        exact ho
    rw [wrap_ok (n := i + 1) (by omega) (by omega)]
    have g0 := go o (by omega)
    have g1 := go (o ++ [all[i.toNat]]) (by simp)
    simp only [stBl, strs_len, strs_app, List.length_append, List.length_cons, List.length_nil] at g0 g1
    refine ⟨⟨h5, hi⟩, by omega, fun e1 => ⟨⟨h5, hi⟩, by omega, g1 ?_⟩, fun e1 => g0 ?_⟩
    · rw [← c1, decide_eq_true (show placeS all[i.toNat] (strs b) 0 ≥ 0 from e1)]
      simp
    · rw [← c1, decide_eq_false (show ¬ placeS all[i.toNat] (strs b) 0 ≥ 0 from e1)]
      simp
  · rw [List.drop_eq_nil_of_le (by omega)] at ho
    simpa using ho
noncomputable def EBl (κ : Kp) : Env := (EOs κ).addLoop 13 10 (loopE 0 stBl sideBl outBl)
theorem eBl (κ : Kp) : EnvOK (EBl κ) := (eOs κ).addLoop (mOs κ) (lBl κ)
theorem mBl (κ : Kp) : EnvMono (EBl κ) := (mOs κ).addLoop loopE_mono
theorem yBd (κ : Kp) (a : A45) (k : Int) (K : AV → List Dn.Obj → Prop) : (funA (EBl κ) 12 13 [rl45 a, .int k] [] K) = (
  ∃ (a_1 : A45), ([AV.agg [AV.agg [AV.str (A45.rel a), AV.lst 43 (A45.hl a)], AV.lst 46 (A45.bl a), AV.int (A45.line a)]], nilO) = ([AV.agg [AV.agg [AV.str
  (A45.rel a_1), AV.lst 43 (A45.hl a_1)], AV.lst 46 (A45.bl a_1), AV.int (A45.line a_1)]], nilO) ∧ (cntL (tmsOf (ruleTs 43 (A45.hl a_1) (A45.bl a_1))) ≤ 100000 ∧
  List.length (A45.bl a_1) ≤ 100000) ∧ brn (rightR (rOf a_1)) (brn (safeR (rOf a_1)) (brn (decide (k < (0 : Int))) (K (AV.tup [AV.nil, AV.int 2]) []) (brn
  (decide (k > (↑(List.length (A45.bl a)) : Int))) (K (AV.tup [AV.nil, AV.int 2]) []) (∃ (a_2 : AP), ([AV.agg [AV.agg [AV.str (A45.rel a), AV.lst 43 (A45.hl a)],
  AV.lst 46 (A45.bl a), AV.int (A45.line a)], AV.int k], nilO) = ([AV.agg [AV.agg [AV.str (A45.rel (Prod.fst a_2)), AV.lst 43 (A45.hl (Prod.fst a_2))], AV.lst 46
  (A45.bl (Prod.fst a_2)), AV.int (A45.line (Prod.fst a_2))], AV.int (Prod.snd a_2)], nilO) ∧ (rightR (rOf (Prod.fst a_2)) = true ∧ (cntL (tmsOf (ruleTs 43
  (A45.hl (Prod.fst a_2)) (A45.bl (Prod.fst a_2)))) ≤ 100000 ∧ List.length (A45.bl (Prod.fst a_2)) ≤ 100000) ∧ (0 : Int) ≤ Prod.snd a_2 ∧ Prod.snd a_2 ≤
  (↑(List.length (A45.bl (Prod.fst a_2))) : Int)) ∧ brn (Option.isSome (wFrom a_2)) (∃ (a_3 : A45), ([AV.agg [AV.agg [AV.str (A45.rel a), AV.lst 43 (A45.hl a)],
  AV.lst 46 (A45.bl a), AV.int (A45.line a)]], nilO) = ([AV.agg [AV.agg [AV.str (A45.rel a_3), AV.lst 43 (A45.hl a_3)], AV.lst 46 (A45.bl a_3), AV.int (A45.line
  a_3)]], nilO) ∧ (cntL (tmsOf (ruleTs 43 (A45.hl a_3) (A45.bl a_3))) ≤ 100000 ∧ List.length (A45.bl a_3) ≤ 100000) ∧ loopCode (Pg.toProgram (Env.P (EOs κ))) 13
  10 = loopCode (Pg.toProgram (Env.P (EOs κ))) 13 10 ∧ ∃ (a : ABl), sp 61 [(9, AV.lst 9 (strs (wd (wFrom a_2)))), (11, AV.slc 0 0 0), (12, AV.lst 9 (strs (varsF
  (rOf a_3)))), (13, AV.int 0)] [Obj.row 9 []] = sp 61 [(9, AV.lst 9 (strs (ABl.b a))), (11, AV.slc 0 0 (List.length (strs (ABl.o a)))), (12, AV.lst 9 (strs
  (ABl.all a))), (13, AV.int (ABl.i a))] [Obj.row 9 (strs (ABl.o a))] ∧ (List.length (ABl.all a) ≤ 1000000 ∧ List.length (ABl.b a) ≤ 1000000 ∧ List.length (ABl.o
  a) ≤ Int.toNat (ABl.i a) ∧ (0 : Int) ≤ ABl.i a ∧ ABl.i a ≤ (↑(List.length (ABl.all a)) : Int)) ∧ K (AV.tup [AV.slc 0 0 (List.length (strs (endBl a))), AV.int
  0]) [Obj.row 9 (strs (endBl a))]) (∃ (a_3 : A45), ([AV.agg [AV.agg [AV.str (A45.rel a), AV.lst 43 (A45.hl a)], AV.lst 46 (A45.bl a), AV.int (A45.line a)]],
  nilO) = ([AV.agg [AV.agg [AV.str (A45.rel a_3), AV.lst 43 (A45.hl a_3)], AV.lst 46 (A45.bl a_3), AV.int (A45.line a_3)]], nilO) ∧ (cntL (tmsOf (ruleTs 43
  (A45.hl a_3) (A45.bl a_3))) ≤ 100000 ∧ List.length (A45.bl a_3) ≤ 100000) ∧ loopCode (Pg.toProgram (Env.P (EOs κ))) 13 10 = loopCode (Pg.toProgram (Env.P (EOs
  κ))) 13 10 ∧ ∃ (a : ABl), sp 61 [(9, AV.nil), (11, AV.slc 0 0 0), (12, AV.lst 9 (strs (varsF (rOf a_3)))), (13, AV.int 0)] [Obj.row 9 []] = sp 61 [(9, AV.lst 9
  (strs (ABl.b a))), (11, AV.slc 0 0 (List.length (strs (ABl.o a)))), (12, AV.lst 9 (strs (ABl.all a))), (13, AV.int (ABl.i a))] [Obj.row 9 (strs (ABl.o a))] ∧
  (List.length (ABl.all a) ≤ 1000000 ∧ List.length (ABl.b a) ≤ 1000000 ∧ List.length (ABl.o a) ≤ Int.toNat (ABl.i a) ∧ (0 : Int) ≤ ABl.i a ∧ ABl.i a ≤
  (↑(List.length (ABl.all a)) : Int)) ∧ K (AV.tup [AV.slc 0 0 (List.length (strs (endBl a))), AV.int 0]) [Obj.row 9 (strs (endBl a))])))) (K (AV.tup [AV.nil,
  AV.int 60]) [])) (K (AV.tup [AV.nil, AV.int 30]) [])) := by kernel_rfl
theorem wFrom_full {a : A45} (hr : rightR (rOf a) = true) (hs : safeR (rOf a) = true) {k : Int} (h0 : 0 ≤ k) (hk : k ≤ a.bl.length) : wFrom (a, k) = some ((walkR (rOf a)).take k.toNat, wd (wFrom (a, k))) ∧ ∀ s, s ∈ wd (wFrom (a, k)) ↔ s ∈ gainsL (rOf a) ((walkR (rOf a)).take k.toNat) := by
  obtain ⟨d, h1, h2⟩ := walkG_full hr hs (n := k.toNat) (by rw [body_len]; omega)
  have h3 : wFrom (a, k) = some ((walkR (rOf a)).take k.toNat, d) := h1
  rw [h3]
  exact ⟨rfl, h2⟩
def outBd (a : A45 × Int) : Out (AV × List Dn.Obj) := .brn (rightR (rOf a.1)) (.brn (safeR (rOf a.1)) (.brn (decide (a.2 < 0) || decide (a.1.bl.length < a.2)) (.one (.tup [.nil, .int 2], []))
  (.one (.tup [.slc 0 0 (strs (boundV (rOf a.1) a.2.toNat)).length, .int 0], [.row 9 (strs (boundV (rOf a.1) a.2.toNat))]))) (.one (.tup [.nil, .int 60], []))) (.one (.tup [.nil, .int 30], []))
theorem cBd (κ : Kp) : CallOk (EBl κ) 12 13 (callE st10 side10 outBd) := by
  refine callE_ok ?_
  rintro ⟨a, k⟩ K h2 ho
  refine Eq.mpr (yBd κ a k K) ?_
  simp only [outBd, Out.run, brn_iff] at ho
  have h2 : side42 a := h2
  have hl := h2.2
  refine ⟨a, rfl, h2, ?_⟩
  rw [brn_iff]
  refine ⟨fun e1 => ?_, fun e1 => ho.2 e1⟩
  rw [brn_iff]
  refine ⟨fun e2 => ?_, fun e2 => (ho.1 e1).2 e2⟩
  have ho1 := (ho.1 e1).1 e2
  rw [brn_iff, decide_eq_true_eq, decide_eq_false_iff_not]
  refine ⟨fun e3 => ho1.1 (by rw [decide_eq_true e3]; rfl), fun e3 => ?_⟩
  rw [brn_iff, decide_eq_true_eq, decide_eq_false_iff_not]
  refine ⟨fun e4 => ho1.1 (by rw [decide_eq_true (show (a.bl.length : Int) < k from e4)]; simp), fun e4 => ?_⟩
  have ho2 := ho1.2 (by rw [decide_eq_false e3, decide_eq_false (show ¬ (a.bl.length : Int) < k from e4)]; rfl)
  obtain ⟨hw, hm⟩ := wFrom_full e1 e2 (k := k) (by omega) (by omega)
  refine ⟨(a, k), rfl, ⟨e1, h2, by simp only; omega, by simp only; omega⟩, ?_⟩
  rw [brn_iff]
  refine ⟨fun _ => ⟨a, rfl, h2, rfl, ⟨[], varsF (rOf a), wd (wFrom (a, k)), 0⟩, rfl, ⟨varsF_le h2, by have := wFrom_len e1 h2 k; simp only; omega, by simp only [List.length_nil]; omega, by simp only; omega, by simp only; omega⟩, ?_⟩, fun e5 => ?_⟩
  · simp only [endBl, Int.toNat_zero, List.drop_zero, List.nil_append, List.take_length]
    rw [boundV_G hm]
    exact ho2
  · rw [hw] at e5; cases e5
noncomputable def EBd (κ : Kp) : Env := (EBl κ).addCall 13 (callE st10 side10 outBd)
theorem eBd (κ : Kp) : EnvOK (EBd κ) := (eBl κ).addCall (mBl κ) (cBd κ)
theorem mBd (κ : Kp) : EnvMono (EBd κ) := (mBl κ).addCall callE_mono
end Go.Proofs.YtpgahkbkfflkaaaGreatDoor
namespace Go.Proofs.YtpgahkbkfflkaaaGreatDoor
open Go Go.Dn Go.Rl Go.Proofs
attribute [local irreducible] funA vc
set_option maxRecDepth 20000
def sideWs (a : AP) : Prop := sideWkc a ∧ safeR (rOf a.1) = true
def outWs (a : AP) : Out (AV × List Dn.Obj) := .one (.tup [.slc 0 0 (ints (wl (wFrom a))).length, .lst 9 (strs (wd (wFrom a))), .bool true], [.row 3 (ints (wl (wFrom a)))])
theorem cWs (κ : Kp) : CallOk (EWkl κ) 12 24 (callE stWkc sideWs outWs) := by
  refine callE_ok ?_
  rintro ⟨a, n⟩ K ⟨h1, h2⟩ ho
  have h := cWk κ (stWkc (a, n)).1 (stWkc (a, n)).2 K ⟨(a, n), rfl, h1, ?_⟩
  · exact h
  · simp only [outWkc, Out.run, brn_iff]
    simp only [outWs, Out.run] at ho
    obtain ⟨e1, e2, e3, e4⟩ := h1
    obtain ⟨hw, _⟩ := wFrom_full (a := a) e1 h2 (k := n) e3 e4
    rw [hw]
    rw [hw] at ho
    exact ⟨fun _ => ho, fun e => by cases e⟩
noncomputable def EWs (κ : Kp) : Env := (EBd κ).addCall 24 (callE stWkc sideWs outWs)
theorem cWs_sim (κ : Kp) : ∀ args st K, callE stWkc sideWs outWs args st K → SimCall (EBd κ).P 24 args st K := fun args st K h => fun_sound (eWkl κ) (mWkl κ) (cWs κ args st K h)
theorem eWs (κ : Kp) : EnvOK (EWs κ) := (eBd κ).addSim (cWs_sim κ)
theorem mWs (κ : Kp) : EnvMono (EWs κ) := (mBd κ).addCall callE_mono
theorem xIl (κ : Kp) (a : A45) (ws : List AV) (i : Int) (I : Nat → S → Prop) (n : Nat) (K : Exit → S → Prop) : (vc (EWs κ) 12 10 none 0 (loopCode (Pr κ).toProgram 10 5) (sp 80 [(1, .ptr 0 0 [] 0), (4, .slc 1 0 ws.length), (6, .int i)] [.box 27 (rl45 a), .row 3 ws]) (loopK (EWs κ) 10 5 0 I n K)) = (
  brn (decide (i < (↑(List.length ws) : Int))) (cnd (decide ((0 : Int) ≤ i) && decide (i < (↑(List.length ws) : Int))) (cnd (decide ((0 : Int) ≤ toInt (nth ws (0 +
  Int.toNat i))) && decide (toInt (nth ws (0 + Int.toNat i)) < (↑(List.length (A45.bl a)) : Int))) (∃ (a_1 : AP), ([AV.agg [AV.agg [AV.str (A45.rel a), AV.lst 43
  (A45.hl a)], AV.lst 46 (A45.bl a), AV.int (A45.line a)], AV.int i], nilO) = ([AV.agg [AV.agg [AV.str (A45.rel (Prod.fst a_1)), AV.lst 43 (A45.hl (Prod.fst
  a_1))], AV.lst 46 (A45.bl (Prod.fst a_1)), AV.int (A45.line (Prod.fst a_1))], AV.int (Prod.snd a_1)], nilO) ∧ ((rightR (rOf (Prod.fst a_1)) = true ∧ (cntL
  (tmsOf (ruleTs 43 (A45.hl (Prod.fst a_1)) (A45.bl (Prod.fst a_1)))) ≤ 100000 ∧ List.length (A45.bl (Prod.fst a_1)) ≤ 100000) ∧ (0 : Int) ≤ Prod.snd a_1 ∧
  Prod.snd a_1 ≤ (↑(List.length (A45.bl (Prod.fst a_1))) : Int)) ∧ safeR (rOf (Prod.fst a_1)) = true) ∧ cnd (decide (Tm.cnt (Tm.mk (toInt (fld (fld (nth (A45.bl
  a) (Int.toNat (toInt (nth ws (0 + Int.toNat i))))) 3) 0)) (toStr (fld (fld (nth (A45.bl a) (Int.toNat (toInt (nth ws (0 + Int.toNat i))))) 3) 1)) (toInt (fld
  (fld (nth (A45.bl a) (Int.toNat (toInt (nth ws (0 + Int.toNat i))))) 3) 2)) (tmsOf (toLst (fld (fld (nth (A45.bl a) (Int.toNat (toInt (nth ws (0 + Int.toNat
  i))))) 3) 3)))) ≤ 100000) && decide (List.length (strs (wd (wFrom a_1))) ≤ 1000000)) (cnd (decide (Tm.cnt (Tm.mk (toInt (fld (fld (nth (A45.bl a) (Int.toNat
  (toInt (nth ws (0 + Int.toNat i))))) 2) 0)) (toStr (fld (fld (nth (A45.bl a) (Int.toNat (toInt (nth ws (0 + Int.toNat i))))) 2) 1)) (toInt (fld (fld (nth
  (A45.bl a) (Int.toNat (toInt (nth ws (0 + Int.toNat i))))) 2) 2)) (tmsOf (toLst (fld (fld (nth (A45.bl a) (Int.toNat (toInt (nth ws (0 + Int.toNat i))))) 2)
  3)))) ≤ 100000) && decide (List.length (strs (wd (wFrom a_1))) ≤ 1000000)) (brn (decide (toInt (fld (nth (A45.bl a) (Int.toNat (toInt (nth ws (0 + Int.toNat
  i))))) 0) ≥ (7 : Int))) (K Exit.ret (sp 80 [(2, AV.bool true), (3, AV.int 0)] [])) (brn (toInt (fld (nth (A45.bl a) (Int.toNat (toInt (nth ws (0 + Int.toNat
  i))))) 0) == (3 : Int)) (brn (bindsF (List.map toStr (strs (wd (wFrom a_1)))) (Tm.mk (toInt (fld (fld (nth (A45.bl a) (Int.toNat (toInt (nth ws (0 + Int.toNat
  i))))) 2) 0)) (toStr (fld (fld (nth (A45.bl a) (Int.toNat (toInt (nth ws (0 + Int.toNat i))))) 2) 1)) (toInt (fld (fld (nth (A45.bl a) (Int.toNat (toInt (nth
  ws (0 + Int.toNat i))))) 2) 2)) (tmsOf (toLst (fld (fld (nth (A45.bl a) (Int.toNat (toInt (nth ws (0 + Int.toNat i))))) 2) 3)))) (Tm.mk (toInt (fld (fld (nth
  (A45.bl a) (Int.toNat (toInt (nth ws (0 + Int.toNat i))))) 3) 0)) (toStr (fld (fld (nth (A45.bl a) (Int.toNat (toInt (nth ws (0 + Int.toNat i))))) 3) 1))
  (toInt (fld (fld (nth (A45.bl a) (Int.toNat (toInt (nth ws (0 + Int.toNat i))))) 3) 2)) (tmsOf (toLst (fld (fld (nth (A45.bl a) (Int.toNat (toInt (nth ws (0 +
  Int.toNat i))))) 3) 3))))) (brn (decide (toInt (fld (fld (nth (A45.bl a) (Int.toNat (toInt (nth ws (0 + Int.toNat i))))) 3) 0) ≥ (5 : Int))) (K Exit.ret (sp 80
  [(2, AV.bool true), (3, AV.int 0)] [])) (brn (bindsF (List.map toStr (strs (wd (wFrom a_1)))) (Tm.mk (toInt (fld (fld (nth (A45.bl a) (Int.toNat (toInt (nth ws
  (0 + Int.toNat i))))) 3) 0)) (toStr (fld (fld (nth (A45.bl a) (Int.toNat (toInt (nth ws (0 + Int.toNat i))))) 3) 1)) (toInt (fld (fld (nth (A45.bl a)
  (Int.toNat (toInt (nth ws (0 + Int.toNat i))))) 3) 2)) (tmsOf (toLst (fld (fld (nth (A45.bl a) (Int.toNat (toInt (nth ws (0 + Int.toNat i))))) 3) 3)))) (Tm.mk
  (toInt (fld (fld (nth (A45.bl a) (Int.toNat (toInt (nth ws (0 + Int.toNat i))))) 2) 0)) (toStr (fld (fld (nth (A45.bl a) (Int.toNat (toInt (nth ws (0 +
  Int.toNat i))))) 2) 1)) (toInt (fld (fld (nth (A45.bl a) (Int.toNat (toInt (nth ws (0 + Int.toNat i))))) 2) 2)) (tmsOf (toLst (fld (fld (nth (A45.bl a)
  (Int.toNat (toInt (nth ws (0 + Int.toNat i))))) 2) 3))))) (brn (decide (toInt (fld (fld (nth (A45.bl a) (Int.toNat (toInt (nth ws (0 + Int.toNat i))))) 2) 0) ≥
  (5 : Int))) (K Exit.ret (sp 80 [(2, AV.bool true), (3, AV.int 0)] [])) (∃ (m : Nat), m < n ∧ I m (sp 80 [(1, AV.ptr 0 0 [] 0), (4, AV.slc 1 0 (List.length
  ws)), (6, AV.int (IntKind.wrap IntKind.i64 (i + (1 : Int))))] [Obj.box 27 (AV.agg [AV.agg [AV.str (A45.rel a), AV.lst 43 (A45.hl a)], AV.lst 46 (A45.bl a),
  AV.int (A45.line a)]), Obj.row 3 ws]))) (∃ (m : Nat), m < n ∧ I m (sp 80 [(1, AV.ptr 0 0 [] 0), (4, AV.slc 1 0 (List.length ws)), (6, AV.int (IntKind.wrap
  IntKind.i64 (i + (1 : Int))))] [Obj.box 27 (AV.agg [AV.agg [AV.str (A45.rel a), AV.lst 43 (A45.hl a)], AV.lst 46 (A45.bl a), AV.int (A45.line a)]), Obj.row 3
  ws])))) (brn (bindsF (List.map toStr (strs (wd (wFrom a_1)))) (Tm.mk (toInt (fld (fld (nth (A45.bl a) (Int.toNat (toInt (nth ws (0 + Int.toNat i))))) 3) 0))
  (toStr (fld (fld (nth (A45.bl a) (Int.toNat (toInt (nth ws (0 + Int.toNat i))))) 3) 1)) (toInt (fld (fld (nth (A45.bl a) (Int.toNat (toInt (nth ws (0 +
  Int.toNat i))))) 3) 2)) (tmsOf (toLst (fld (fld (nth (A45.bl a) (Int.toNat (toInt (nth ws (0 + Int.toNat i))))) 3) 3)))) (Tm.mk (toInt (fld (fld (nth (A45.bl
  a) (Int.toNat (toInt (nth ws (0 + Int.toNat i))))) 2) 0)) (toStr (fld (fld (nth (A45.bl a) (Int.toNat (toInt (nth ws (0 + Int.toNat i))))) 2) 1)) (toInt (fld
  (fld (nth (A45.bl a) (Int.toNat (toInt (nth ws (0 + Int.toNat i))))) 2) 2)) (tmsOf (toLst (fld (fld (nth (A45.bl a) (Int.toNat (toInt (nth ws (0 + Int.toNat
  i))))) 2) 3))))) (brn (decide (toInt (fld (fld (nth (A45.bl a) (Int.toNat (toInt (nth ws (0 + Int.toNat i))))) 2) 0) ≥ (5 : Int))) (K Exit.ret (sp 80 [(2,
  AV.bool true), (3, AV.int 0)] [])) (∃ (m : Nat), m < n ∧ I m (sp 80 [(1, AV.ptr 0 0 [] 0), (4, AV.slc 1 0 (List.length ws)), (6, AV.int (IntKind.wrap
  IntKind.i64 (i + (1 : Int))))] [Obj.box 27 (AV.agg [AV.agg [AV.str (A45.rel a), AV.lst 43 (A45.hl a)], AV.lst 46 (A45.bl a), AV.int (A45.line a)]), Obj.row 3
  ws]))) (∃ (m : Nat), m < n ∧ I m (sp 80 [(1, AV.ptr 0 0 [] 0), (4, AV.slc 1 0 (List.length ws)), (6, AV.int (IntKind.wrap IntKind.i64 (i + (1 : Int))))]
  [Obj.box 27 (AV.agg [AV.agg [AV.str (A45.rel a), AV.lst 43 (A45.hl a)], AV.lst 46 (A45.bl a), AV.int (A45.line a)]), Obj.row 3 ws])))) (∃ (m : Nat), m < n ∧ I
  m (sp 80 [(1, AV.ptr 0 0 [] 0), (4, AV.slc 1 0 (List.length ws)), (6, AV.int (IntKind.wrap IntKind.i64 (i + (1 : Int))))] [Obj.box 27 (AV.agg [AV.agg [AV.str
  (A45.rel a), AV.lst 43 (A45.hl a)], AV.lst 46 (A45.bl a), AV.int (A45.line a)]), Obj.row 3 ws])))))))) (K (Exit.exit 0) (sp 80 [] []))) := by kernel_rfl
structure AIl where
  a : A45
  i : Int
abbrev stIl (a : AIl) : S := sp 80 [(1, .ptr 0 0 [] 0), (4, .slc 1 0 (ints (walkR (rOf a.a))).length), (6, .int a.i)] [.box 27 (rl45 a.a), .row 3 (ints (walkR (rOf a.a)))]
def sideIl (a : AIl) : Prop := rightR (rOf a.a) = true ∧ safeR (rOf a.a) = true ∧ side42 a.a ∧ 0 ≤ a.i ∧ a.i ≤ (walkR (rOf a.a)).length
def outIl (a : AIl) : Out (Exit × S) := .brn (invW (rOf a.a) ((walkR (rOf a.a)).drop a.i.toNat) a.i.toNat) (.one (.ret, sp 80 [(2, .bool true), (3, .int 0)] [])) (.one (.exit 0, sp 80 [] []))
theorem lIl (κ : Kp) : LoopOk (EWs κ) 12 10 5 (loopE 0 stIl sideIl outIl) := by
  refine loopE_ok (fun a => (walkR (rOf a.a)).length - a.i.toNat) ?_
  rintro ⟨a, i⟩ K ⟨h1, h2, h3, h4, h5⟩ ho
  simp only at h1 h2 h3 h4 h5
  rw [show (EWs κ).P = Pr κ from rfl]
  refine Eq.mpr (xIl κ a (ints (walkR (rOf a))) i _ _ K) ?_
  simp only [outIl, Out.run, brn_iff] at ho
  have hl := h3.2
  have hwl := walkR_len (rOf a)
  rw [body_len] at hwl
  rw [brn_iff, decide_eq_true_eq, decide_eq_false_iff_not, ints_len]
  refine ⟨fun hi => ?_, fun hi => ?_⟩
  · have hi' : i.toNat < (walkR (rOf a)).length := by omega
    have hk := walkR_lt (List.getElem_mem hi')
    rw [body_len] at hk
    obtain ⟨hw, hm⟩ := wFrom_full h1 h2 (k := i) h4 (by omega)
    have hlen := wFrom_len h1 h3 i
    rw [List.drop_eq_getElem_cons hi', invW, ← invF_eq h1 hm] at ho
    rw [Nat.zero_add, ints_nth _ _ hi', Int.toNat_natCast]
    simp only [← tmOf_eq, strs_map, strs_len, eqI]
    generalize hk2 : (walkR (rOf a))[i.toNat] = k at hk ho
    have hlit := side_lit h3 hk
    have hp := lit_parts (nth a.bl k)
    simp only [cntL] at hp
    have hb : (nthLt (rOf a).body k) = ltOf (nth a.bl k) := nthLt_lts a.bl hk
    have hx : (tmOf (fld (nth a.bl k) 2)).op = toInt (fld (fld (nth a.bl k) 2) 0) := by rw [tmOf_eq]; rfl
    have hy : (tmOf (fld (nth a.bl k) 3)).op = toInt (fld (fld (nth a.bl k) 3) 0) := by rw [tmOf_eq]; rfl
    have hv : invF (rOf a) (wd (wFrom (a, i))) k = (decide (toInt (fld (nth a.bl k) 0) ≥ 7) || decide (toInt (fld (nth a.bl k) 0) = 3) && (bindsF (wd (wFrom (a, i))) (tmOf (fld (nth a.bl k) 2)) (tmOf (fld (nth a.bl k) 3)) && decide (toInt (fld (fld (nth a.bl k) 3) 0) ≥ 5) ||
        bindsF (wd (wFrom (a, i))) (tmOf (fld (nth a.bl k) 3)) (tmOf (fld (nth a.bl k) 2)) && decide (toInt (fld (fld (nth a.bl k) 2) 0) ≥ 5))) := by
      unfold invF
      rw [hb, ← hx, ← hy]; rfl
    have T : invF (rOf a) (wd (wFrom (a, i))) k = true → K .ret (sp 80 [(2, .bool true), (3, .int 0)] []) := fun e => ho.1 (by rw [e]; rfl)
    have N : invF (rOf a) (wd (wFrom (a, i))) k = false → ∃ m, m < (walkR (rOf a)).length - i.toNat ∧ invOf stIl sideIl outIl (fun a => (walkR (rOf a.a)).length - a.i.toNat) K m (sp 80 [(1, .ptr 0 0 [] 0), (4, .slc 1 0 (walkR (rOf a)).length), (6, .int (IntKind.wrap .i64 (i + 1)))] [.box 27 (rl45 a), .row 3 (ints (walkR (rOf a)))]) := fun e => by
      rw [e, Bool.false_or] at ho
      rw [wrap_ok (n := i + 1) (by omega) (by omega)]
      refine ⟨_, ?_, ⟨a, i + 1⟩, by simp only [stIl, ints_len], ⟨h1, h2, h3, by simp only; omega, by simp only; omega⟩, rfl, ?_⟩
      · simp only; omega
      · simp only [outIl, Out.run, brn_iff, show (i + 1).toNat = i.toNat + 1 by omega]
        exact ho
    rw [hv] at T N
    rw [cnd_iff, Bool.and_eq_true, decide_eq_true_eq, decide_eq_true_eq, cnd_iff, Bool.and_eq_true, decide_eq_true_eq, decide_eq_true_eq]
    refine ⟨⟨h4, hi⟩, ⟨by omega, by omega⟩, (a, i), rfl, ⟨⟨h1, h3, h4, by simp only; omega⟩, h2⟩, ?_⟩
    rw [cnd_iff, Bool.and_eq_true, decide_eq_true_eq, decide_eq_true_eq, cnd_iff, Bool.and_eq_true, decide_eq_true_eq, decide_eq_true_eq]
    refine ⟨⟨by omega, by omega⟩, ⟨by omega, by omega⟩, ?_⟩
    revert T N
    generalize bindsF (wd (wFrom (a, i))) (tmOf (fld (nth a.bl k) 2)) (tmOf (fld (nth a.bl k) 3)) = p
    generalize bindsF (wd (wFrom (a, i))) (tmOf (fld (nth a.bl k) 3)) (tmOf (fld (nth a.bl k) 2)) = q
    generalize decide (toInt (fld (nth a.bl k) 0) ≥ 7) = b7
    generalize decide (toInt (fld (nth a.bl k) 0) = 3) = b3
    generalize decide (toInt (fld (fld (nth a.bl k) 2) 0) ≥ 5) = x5
    generalize decide (toInt (fld (fld (nth a.bl k) 3) 0) ≥ 5) = y5
    intro T N
    cases b7
    · cases b3
      · exact N rfl
      · cases p <;> cases q <;> cases x5 <;> cases y5 <;> first | exact T rfl | exact N rfl
    · exact T rfl
  · rw [List.drop_eq_nil_of_le (by omega)] at ho
    exact ho.2 rfl
noncomputable def EIl (κ : Kp) : Env := (EWs κ).addLoop 10 5 (loopE 0 stIl sideIl outIl)
theorem eIl (κ : Kp) : EnvOK (EIl κ) := (eWs κ).addLoop (mWs κ) (lIl κ)
theorem mIl (κ : Kp) : EnvMono (EIl κ) := (mWs κ).addLoop loopE_mono
theorem yIn (κ : Kp) (a : A45) (K : AV → List Dn.Obj → Prop) : (funA (EIl κ) 12 10 [rl45 a] [] K) = (
  ∃ (a_1 : A45), ([AV.agg [AV.agg [AV.str (A45.rel a), AV.lst 43 (A45.hl a)], AV.lst 46 (A45.bl a), AV.int (A45.line a)]], nilO) = ([AV.agg [AV.agg [AV.str
  (A45.rel a_1), AV.lst 43 (A45.hl a_1)], AV.lst 46 (A45.bl a_1), AV.int (A45.line a_1)]], nilO) ∧ (cntL (tmsOf (ruleTs 43 (A45.hl a_1) (A45.bl a_1))) ≤ 100000 ∧
  List.length (A45.bl a_1) ≤ 100000) ∧ brn (rightR (rOf a_1)) (brn (safeR (rOf a_1)) (loopCode (Pg.toProgram (Env.P (EWs κ))) 10 5 = loopCode (Pg.toProgram
  (Env.P (EWs κ))) 10 5 ∧ ∃ (a_2 : AIl), sp 80 [(1, AV.ptr 0 0 [] 0), (4, AV.slc 1 0 (List.length (walkR (rOf a_1)))), (6, AV.int 0)] [Obj.box 27 (AV.agg [AV.agg
  [AV.str (A45.rel a), AV.lst 43 (A45.hl a)], AV.lst 46 (A45.bl a), AV.int (A45.line a)]), Obj.row 3 (ints (walkR (rOf a_1)))] = sp 80 [(1, AV.ptr 0 0 [] 0), (4,
  AV.slc 1 0 (List.length (ints (walkR (rOf (AIl.a a_2)))))), (6, AV.int (AIl.i a_2))] [Obj.box 27 (AV.agg [AV.agg [AV.str (A45.rel (AIl.a a_2)), AV.lst 43
  (A45.hl (AIl.a a_2))], AV.lst 46 (A45.bl (AIl.a a_2)), AV.int (A45.line (AIl.a a_2))]), Obj.row 3 (ints (walkR (rOf (AIl.a a_2))))] ∧ (rightR (rOf (AIl.a a_2))
  = true ∧ safeR (rOf (AIl.a a_2)) = true ∧ (cntL (tmsOf (ruleTs 43 (A45.hl (AIl.a a_2)) (A45.bl (AIl.a a_2)))) ≤ 100000 ∧ List.length (A45.bl (AIl.a a_2)) ≤
  100000) ∧ (0 : Int) ≤ AIl.i a_2 ∧ AIl.i a_2 ≤ (↑(List.length (walkR (rOf (AIl.a a_2)))) : Int)) ∧ brn (invW (rOf (AIl.a a_2)) (List.drop (Int.toNat (AIl.i
  a_2)) (walkR (rOf (AIl.a a_2)))) (Int.toNat (AIl.i a_2))) (K (AV.tup [AV.bool true, AV.int 0]) []) (K (AV.tup [AV.bool false, AV.int 0]) [])) (K (AV.tup
  [AV.bool false, AV.int 60]) [])) (K (AV.tup [AV.bool false, AV.int 30]) [])) := by kernel_rfl
theorem cIn (κ : Kp) : CallOk (EIl κ) 12 10 (callE st17 side42 out8) := by
  refine callE_ok ?_
  rintro a K h2 ho
  refine Eq.mpr (yIn κ a K) ?_
  simp only [out8, Out.run, brn_iff, invR_eq] at ho
  refine ⟨a, rfl, h2, ?_⟩
  rw [brn_iff]
  refine ⟨fun e1 => ?_, fun e1 => ho.2 e1⟩
  rw [brn_iff]
  refine ⟨fun e2 => ?_, fun e2 => (ho.1 e1).2 e2⟩
  have ho1 := (ho.1 e1).1 e2
  refine ⟨rfl, ⟨a, 0⟩, by simp only [stIl, ints_len], ⟨e1, e2, h2, by simp only; omega, by simp only; omega⟩, ?_⟩
  simp only [Int.toNat_zero, List.drop_zero]
  rw [brn_iff]
  exact ⟨fun e => by rw [e] at ho1; exact ho1, fun e => by rw [e] at ho1; exact ho1⟩
noncomputable def EIn (κ : Kp) : Env := (EIl κ).addCall 10 (callE st17 side42 out8)
theorem eIn (κ : Kp) : EnvOK (EIn κ) := (eIl κ).addCall (mIl κ) (cIn κ)
theorem mIn (κ : Kp) : EnvMono (EIn κ) := (mIl κ).addCall callE_mono
end Go.Proofs.YtpgahkbkfflkaaaGreatDoor
namespace Go.Proofs.YtpgahkbkfflkaaaGreatDoor
open Go Go.Dn Go.Rl Go.Proofs
attribute [local irreducible] funA vc
set_option maxRecDepth 20000
end Go.Proofs.YtpgahkbkfflkaaaGreatDoor
namespace Go.Proofs.YtpgahkbkfflkaaaGreatDoor
open Go Go.Dn Go.Rl Go.Proofs
attribute [local irreducible] funA vc
set_option maxRecDepth 20000
def okB (a : A45 × Int) : Prop := rightR (rOf a.1) = true ∧ safeR (rOf a.1) = true ∧ (decide (a.2 < 0) || decide (a.1.bl.length < a.2)) = false
def sideBg (a : A45 × Int) : Prop := side42 a.1 ∧ okB a
def outBg (a : A45 × Int) : Out (AV × List Dn.Obj) := .one (.tup [.lst 9 (strs (boundV (rOf a.1) a.2.toNat)), .int 0], [])
def outBf (a : A45 × Int) : Out (AV × List Dn.Obj) := .one (.tup [.slc 0 0 (strs (boundV (rOf a.1) a.2.toNat)).length, .int 0], [.row 9 (strs (boundV (rOf a.1) a.2.toNat))])
def sideBx (a : A45 × Int) : Prop := side42 a.1 ∧ ¬ okB a
def errB (a : A45 × Int) : Int := bif rightR (rOf a.1) then bif safeR (rOf a.1) then 2 else 60 else 30
def outBx (a : A45 × Int) : Out (AV × List Dn.Obj) := .one (.tup [.nil, .int (errB a)], [])
def okO (a : A45 × Int) : Prop := rightR (rOf a.1) = true ∧ (decide (a.2 < 0) || decide ((a.1.bl.length : Int) ≤ a.2)) = false ∧ decide ((nthLt (rOf a.1).body a.2.toNat).op < 7) = false
def sideOg (a : A45 × Int) : Prop := side42 a.1 ∧ okO a
def outOg (a : A45 × Int) : Out (AV × List Dn.Obj) := .one (.tup [.lst 9 (strs (outerV (rOf a.1) a.2.toNat)), .int 0], [])
def sideOx (a : A45 × Int) : Prop := side42 a.1 ∧ ¬ okO a
def errO (a : A45 × Int) : Int := bif rightR (rOf a.1) then 2 else 30
def outOx (a : A45 × Int) : Out (AV × List Dn.Obj) := .one (.tup [.nil, .int (errO a)], [])
theorem narrow_bg {a : A45 × Int} {K : AV × List Dn.Obj → Prop} (h : sideBg a) (hk : (outBg a).run K) : side10 a ∧ (out10 a).run K := by
  obtain ⟨h1, h2, h3, h4⟩ := h
  simp only [out10, outBg, Out.run, brn_iff, h2, h3, h4] at hk ⊢
  exact ⟨h1, fun _ => ⟨fun _ => ⟨fun e => (nomatch e), fun _ => hk⟩, fun e => nomatch e⟩, fun e => nomatch e⟩
theorem narrow_bf {a : A45 × Int} {K : AV × List Dn.Obj → Prop} (h : sideBg a) (hk : (outBf a).run K) : side10 a ∧ (outBd a).run K := by
  obtain ⟨h1, h2, h3, h4⟩ := h
  simp only [outBd, outBf, Out.run, brn_iff, h2, h3, h4] at hk ⊢
  exact ⟨h1, fun _ => ⟨fun _ => ⟨fun e => (nomatch e), fun _ => hk⟩, fun e => nomatch e⟩, fun e => nomatch e⟩
theorem narrow_bx {a : A45 × Int} {K : AV × List Dn.Obj → Prop} (h : sideBx a) (hk : (outBx a).run K) : side10 a ∧ (out10 a).run K ∧ (outBd a).run K := by
  obtain ⟨h1, h2⟩ := h
  simp only [out10, outBd, outBx, errB, Out.run, brn_iff] at hk ⊢
  unfold okB at h2
  revert h2 hk
  cases rightR (rOf a.1) <;> cases safeR (rOf a.1) <;> cases (decide (a.2 < 0) || decide ((a.1.bl.length : Int) < a.2)) <;> intro h2 hk <;> first | exact absurd ⟨rfl, rfl, rfl⟩ h2 | exact ⟨h1, by simpa using hk, by simpa using hk⟩
theorem narrow_og {a : A45 × Int} {K : AV × List Dn.Obj → Prop} (h : sideOg a) (hk : (outOg a).run K) : sideOr a ∧ (outOr a).run K := by
  obtain ⟨h1, h2, h3, h4⟩ := h
  simp only [outOr, outOg, Out.run, brn_iff, h2, h3, h4] at hk ⊢
  exact ⟨h1, fun _ => ⟨fun e => (nomatch e), fun _ => ⟨fun e => (nomatch e), fun _ => hk⟩⟩, fun e => nomatch e⟩
theorem narrow_ox {a : A45 × Int} {K : AV × List Dn.Obj → Prop} (h : sideOx a) (hk : (outOx a).run K) : sideOr a ∧ (outOr a).run K := by
  obtain ⟨h1, h2⟩ := h
  simp only [outOr, outOx, errO, Out.run, brn_iff] at hk ⊢
  unfold okO at h2
  revert h2 hk
  cases rightR (rOf a.1) <;> cases (decide (a.2 < 0) || decide ((a.1.bl.length : Int) ≤ a.2)) <;> cases decide ((nthLt (rOf a.1).body a.2.toNat).op < 7) <;> intro h2 hk <;> first | exact absurd ⟨rfl, rfl, rfl⟩ h2 | exact ⟨h1, by simpa using hk⟩
theorem tB1 (κ : Kp) : ∀ args st K, callE st10 sideBg outBg args st K → SimCall (Pr κ) 12 args st K := fun args st K ⟨a, h1, h2, h3⟩ => (eIn κ).call _ args st K (show (EIn κ).call 12 args st K from ⟨a, h1, narrow_bg h2 h3⟩)
theorem tB2 (κ : Kp) : ∀ args st K, callE st10 sideBg outBf args st K → SimCall (Pr κ) 13 args st K := fun args st K ⟨a, h1, h2, h3⟩ => (eIn κ).call _ args st K (show (EIn κ).call 13 args st K from ⟨a, h1, narrow_bf h2 h3⟩)
theorem tB3 (κ : Kp) : ∀ args st K, callE st10 sideBx outBx args st K → SimCall (Pr κ) 12 args st K := fun args st K ⟨a, h1, h2, h3⟩ => (eIn κ).call _ args st K (show (EIn κ).call 12 args st K from ⟨a, h1, (narrow_bx h2 h3).1, (narrow_bx h2 h3).2.1⟩)
theorem tB4 (κ : Kp) : ∀ args st K, callE st10 sideBx outBx args st K → SimCall (Pr κ) 13 args st K := fun args st K ⟨a, h1, h2, h3⟩ => (eIn κ).call _ args st K (show (EIn κ).call 13 args st K from ⟨a, h1, (narrow_bx h2 h3).1, (narrow_bx h2 h3).2.2⟩)
theorem tO1 (κ : Kp) : ∀ args st K, callE stWkc sideOg outOg args st K → SimCall (Pr κ) 14 args st K := fun args st K ⟨a, h1, h2, h3⟩ => (eIn κ).call _ args st K (show (EIn κ).call 14 args st K from ⟨a, h1, narrow_og h2 h3⟩)
theorem tO2 (κ : Kp) : ∀ args st K, callE stWkc sideOg outOg args st K → SimCall (Pr κ) 15 args st K := fun args st K ⟨a, h1, h2, h3⟩ => (eIn κ).call _ args st K (show (EIn κ).call 15 args st K from ⟨a, h1, narrow_og h2 h3⟩)
theorem tO3 (κ : Kp) : ∀ args st K, callE stWkc sideOx outOx args st K → SimCall (Pr κ) 14 args st K := fun args st K ⟨a, h1, h2, h3⟩ => (eIn κ).call _ args st K (show (EIn κ).call 14 args st K from ⟨a, h1, narrow_ox h2 h3⟩)
theorem tO4 (κ : Kp) : ∀ args st K, callE stWkc sideOx outOx args st K → SimCall (Pr κ) 15 args st K := fun args st K ⟨a, h1, h2, h3⟩ => (eIn κ).call _ args st K (show (EIn κ).call 15 args st K from ⟨a, h1, narrow_ox h2 h3⟩)
noncomputable def EBg (κ : Kp) : Env := ((EIn κ).addCall 12 (callE st10 sideBg outBg)).addCall 13 (callE st10 sideBg outBf)
theorem eBg (κ : Kp) : EnvOK (EBg κ) := ((eIn κ).addSim (tB1 κ)).addSim (tB2 κ)
theorem mBg (κ : Kp) : EnvMono (EBg κ) := ((mIn κ).addCall callE_mono).addCall callE_mono
noncomputable def EBx (κ : Kp) : Env := ((EIn κ).addCall 12 (callE st10 sideBx outBx)).addCall 13 (callE st10 sideBx outBx)
theorem eBx (κ : Kp) : EnvOK (EBx κ) := ((eIn κ).addSim (tB3 κ)).addSim (tB4 κ)
theorem mBx (κ : Kp) : EnvMono (EBx κ) := ((mIn κ).addCall callE_mono).addCall callE_mono
noncomputable def EGG (κ : Kp) : Env := ((EBg κ).addCall 14 (callE stWkc sideOg outOg)).addCall 15 (callE stWkc sideOg outOg)
theorem eGG (κ : Kp) : EnvOK (EGG κ) := ((eBg κ).addSim (tO1 κ)).addSim (tO2 κ)
theorem mGG (κ : Kp) : EnvMono (EGG κ) := ((mBg κ).addCall callE_mono).addCall callE_mono
noncomputable def EGX (κ : Kp) : Env := ((EBg κ).addCall 14 (callE stWkc sideOx outOx)).addCall 15 (callE stWkc sideOx outOx)
theorem eGX (κ : Kp) : EnvOK (EGX κ) := ((eBg κ).addSim (tO3 κ)).addSim (tO4 κ)
theorem mGX (κ : Kp) : EnvMono (EGX κ) := ((mBg κ).addCall callE_mono).addCall callE_mono
noncomputable def EXG (κ : Kp) : Env := ((EBx κ).addCall 14 (callE stWkc sideOg outOg)).addCall 15 (callE stWkc sideOg outOg)
theorem eXG (κ : Kp) : EnvOK (EXG κ) := ((eBx κ).addSim (tO1 κ)).addSim (tO2 κ)
theorem mXG (κ : Kp) : EnvMono (EXG κ) := ((mBx κ).addCall callE_mono).addCall callE_mono
noncomputable def EXX (κ : Kp) : Env := ((EBx κ).addCall 14 (callE stWkc sideOx outOx)).addCall 15 (callE stWkc sideOx outOx)
theorem eXX (κ : Kp) : EnvOK (EXX κ) := ((eBx κ).addSim (tO3 κ)).addSim (tO4 κ)
theorem mXX (κ : Kp) : EnvMono (EXX κ) := ((mBx κ).addCall callE_mono).addCall callE_mono
theorem zGG (κ : Kp) (a : A45) (k : Int) (K : AV → List Dn.Obj → Prop) : (funA (EGG κ) 12 4 [rl45 a, .int k] [] K) = (
  brn (!smallR { head := { rel := A45.rel a, l := tmsOf (A45.hl a) }, body := ltsOf (A45.bl a) }) (K (AV.bool true) []) (∃ (a_1 : A45 × Int), ([AV.agg [AV.agg
  [AV.str (A45.rel a), AV.lst 43 (A45.hl a)], AV.lst 46 (A45.bl a), AV.int (A45.line a)], AV.int k], nilO) = ([AV.agg [AV.agg [AV.str (A45.rel (Prod.fst a_1)),
  AV.lst 43 (A45.hl (Prod.fst a_1))], AV.lst 46 (A45.bl (Prod.fst a_1)), AV.int (A45.line (Prod.fst a_1))], AV.int (Prod.snd a_1)], nilO) ∧ ((cntL (tmsOf (ruleTs
  43 (A45.hl (Prod.fst a_1)) (A45.bl (Prod.fst a_1)))) ≤ 100000 ∧ List.length (A45.bl (Prod.fst a_1)) ≤ 100000) ∧ rightR (rOf (Prod.fst a_1)) = true ∧ safeR (rOf
  (Prod.fst a_1)) = true ∧ (decide (Prod.snd a_1 < (0 : Int)) || decide ((↑(List.length (A45.bl (Prod.fst a_1))) : Int) < Prod.snd a_1)) = false) ∧ ∃ (a_2 : A45
  × Int), ([AV.agg [AV.agg [AV.str (A45.rel a), AV.lst 43 (A45.hl a)], AV.lst 46 (A45.bl a), AV.int (A45.line a)], AV.int k], nilO) = ([AV.agg [AV.agg [AV.str
  (A45.rel (Prod.fst a_2)), AV.lst 43 (A45.hl (Prod.fst a_2))], AV.lst 46 (A45.bl (Prod.fst a_2)), AV.int (A45.line (Prod.fst a_2))], AV.int (Prod.snd a_2)],
  nilO) ∧ ((cntL (tmsOf (ruleTs 43 (A45.hl (Prod.fst a_2)) (A45.bl (Prod.fst a_2)))) ≤ 100000 ∧ List.length (A45.bl (Prod.fst a_2)) ≤ 100000) ∧ rightR (rOf
  (Prod.fst a_2)) = true ∧ safeR (rOf (Prod.fst a_2)) = true ∧ (decide (Prod.snd a_2 < (0 : Int)) || decide ((↑(List.length (A45.bl (Prod.fst a_2))) : Int) <
  Prod.snd a_2)) = false) ∧ ∃ (a_3 : AP), ([AV.agg [AV.agg [AV.str (A45.rel a), AV.lst 43 (A45.hl a)], AV.lst 46 (A45.bl a), AV.int (A45.line a)], AV.int k],
  nilO) = ([AV.agg [AV.agg [AV.str (A45.rel (Prod.fst a_3)), AV.lst 43 (A45.hl (Prod.fst a_3))], AV.lst 46 (A45.bl (Prod.fst a_3)), AV.int (A45.line (Prod.fst
  a_3))], AV.int (Prod.snd a_3)], nilO) ∧ ((cntL (tmsOf (ruleTs 43 (A45.hl (Prod.fst a_3)) (A45.bl (Prod.fst a_3)))) ≤ 100000 ∧ List.length (A45.bl (Prod.fst
  a_3)) ≤ 100000) ∧ rightR (rOf (Prod.fst a_3)) = true ∧ (decide (Prod.snd a_3 < (0 : Int)) || decide ((↑(List.length (A45.bl (Prod.fst a_3))) : Int) ≤ Prod.snd
  a_3)) = false ∧ decide (Lt.op (nthLt (Rl.body (rOf (Prod.fst a_3))) (Int.toNat (Prod.snd a_3))) < (7 : Int)) = false) ∧ ∃ (a_4 : AP), ([AV.agg [AV.agg [AV.str
  (A45.rel a), AV.lst 43 (A45.hl a)], AV.lst 46 (A45.bl a), AV.int (A45.line a)], AV.int k], nilO) = ([AV.agg [AV.agg [AV.str (A45.rel (Prod.fst a_4)), AV.lst 43
  (A45.hl (Prod.fst a_4))], AV.lst 46 (A45.bl (Prod.fst a_4)), AV.int (A45.line (Prod.fst a_4))], AV.int (Prod.snd a_4)], nilO) ∧ ((cntL (tmsOf (ruleTs 43
  (A45.hl (Prod.fst a_4)) (A45.bl (Prod.fst a_4)))) ≤ 100000 ∧ List.length (A45.bl (Prod.fst a_4)) ≤ 100000) ∧ rightR (rOf (Prod.fst a_4)) = true ∧ (decide
  (Prod.snd a_4 < (0 : Int)) || decide ((↑(List.length (A45.bl (Prod.fst a_4))) : Int) ≤ Prod.snd a_4)) = false ∧ decide (Lt.op (nthLt (Rl.body (rOf (Prod.fst
  a_4))) (Int.toNat (Prod.snd a_4))) < (7 : Int)) = false) ∧ cnd (decide (List.length (strs (boundV (rOf (Prod.fst a_1)) (Int.toNat (Prod.snd a_1)))) ≤
  9223372036854775807)) (brn (sameT (strs (boundV (rOf (Prod.fst a_1)) (Int.toNat (Prod.snd a_1)))) (List.take (List.length (strs (boundV (rOf (Prod.fst a_2))
  (Int.toNat (Prod.snd a_2))))) (List.drop 0 (strs (boundV (rOf (Prod.fst a_2)) (Int.toNat (Prod.snd a_2))))))) (cnd (decide (List.length (strs (outerV (rOf
  (Prod.fst a_3)) (Int.toNat (Prod.snd a_3)))) ≤ 9223372036854775807)) (brn (sameT (strs (outerV (rOf (Prod.fst a_3)) (Int.toNat (Prod.snd a_3)))) (strs (outerV
  (rOf (Prod.fst a_4)) (Int.toNat (Prod.snd a_4))))) (K (AV.bool true) []) (K (AV.bool false) []))) (K (AV.bool false) [])))) := by kernel_rfl
theorem zGX (κ : Kp) (a : A45) (k : Int) (K : AV → List Dn.Obj → Prop) : (funA (EGX κ) 12 4 [rl45 a, .int k] [] K) = (
  brn (!smallR { head := { rel := A45.rel a, l := tmsOf (A45.hl a) }, body := ltsOf (A45.bl a) }) (K (AV.bool true) []) (∃ (a_1 : A45 × Int), ([AV.agg [AV.agg
  [AV.str (A45.rel a), AV.lst 43 (A45.hl a)], AV.lst 46 (A45.bl a), AV.int (A45.line a)], AV.int k], nilO) = ([AV.agg [AV.agg [AV.str (A45.rel (Prod.fst a_1)),
  AV.lst 43 (A45.hl (Prod.fst a_1))], AV.lst 46 (A45.bl (Prod.fst a_1)), AV.int (A45.line (Prod.fst a_1))], AV.int (Prod.snd a_1)], nilO) ∧ ((cntL (tmsOf (ruleTs
  43 (A45.hl (Prod.fst a_1)) (A45.bl (Prod.fst a_1)))) ≤ 100000 ∧ List.length (A45.bl (Prod.fst a_1)) ≤ 100000) ∧ rightR (rOf (Prod.fst a_1)) = true ∧ safeR (rOf
  (Prod.fst a_1)) = true ∧ (decide (Prod.snd a_1 < (0 : Int)) || decide ((↑(List.length (A45.bl (Prod.fst a_1))) : Int) < Prod.snd a_1)) = false) ∧ ∃ (a_2 : A45
  × Int), ([AV.agg [AV.agg [AV.str (A45.rel a), AV.lst 43 (A45.hl a)], AV.lst 46 (A45.bl a), AV.int (A45.line a)], AV.int k], nilO) = ([AV.agg [AV.agg [AV.str
  (A45.rel (Prod.fst a_2)), AV.lst 43 (A45.hl (Prod.fst a_2))], AV.lst 46 (A45.bl (Prod.fst a_2)), AV.int (A45.line (Prod.fst a_2))], AV.int (Prod.snd a_2)],
  nilO) ∧ ((cntL (tmsOf (ruleTs 43 (A45.hl (Prod.fst a_2)) (A45.bl (Prod.fst a_2)))) ≤ 100000 ∧ List.length (A45.bl (Prod.fst a_2)) ≤ 100000) ∧ rightR (rOf
  (Prod.fst a_2)) = true ∧ safeR (rOf (Prod.fst a_2)) = true ∧ (decide (Prod.snd a_2 < (0 : Int)) || decide ((↑(List.length (A45.bl (Prod.fst a_2))) : Int) <
  Prod.snd a_2)) = false) ∧ ∃ (a_3 : AP), ([AV.agg [AV.agg [AV.str (A45.rel a), AV.lst 43 (A45.hl a)], AV.lst 46 (A45.bl a), AV.int (A45.line a)], AV.int k],
  nilO) = ([AV.agg [AV.agg [AV.str (A45.rel (Prod.fst a_3)), AV.lst 43 (A45.hl (Prod.fst a_3))], AV.lst 46 (A45.bl (Prod.fst a_3)), AV.int (A45.line (Prod.fst
  a_3))], AV.int (Prod.snd a_3)], nilO) ∧ ((cntL (tmsOf (ruleTs 43 (A45.hl (Prod.fst a_3)) (A45.bl (Prod.fst a_3)))) ≤ 100000 ∧ List.length (A45.bl (Prod.fst
  a_3)) ≤ 100000) ∧ (rightR (rOf (Prod.fst a_3)) = true ∧ (decide (Prod.snd a_3 < (0 : Int)) || decide ((↑(List.length (A45.bl (Prod.fst a_3))) : Int) ≤ Prod.snd
  a_3)) = false ∧ decide (Lt.op (nthLt (Rl.body (rOf (Prod.fst a_3))) (Int.toNat (Prod.snd a_3))) < (7 : Int)) = false → False)) ∧ ∃ (a_4 : AP), ([AV.agg [AV.agg
  [AV.str (A45.rel a), AV.lst 43 (A45.hl a)], AV.lst 46 (A45.bl a), AV.int (A45.line a)], AV.int k], nilO) = ([AV.agg [AV.agg [AV.str (A45.rel (Prod.fst a_4)),
  AV.lst 43 (A45.hl (Prod.fst a_4))], AV.lst 46 (A45.bl (Prod.fst a_4)), AV.int (A45.line (Prod.fst a_4))], AV.int (Prod.snd a_4)], nilO) ∧ ((cntL (tmsOf (ruleTs
  43 (A45.hl (Prod.fst a_4)) (A45.bl (Prod.fst a_4)))) ≤ 100000 ∧ List.length (A45.bl (Prod.fst a_4)) ≤ 100000) ∧ (rightR (rOf (Prod.fst a_4)) = true ∧ (decide
  (Prod.snd a_4 < (0 : Int)) || decide ((↑(List.length (A45.bl (Prod.fst a_4))) : Int) ≤ Prod.snd a_4)) = false ∧ decide (Lt.op (nthLt (Rl.body (rOf (Prod.fst
  a_4))) (Int.toNat (Prod.snd a_4))) < (7 : Int)) = false → False)) ∧ cnd (decide (List.length (strs (boundV (rOf (Prod.fst a_1)) (Int.toNat (Prod.snd a_1)))) ≤
  9223372036854775807)) (brn (sameT (strs (boundV (rOf (Prod.fst a_1)) (Int.toNat (Prod.snd a_1)))) (List.take (List.length (strs (boundV (rOf (Prod.fst a_2))
  (Int.toNat (Prod.snd a_2))))) (List.drop 0 (strs (boundV (rOf (Prod.fst a_2)) (Int.toNat (Prod.snd a_2))))))) (K (AV.bool (errO a_3 == errO a_4)) []) (K
  (AV.bool false) [])))) := by kernel_rfl
theorem zXG (κ : Kp) (a : A45) (k : Int) (K : AV → List Dn.Obj → Prop) : (funA (EXG κ) 12 4 [rl45 a, .int k] [] K) = (
  brn (!smallR { head := { rel := A45.rel a, l := tmsOf (A45.hl a) }, body := ltsOf (A45.bl a) }) (K (AV.bool true) []) (∃ (a_1 : A45 × Int), ([AV.agg [AV.agg
  [AV.str (A45.rel a), AV.lst 43 (A45.hl a)], AV.lst 46 (A45.bl a), AV.int (A45.line a)], AV.int k], nilO) = ([AV.agg [AV.agg [AV.str (A45.rel (Prod.fst a_1)),
  AV.lst 43 (A45.hl (Prod.fst a_1))], AV.lst 46 (A45.bl (Prod.fst a_1)), AV.int (A45.line (Prod.fst a_1))], AV.int (Prod.snd a_1)], nilO) ∧ ((cntL (tmsOf (ruleTs
  43 (A45.hl (Prod.fst a_1)) (A45.bl (Prod.fst a_1)))) ≤ 100000 ∧ List.length (A45.bl (Prod.fst a_1)) ≤ 100000) ∧ (rightR (rOf (Prod.fst a_1)) = true ∧ safeR
  (rOf (Prod.fst a_1)) = true ∧ (decide (Prod.snd a_1 < (0 : Int)) || decide ((↑(List.length (A45.bl (Prod.fst a_1))) : Int) < Prod.snd a_1)) = false → False)) ∧
  ∃ (a_2 : A45 × Int), ([AV.agg [AV.agg [AV.str (A45.rel a), AV.lst 43 (A45.hl a)], AV.lst 46 (A45.bl a), AV.int (A45.line a)], AV.int k], nilO) = ([AV.agg
  [AV.agg [AV.str (A45.rel (Prod.fst a_2)), AV.lst 43 (A45.hl (Prod.fst a_2))], AV.lst 46 (A45.bl (Prod.fst a_2)), AV.int (A45.line (Prod.fst a_2))], AV.int
  (Prod.snd a_2)], nilO) ∧ ((cntL (tmsOf (ruleTs 43 (A45.hl (Prod.fst a_2)) (A45.bl (Prod.fst a_2)))) ≤ 100000 ∧ List.length (A45.bl (Prod.fst a_2)) ≤ 100000) ∧
  (rightR (rOf (Prod.fst a_2)) = true ∧ safeR (rOf (Prod.fst a_2)) = true ∧ (decide (Prod.snd a_2 < (0 : Int)) || decide ((↑(List.length (A45.bl (Prod.fst a_2)))
  : Int) < Prod.snd a_2)) = false → False)) ∧ ∃ (a_3 : AP), ([AV.agg [AV.agg [AV.str (A45.rel a), AV.lst 43 (A45.hl a)], AV.lst 46 (A45.bl a), AV.int (A45.line
  a)], AV.int k], nilO) = ([AV.agg [AV.agg [AV.str (A45.rel (Prod.fst a_3)), AV.lst 43 (A45.hl (Prod.fst a_3))], AV.lst 46 (A45.bl (Prod.fst a_3)), AV.int
  (A45.line (Prod.fst a_3))], AV.int (Prod.snd a_3)], nilO) ∧ ((cntL (tmsOf (ruleTs 43 (A45.hl (Prod.fst a_3)) (A45.bl (Prod.fst a_3)))) ≤ 100000 ∧ List.length
  (A45.bl (Prod.fst a_3)) ≤ 100000) ∧ rightR (rOf (Prod.fst a_3)) = true ∧ (decide (Prod.snd a_3 < (0 : Int)) || decide ((↑(List.length (A45.bl (Prod.fst a_3)))
  : Int) ≤ Prod.snd a_3)) = false ∧ decide (Lt.op (nthLt (Rl.body (rOf (Prod.fst a_3))) (Int.toNat (Prod.snd a_3))) < (7 : Int)) = false) ∧ ∃ (a_4 : AP),
  ([AV.agg [AV.agg [AV.str (A45.rel a), AV.lst 43 (A45.hl a)], AV.lst 46 (A45.bl a), AV.int (A45.line a)], AV.int k], nilO) = ([AV.agg [AV.agg [AV.str (A45.rel
  (Prod.fst a_4)), AV.lst 43 (A45.hl (Prod.fst a_4))], AV.lst 46 (A45.bl (Prod.fst a_4)), AV.int (A45.line (Prod.fst a_4))], AV.int (Prod.snd a_4)], nilO) ∧
  ((cntL (tmsOf (ruleTs 43 (A45.hl (Prod.fst a_4)) (A45.bl (Prod.fst a_4)))) ≤ 100000 ∧ List.length (A45.bl (Prod.fst a_4)) ≤ 100000) ∧ rightR (rOf (Prod.fst
  a_4)) = true ∧ (decide (Prod.snd a_4 < (0 : Int)) || decide ((↑(List.length (A45.bl (Prod.fst a_4))) : Int) ≤ Prod.snd a_4)) = false ∧ decide (Lt.op (nthLt
  (Rl.body (rOf (Prod.fst a_4))) (Int.toNat (Prod.snd a_4))) < (7 : Int)) = false) ∧ brn (errB a_1 == errB a_2) (cnd (decide (List.length (strs (outerV (rOf
  (Prod.fst a_3)) (Int.toNat (Prod.snd a_3)))) ≤ 9223372036854775807)) (brn (sameT (strs (outerV (rOf (Prod.fst a_3)) (Int.toNat (Prod.snd a_3)))) (strs (outerV
  (rOf (Prod.fst a_4)) (Int.toNat (Prod.snd a_4))))) (K (AV.bool true) []) (K (AV.bool false) []))) (K (AV.bool false) []))) := by kernel_rfl
theorem zXX (κ : Kp) (a : A45) (k : Int) (K : AV → List Dn.Obj → Prop) : (funA (EXX κ) 12 4 [rl45 a, .int k] [] K) = (
  brn (!smallR { head := { rel := A45.rel a, l := tmsOf (A45.hl a) }, body := ltsOf (A45.bl a) }) (K (AV.bool true) []) (∃ (a_1 : A45 × Int), ([AV.agg [AV.agg
  [AV.str (A45.rel a), AV.lst 43 (A45.hl a)], AV.lst 46 (A45.bl a), AV.int (A45.line a)], AV.int k], nilO) = ([AV.agg [AV.agg [AV.str (A45.rel (Prod.fst a_1)),
  AV.lst 43 (A45.hl (Prod.fst a_1))], AV.lst 46 (A45.bl (Prod.fst a_1)), AV.int (A45.line (Prod.fst a_1))], AV.int (Prod.snd a_1)], nilO) ∧ ((cntL (tmsOf (ruleTs
  43 (A45.hl (Prod.fst a_1)) (A45.bl (Prod.fst a_1)))) ≤ 100000 ∧ List.length (A45.bl (Prod.fst a_1)) ≤ 100000) ∧ (rightR (rOf (Prod.fst a_1)) = true ∧ safeR
  (rOf (Prod.fst a_1)) = true ∧ (decide (Prod.snd a_1 < (0 : Int)) || decide ((↑(List.length (A45.bl (Prod.fst a_1))) : Int) < Prod.snd a_1)) = false → False)) ∧
  ∃ (a_2 : A45 × Int), ([AV.agg [AV.agg [AV.str (A45.rel a), AV.lst 43 (A45.hl a)], AV.lst 46 (A45.bl a), AV.int (A45.line a)], AV.int k], nilO) = ([AV.agg
  [AV.agg [AV.str (A45.rel (Prod.fst a_2)), AV.lst 43 (A45.hl (Prod.fst a_2))], AV.lst 46 (A45.bl (Prod.fst a_2)), AV.int (A45.line (Prod.fst a_2))], AV.int
  (Prod.snd a_2)], nilO) ∧ ((cntL (tmsOf (ruleTs 43 (A45.hl (Prod.fst a_2)) (A45.bl (Prod.fst a_2)))) ≤ 100000 ∧ List.length (A45.bl (Prod.fst a_2)) ≤ 100000) ∧
  (rightR (rOf (Prod.fst a_2)) = true ∧ safeR (rOf (Prod.fst a_2)) = true ∧ (decide (Prod.snd a_2 < (0 : Int)) || decide ((↑(List.length (A45.bl (Prod.fst a_2)))
  : Int) < Prod.snd a_2)) = false → False)) ∧ ∃ (a_3 : AP), ([AV.agg [AV.agg [AV.str (A45.rel a), AV.lst 43 (A45.hl a)], AV.lst 46 (A45.bl a), AV.int (A45.line
  a)], AV.int k], nilO) = ([AV.agg [AV.agg [AV.str (A45.rel (Prod.fst a_3)), AV.lst 43 (A45.hl (Prod.fst a_3))], AV.lst 46 (A45.bl (Prod.fst a_3)), AV.int
  (A45.line (Prod.fst a_3))], AV.int (Prod.snd a_3)], nilO) ∧ ((cntL (tmsOf (ruleTs 43 (A45.hl (Prod.fst a_3)) (A45.bl (Prod.fst a_3)))) ≤ 100000 ∧ List.length
  (A45.bl (Prod.fst a_3)) ≤ 100000) ∧ (rightR (rOf (Prod.fst a_3)) = true ∧ (decide (Prod.snd a_3 < (0 : Int)) || decide ((↑(List.length (A45.bl (Prod.fst a_3)))
  : Int) ≤ Prod.snd a_3)) = false ∧ decide (Lt.op (nthLt (Rl.body (rOf (Prod.fst a_3))) (Int.toNat (Prod.snd a_3))) < (7 : Int)) = false → False)) ∧ ∃ (a_4 :
  AP), ([AV.agg [AV.agg [AV.str (A45.rel a), AV.lst 43 (A45.hl a)], AV.lst 46 (A45.bl a), AV.int (A45.line a)], AV.int k], nilO) = ([AV.agg [AV.agg [AV.str
  (A45.rel (Prod.fst a_4)), AV.lst 43 (A45.hl (Prod.fst a_4))], AV.lst 46 (A45.bl (Prod.fst a_4)), AV.int (A45.line (Prod.fst a_4))], AV.int (Prod.snd a_4)],
  nilO) ∧ ((cntL (tmsOf (ruleTs 43 (A45.hl (Prod.fst a_4)) (A45.bl (Prod.fst a_4)))) ≤ 100000 ∧ List.length (A45.bl (Prod.fst a_4)) ≤ 100000) ∧ (rightR (rOf
  (Prod.fst a_4)) = true ∧ (decide (Prod.snd a_4 < (0 : Int)) || decide ((↑(List.length (A45.bl (Prod.fst a_4))) : Int) ≤ Prod.snd a_4)) = false ∧ decide (Lt.op
  (nthLt (Rl.body (rOf (Prod.fst a_4))) (Int.toNat (Prod.snd a_4))) < (7 : Int)) = false → False)) ∧ brn (errB a_1 == errB a_2) (K (AV.bool (errO a_3 == errO
  a_4)) []) (K (AV.bool false) []))) := by kernel_rfl
theorem sameT_refl (l : List AV) : sameT l l = true := by unfold sameT; exact decide_eq_true rfl
theorem take_strs0 (l : List ByteArray) : List.take (strs l).length (List.drop 0 (strs l)) = strs l := by rw [List.drop_zero]; exact List.take_of_length_le (Nat.le_refl _)
theorem bound_len {a : A45} (h : side42 a) (k : Nat) : (boundV (rOf a) k).length ≤ 100000 := by
  have := varsF_le' h
  rw [varsF_eq] at this
  exact Nat.le_trans (List.length_filter_le _ _) this
theorem simL2 (κ : Kp) (a : A45) (k : Int) : SimCall (Pr κ) 4 [rl45 a, .int k] [] (fun r _ => r = .bool true) := by
  have hr : smallR ⟨⟨a.rel, tmsOf a.hl⟩, ltsOf a.bl⟩ = smallR (rOf a) := rfl
  have hb : side42 a → (strs (boundV (rOf a) k.toNat)).length ≤ 9223372036854775807 := fun h => by
    have := bound_len h k.toNat
    rw [strs_len]; omega
  have ho : side42 a → (strs (outerV (rOf a) k.toNat)).length ≤ 9223372036854775807 := fun h => by
    have := outer_len h k.toNat
    rw [strs_len]; omega
  by_cases hg : okB (a, k)
  · by_cases hq : okO (a, k)
    · refine fun_sound (eGG κ) (mGG κ) (N := 12) ?_
      refine Eq.mpr (zGG κ a k _) ?_
      rw [hr]
      cases hs : smallR (rOf a) with
      | false => rfl
      | true =>
        obtain ⟨h2, _⟩ := small_side hs
        refine ⟨(a, k), rfl, ⟨h2, hg⟩, (a, k), rfl, ⟨h2, hg⟩, (a, k), rfl, ⟨h2, hq⟩, (a, k), rfl, ⟨h2, hq⟩, ?_⟩
        simp only [take_strs0, sameT_refl, cnd_iff, decide_eq_true_eq]
        exact ⟨hb h2, ho h2, trivial⟩
    · refine fun_sound (eGX κ) (mGX κ) (N := 12) ?_
      refine Eq.mpr (zGX κ a k _) ?_
      rw [hr]
      cases hs : smallR (rOf a) with
      | false => rfl
      | true =>
        obtain ⟨h2, _⟩ := small_side hs
        refine ⟨(a, k), rfl, ⟨h2, hg⟩, (a, k), rfl, ⟨h2, hg⟩, (a, k), rfl, ⟨h2, hq⟩, (a, k), rfl, ⟨h2, hq⟩, ?_⟩
        simp only [take_strs0, sameT_refl, cnd_iff, decide_eq_true_eq, beq_self_eq_true]
        exact ⟨hb h2, trivial⟩
  · by_cases hq : okO (a, k)
    · refine fun_sound (eXG κ) (mXG κ) (N := 12) ?_
      refine Eq.mpr (zXG κ a k _) ?_
      rw [hr]
      cases hs : smallR (rOf a) with
      | false => rfl
      | true =>
        obtain ⟨h2, _⟩ := small_side hs
        refine ⟨(a, k), rfl, ⟨h2, hg⟩, (a, k), rfl, ⟨h2, hg⟩, (a, k), rfl, ⟨h2, hq⟩, (a, k), rfl, ⟨h2, hq⟩, ?_⟩
        simp only [sameT_refl, cnd_iff, decide_eq_true_eq, beq_self_eq_true]
        exact ⟨ho h2, trivial⟩
    · refine fun_sound (eXX κ) (mXX κ) (N := 12) ?_
      refine Eq.mpr (zXX κ a k _) ?_
      rw [hr]
      cases hs : smallR (rOf a) with
      | false => rfl
      | true =>
        obtain ⟨h2, _⟩ := small_side hs
        refine ⟨(a, k), rfl, ⟨h2, hg⟩, (a, k), rfl, ⟨h2, hg⟩, (a, k), rfl, ⟨h2, hq⟩, (a, k), rfl, ⟨h2, hq⟩, ?_⟩
        simp only [beq_self_eq_true]
        exact trivial
end Go.Proofs.YtpgahkbkfflkaaaGreatDoor
