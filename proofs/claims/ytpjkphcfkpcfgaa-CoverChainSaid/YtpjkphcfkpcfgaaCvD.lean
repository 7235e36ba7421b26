import Derived.Test.YtpjkphcfkpcfgaaCvC
/-
  SameInts, slices.Equal, sets of columns.
-/
namespace Go.Proofs.Ytpjkphcfkpcfgaa
open Go Go.Dn Go.Proofs

theorem ints_dropI (l : List AV) {i : Int} (h0 : 0 ≤ i) (h : i < l.length) : (ints l).drop i.toNat = toInt (nth l i.toNat) :: (ints l).drop (i + 1).toNat := by
  rw [ints_drop l i.toNat (by omega)]; congr 2; omega

theorem ints_dropE (l : List AV) {i : Int} (h0 : 0 ≤ i) (h : ¬ i < l.length) : (ints l).drop i.toNat = [] :=
  List.drop_eq_nil_of_le (by rw [ints_length]; omega)

/-! ### The same -/
def sameI (a b : List Int) : Bool := decide (a = b)

theorem sameI_cons (x y : Int) (a b : List Int) : sameI (x :: a) (y :: b) = (!(x != y) && sameI a b) := by
  simp only [sameI]
  by_cases h : x = y
  · subst h; simp
  · simp [h]

noncomputable def out34 : List AV × List AV × Int → Out (Exit × S)
  | (a, b, i) => .brn (sameI ((ints a).drop i.toNat) ((ints b).drop i.toNat)) (.one (.exit 0, sp 26 [] [])) (.one (.ret, sp 26 [(4, .bool false)] []))
abbrev st34 (p : List AV × List AV × Int) : S := sp 26 [(0, .lst 3 p.1), (1, .lst 3 p.2.1), (12, .int p.1.length), (13, .int p.2.2)] []
def un34 (s : S) : List AV × List AV × Int := (toLst (nth s.regs 0), toLst (nth s.regs 1), toInt (nth s.regs 13))
def side34 : List AV × List AV × Int → Prop
  | (a, b, i) => (a.length ≤ maxI ∧ a.length = b.length) ∧ 0 ≤ i ∧ i ≤ a.length

theorem x34 (a b : List AV) (i : Int) (I : Nat → S → Prop) (n : Nat) (K : Exit → S → Prop) : (vc F15 8 34 none 0 (loopCode Try.prog 34 4) (sp 26 [(0, .lst 3 a), (1, .lst 3 b), (12, .int a.length), (13, .int i)] []) (loopK F15 34 4 0 I n K)) = (
  brn (decide (i < (↑(List.length a) : Int)))
  (cnd (decide ((0 : Int) ≤ i) && decide (i < (↑(List.length a) : Int)))
    (cnd (decide ((0 : Int) ≤ i) && decide (i < (↑(List.length b) : Int)))
      (brn (toInt (nth a (Int.toNat i)) != toInt (nth b (Int.toNat i)))
        (K Exit.ret (sp (26 : Nat) [((4 : Nat), AV.lit (Value.bool false))] []))
        (∃ (m : Nat),
          m < n ∧
            I m
              (sp (26 : Nat)
                [((0 : Nat), AV.lst (3 : Nat) a), ((1 : Nat), AV.lst (3 : Nat) b),
                  ((12 : Nat), AV.lit (Value.int IntKind.i64 (↑(List.length a) : Int))),
                  ((13 : Nat), AV.lit (Value.int IntKind.i64 (IntKind.wrap IntKind.i64 (i + (1 : Int)))))]
                [])))))
  (K (Exit.exit (0 : Nat)) (sp (26 : Nat) [] []))) := by kernel_rfl


theorem l34 : LoopOk F15 8 34 4 (loopOf un34 st34 side34 out34) := by
  refine loopOf_ok (fun a => a.1.length - a.2.2.toNat) ?_
  rintro ⟨a, b, i⟩ K ⟨⟨h1, h0⟩, h2, h3⟩ ho
  refine Eq.mpr (x34 a b i _ _ K) ?_
  simp only [out34, Out.run, brn_iff, cnd_iff, decide_eq_true_eq, decide_eq_false_iff_not, Bool.and_eq_true] at ho ⊢
  refine ⟨fun hi => ⟨⟨h2, hi⟩, ⟨h2, by omega⟩, fun hx => ?_, fun hx => ?_⟩, fun hi => ?_⟩
  · refine ho.2 ?_
    rw [ints_dropI a h2 hi, ints_dropI b h2 (by omega), sameI_cons, hx]; rfl
  · rw [wrap_ok (by omega) (by simp only [maxI] at h1; omega)]
    refine ⟨_, ?_, (a, b, i + 1), rfl, ⟨⟨h1, h0⟩, by omega, by omega⟩, rfl, ?_⟩
    · simp only; omega
    · rw [ints_dropI a h2 hi, ints_dropI b h2 (by omega), sameI_cons, hx] at ho
      simp only [Bool.not_false, Bool.true_and] at ho
      simpa only [out34, Out.run, brn_iff] using ho
  · refine ho.1 ?_
    rw [ints_dropE a h2 hi, ints_dropE b h2 (by omega)]; rfl

noncomputable def E34 : Env := F15.addLoop 34 4 (loopOf un34 st34 side34 out34)
theorem e34 : EnvOK E34 := eF15.addLoop mF15 l34
theorem m34 : EnvMono E34 := mF15.addLoop loopOf_mono

theorem y34 (a b : List AV) (K : AV → List Dn.Obj → Prop) : (funA E34 3 34 [.lst 3 a, .lst 3 b] [] K) = (
  brn ((↑(List.length a) : Int) != (↑(List.length b) : Int)) (K (AV.lit (Value.bool false)) [])
  (loopCode (Env.P F15) (34 : Nat) (4 : Nat) = loopCode (Env.P F15) (34 : Nat) (4 : Nat) ∧
    (sp (26 : Nat)
            [((0 : Nat), AV.lst (3 : Nat) a), ((1 : Nat), AV.lst (3 : Nat) b),
              ((12 : Nat), AV.lit (Value.int IntKind.i64 (↑(List.length a) : Int))),
              ((13 : Nat), AV.lit (Value.int IntKind.i64 (0 : Int)))]
            [] =
          sp (26 : Nat)
            [((0 : Nat), AV.lst (3 : Nat) a), ((1 : Nat), AV.lst (3 : Nat) b),
              ((12 : Nat), AV.lit (Value.int IntKind.i64 (↑(List.length a) : Int))),
              ((13 : Nat), AV.lit (Value.int IntKind.i64 (0 : Int)))]
            [] ∧
        (List.length a ≤ (9223372036854775807 : Nat) ∧ List.length a = List.length b) ∧
          (0 : Int) ≤ (0 : Int) ∧ (0 : Int) ≤ (↑(List.length a) : Int)) ∧
      brn (sameI (List.drop (0 : Nat) (ints a)) (List.drop (0 : Nat) (ints b))) (K (AV.lit (Value.bool true)) [])
        (K (AV.lit (Value.bool false)) []))) := by kernel_rfl


def g34 : List AV → Option (Bool × AV)
  | [.lst 3 a, .lst 3 b] => some (decide (a.length ≤ maxI) && decide (b.length ≤ maxI), .bool (sameI (ints a) (ints b)))
  | _ => none

theorem sameI_len {a b : List AV} (h : ¬ a.length = b.length) : sameI (ints a) (ints b) = false := by
  simp only [sameI, decide_eq_false_iff_not]
  intro e
  have := congrArg List.length e
  rw [ints_length, ints_length] at this
  exact h this

theorem p34 : PureOk E34 3 34 g34 := by
  intro args x h
  unfold g34 at h
  split at h
  · simp only [Option.some.injEq, Prod.mk.injEq, decide_eq_true_eq, Bool.and_eq_true] at h
    obtain ⟨h1, rfl⟩ := h
    refine ⟨_, rfl, rfl, ?_⟩
    rw [y34]
    rw [brn_iff]
    refine ⟨fun e => ?_, fun e => ?_⟩
    · simp only [bne_iff_ne, ne_eq] at e
      rw [sameI_len (by omega)]
    · simp only [bne_eq_false_iff_eq] at e
      refine ⟨rfl, ⟨rfl, ⟨h1.1, by omega⟩, by omega, by omega⟩, ?_⟩
      rw [brn_iff]
      exact ⟨fun e => by rw [List.drop_zero, List.drop_zero] at e; rw [e], fun e => by rw [List.drop_zero, List.drop_zero] at e; rw [e]⟩
  · cases h

noncomputable def F34 : Env := E34.addPure 34 g34
theorem eF34 : EnvOK F34 := e34.addPure m34 p34
theorem mF34 : EnvMono F34 := m34.addPure

abbrev st36 (p : List AV × List AV × Int) : S := sp 26 [(0, .lst 3 p.1), (1, .lst 3 p.2.1), (5, .int p.2.2)] []
def un36 (s : S) : List AV × List AV × Int := (toLst (nth s.regs 0), toLst (nth s.regs 1), toInt (nth s.regs 5))

theorem x36 (a b : List AV) (i : Int) (I : Nat → S → Prop) (n : Nat) (K : Exit → S → Prop) : (vc F34 8 36 none 0 (loopCode Try.prog 36 4) (sp 26 [(0, .lst 3 a), (1, .lst 3 b), (5, .int i)] []) (loopK F34 36 4 0 I n K)) = (
  brn (decide (i < (↑(List.length a) : Int)))
  (cnd (decide ((0 : Int) ≤ i) && decide (i < (↑(List.length a) : Int)))
    (cnd (decide ((0 : Int) ≤ i) && decide (i < (↑(List.length b) : Int)))
      (brn (toInt (nth a (Int.toNat i)) != toInt (nth b (Int.toNat i)))
        (K Exit.ret (sp (26 : Nat) [((4 : Nat), AV.lit (Value.bool false))] []))
        (∃ (m : Nat),
          m < n ∧
            I m
              (sp (26 : Nat)
                [((0 : Nat), AV.lst (3 : Nat) a), ((1 : Nat), AV.lst (3 : Nat) b),
                  ((5 : Nat), AV.lit (Value.int IntKind.i64 (IntKind.wrap IntKind.i64 (i + (1 : Int)))))]
                [])))))
  (K (Exit.exit (0 : Nat)) (sp (26 : Nat) [] []))) := by kernel_rfl


theorem l36 : LoopOk F34 8 36 4 (loopOf un36 st36 side34 out34) := by
  refine loopOf_ok (fun a => a.1.length - a.2.2.toNat) ?_
  rintro ⟨a, b, i⟩ K ⟨⟨h1, h0⟩, h2, h3⟩ ho
  refine Eq.mpr (x36 a b i _ _ K) ?_
  simp only [out34, Out.run, brn_iff, cnd_iff, decide_eq_true_eq, decide_eq_false_iff_not, Bool.and_eq_true] at ho ⊢
  refine ⟨fun hi => ⟨⟨h2, hi⟩, ⟨h2, by omega⟩, fun hx => ?_, fun hx => ?_⟩, fun hi => ?_⟩
  · refine ho.2 ?_
    rw [ints_dropI a h2 hi, ints_dropI b h2 (by omega), sameI_cons, hx]; rfl
  · rw [wrap_ok (by omega) (by simp only [maxI] at h1; omega)]
    refine ⟨_, ?_, (a, b, i + 1), rfl, ⟨⟨h1, h0⟩, by omega, by omega⟩, rfl, ?_⟩
    · simp only; omega
    · rw [ints_dropI a h2 hi, ints_dropI b h2 (by omega), sameI_cons, hx] at ho
      simp only [Bool.not_false, Bool.true_and] at ho
      simpa only [out34, Out.run, brn_iff] using ho
  · refine ho.1 ?_
    rw [ints_dropE a h2 hi, ints_dropE b h2 (by omega)]; rfl

noncomputable def E36 : Env := F34.addLoop 36 4 (loopOf un36 st36 side34 out34)
theorem e36 : EnvOK E36 := eF34.addLoop mF34 l36
theorem m36 : EnvMono E36 := mF34.addLoop loopOf_mono

theorem y36 (a b : List AV) (K : AV → List Dn.Obj → Prop) : (funA E36 3 36 [.lst 3 a, .lst 3 b] [] K) = (
  brn ((↑(List.length a) : Int) != (↑(List.length b) : Int)) (K (AV.lit (Value.bool false)) [])
  (loopCode (Env.P F34) (36 : Nat) (4 : Nat) = loopCode (Env.P F34) (36 : Nat) (4 : Nat) ∧
    (sp (26 : Nat)
            [((0 : Nat), AV.lst (3 : Nat) a), ((1 : Nat), AV.lst (3 : Nat) b),
              ((5 : Nat), AV.lit (Value.int IntKind.i64 (0 : Int)))]
            [] =
          sp (26 : Nat)
            [((0 : Nat), AV.lst (3 : Nat) a), ((1 : Nat), AV.lst (3 : Nat) b),
              ((5 : Nat), AV.lit (Value.int IntKind.i64 (0 : Int)))]
            [] ∧
        (List.length a ≤ (9223372036854775807 : Nat) ∧ List.length a = List.length b) ∧
          (0 : Int) ≤ (0 : Int) ∧ (0 : Int) ≤ (↑(List.length a) : Int)) ∧
      brn (sameI (List.drop (0 : Nat) (ints a)) (List.drop (0 : Nat) (ints b))) (K (AV.lit (Value.bool true)) [])
        (K (AV.lit (Value.bool false)) []))) := by kernel_rfl


theorem p36 : PureOk E36 3 36 g34 := by
  intro args x h
  unfold g34 at h
  split at h
  · simp only [Option.some.injEq, Prod.mk.injEq, decide_eq_true_eq, Bool.and_eq_true] at h
    obtain ⟨h1, rfl⟩ := h
    refine ⟨_, rfl, rfl, ?_⟩
    rw [y36]
    rw [brn_iff]
    refine ⟨fun e => ?_, fun e => ?_⟩
    · simp only [bne_iff_ne, ne_eq] at e
      rw [sameI_len (by omega)]
    · simp only [bne_eq_false_iff_eq] at e
      refine ⟨rfl, ⟨rfl, ⟨h1.1, by omega⟩, by omega, by omega⟩, ?_⟩
      rw [brn_iff]
      exact ⟨fun e => by rw [List.drop_zero, List.drop_zero] at e; rw [e], fun e => by rw [List.drop_zero, List.drop_zero] at e; rw [e]⟩
  · cases h

noncomputable def F36 : Env := E36.addPure 36 g34
theorem eF36 : EnvOK F36 := e36.addPure m36 p36
theorem mF36 : EnvMono F36 := m36.addPure

end Go.Proofs.Ytpjkphcfkpcfgaa
