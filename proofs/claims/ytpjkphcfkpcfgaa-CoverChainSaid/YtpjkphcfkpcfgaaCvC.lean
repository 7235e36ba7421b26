import Derived.Test.YtpjkphcfkpcfgaaCvB
/-
  Within, Inside as functions; isWithin.
-/
namespace Go.Proofs.Ytpjkphcfkpcfgaa
open Go Go.Dn Go.Proofs

noncomputable def E28 : Env := F41.addLoop 28 2 (loopOf un28 st28 side28 out28)
theorem e28 : EnvOK E28 := eF41.addLoop mF41 l28
theorem m28 : EnvMono E28 := mF41.addLoop loopOf_mono

theorem y28 (a b : List AV) (K : AV → List Dn.Obj → Prop) : (funA E28 3 28 [.lst 3 a, .lst 3 b] [] K) = (
  loopCode (Env.P F41) (28 : Nat) (2 : Nat) = loopCode (Env.P F41) (28 : Nat) (2 : Nat) ∧
  (sp (21 : Nat)
          [((0 : Nat), AV.lst (3 : Nat) a), ((1 : Nat), AV.lst (3 : Nat) b),
            ((5 : Nat), AV.lit (Value.int IntKind.i64 (0 : Int)))]
          [] =
        sp (21 : Nat)
          [((0 : Nat), AV.lst (3 : Nat) a), ((1 : Nat), AV.lst (3 : Nat) b),
            ((5 : Nat), AV.lit (Value.int IntKind.i64 (0 : Int)))]
          [] ∧
      (List.length a ≤ (9223372036854775807 : Nat) ∧ List.length b ≤ (9223372036854775807 : Nat)) ∧
        (0 : Int) ≤ (0 : Int) ∧ (0 : Int) ≤ (↑(List.length a) : Int)) ∧
    brn (withinI (List.drop (0 : Nat) (ints a)) (ints b)) (K (AV.lit (Value.bool true)) [])
      (K (AV.lit (Value.bool false)) [])) := by kernel_rfl


def g28 : List AV → Option (Bool × AV)
  | [.lst 3 a, .lst 3 b] => some (decide (a.length ≤ maxI) && decide (b.length ≤ maxI), .bool (withinI (ints a) (ints b)))
  | _ => none

theorem p28 : PureOk E28 3 28 g28 := by
  intro args x h
  unfold g28 at h
  split at h
  · simp only [Option.some.injEq, Prod.mk.injEq, decide_eq_true_eq, Bool.and_eq_true] at h
    obtain ⟨h1, rfl⟩ := h
    refine ⟨_, rfl, rfl, ?_⟩
    rw [y28]
    refine ⟨rfl, ⟨rfl, h1, by omega, by omega⟩, ?_⟩
    rw [brn_iff]
    exact ⟨fun e => by rw [List.drop_zero] at e; rw [e], fun e => by rw [List.drop_zero] at e; rw [e]⟩
  · cases h

noncomputable def F28 : Env := E28.addPure 28 g28
theorem eF28 : EnvOK F28 := e28.addPure m28 p28
theorem mF28 : EnvMono F28 := m28.addPure

theorem y25 (a b : List AV) (K : AV → List Dn.Obj → Prop) : (funA F28 3 25 [.lst 3 a, .lst 3 b] [] K) = (
  cnd (decide (List.length a ≤ (9223372036854775807 : Nat)) && decide (List.length b ≤ (9223372036854775807 : Nat)))
  (brn (withinI (ints a) (ints b))
    (K (AV.lit (Value.bool (decide ((↑(List.length a) : Int) < (↑(List.length b) : Int))))) [])
    (K (AV.lit (Value.bool false)) []))) := by kernel_rfl


def insideI (a b : List Int) : Bool := withinI a b && decide (a.length < b.length)

def g25 : List AV → Option (Bool × AV)
  | [.lst 3 a, .lst 3 b] => some (decide (a.length ≤ maxI) && decide (b.length ≤ maxI), .bool (insideI (ints a) (ints b)))
  | _ => none

theorem p25 : PureOk F28 3 25 g25 := by
  intro args x h
  unfold g25 at h
  split at h
  · simp only [Option.some.injEq, Prod.mk.injEq, decide_eq_true_eq, Bool.and_eq_true] at h
    obtain ⟨h1, rfl⟩ := h
    refine ⟨_, rfl, rfl, ?_⟩
    rw [y25]
    simp only [cnd_iff, brn_iff, decide_eq_true_eq, Bool.and_eq_true, insideI, ints_length]
    refine ⟨h1, fun e => ?_, fun e => ?_⟩ <;> simp [e]
  · cases h

noncomputable def F25 : Env := F28.addPure 25 g25
theorem eF25 : EnvOK F25 := eF28.addPure mF28 p25
theorem mF25 : EnvMono F25 := mF28.addPure

theorem y18 (a b : List AV) (K : AV → List Dn.Obj → Prop) : (funA F25 3 18 [.lst 3 a, .lst 3 b] [] K) = (
  brn (decide ((↑(List.length a) : Int) < (↑(List.length b) : Int))) (K (AV.lit (Value.bool false)) [])
  (cnd (true && decide ((↑(List.length b) : Int) ≤ (↑(List.length a) : Int)))
    (cnd
      (decide
          (List.length (List.drop (0 : Nat) (List.take (Int.toNat (↑(List.length b) : Int)) a)) ≤
            (9223372036854775807 : Nat)) &&
        decide (List.length b ≤ (9223372036854775807 : Nat)))
      (brn (withinI (ints (List.drop (0 : Nat) (List.take (Int.toNat (↑(List.length b) : Int)) a))) (ints b))
        (cnd
          (decide (List.length b ≤ (9223372036854775807 : Nat)) &&
            decide
              (List.length (List.drop (0 : Nat) (List.take (Int.toNat (↑(List.length b) : Int)) a)) ≤
                (9223372036854775807 : Nat)))
          (K
            (AV.lit
              (Value.bool
                (withinI (ints b) (ints (List.drop (0 : Nat) (List.take (Int.toNat (↑(List.length b) : Int)) a))))))
            []))
        (K (AV.lit (Value.bool false)) []))))) := by kernel_rfl


def servesI (o s : List Int) : Bool := decide (s.length ≤ o.length) && (withinI (o.take s.length) s && withinI s (o.take s.length))

def g18 : List AV → Option (Bool × AV)
  | [.lst 3 a, .lst 3 b] => some (decide (a.length ≤ maxI) && decide (b.length ≤ maxI), .bool (servesI (ints a) (ints b)))
  | _ => none

theorem ints_take (l : List AV) (n : Nat) : ints (l.take n) = (ints l).take n := by simp [ints]

theorem p18 : PureOk F25 3 18 g18 := by
  intro args x h
  unfold g18 at h
  split at h
  · simp only [Option.some.injEq, Prod.mk.injEq, decide_eq_true_eq, Bool.and_eq_true] at h
    obtain ⟨⟨h1, h2⟩, rfl⟩ := h
    refine ⟨_, rfl, rfl, ?_⟩
    rw [y18]
    simp only [cnd_iff, brn_iff, decide_eq_true_eq, decide_eq_false_iff_not, Bool.and_eq_true, servesI, ints_length, List.drop_zero, List.length_take, Int.toNat_natCast, ints_take]
    simp only [maxI] at h1 h2
    refine ⟨fun e => ?_, fun e => ⟨⟨trivial, by omega⟩, ⟨by omega, by omega⟩, fun e1 => ⟨⟨by omega, by omega⟩, ?_⟩, fun e1 => ?_⟩⟩
    · rw [decide_eq_false (by omega)]; rfl
    · rw [decide_eq_true (by omega), e1]; rfl
    · rw [e1]; simp
  · cases h

noncomputable def F18 : Env := F25.addPure 18 g18
theorem eF18 : EnvOK F18 := eF25.addPure mF25 p18
theorem mF18 : EnvMono F18 := mF25.addPure

/-! ### slices.Contains -/
noncomputable def out43 : List AV × Int × Int → Out (Exit × S)
  | (l, x, i) => .brn (hasI ((ints l).drop i.toNat) x) (.all (fun j : Int => 0 ≤ j) fun j => .one (.ret, sp 19 [(4, .int j)] [])) (.one (.exit 0, sp 19 [] []))
abbrev st43 (p : List AV × Int × Int) : S := sp 19 [(0, .lst 3 p.1), (1, .int p.2.1), (7, .int p.1.length), (8, .int p.2.2)] []
def un43 (s : S) : List AV × Int × Int := (toLst (nth s.regs 0), toInt (nth s.regs 1), toInt (nth s.regs 8))

theorem x43 (l : List AV) (x i : Int) (I : Nat → S → Prop) (n : Nat) (K : Exit → S → Prop) : (vc F18 8 43 none 0 (loopCode Try.prog 43 2) (st43 (l, x, i)) (loopK F18 43 2 0 I n K)) = (
  brn (decide (i < (↑(List.length l) : Int)))
  (cnd (decide ((0 : Int) ≤ i) && decide (i < (↑(List.length l) : Int)))
    (brn (x == toInt (nth l (Int.toNat i)))
      (K Exit.ret (sp (19 : Nat) [((4 : Nat), AV.lit (Value.int IntKind.i64 i))] []))
      (∃ (m : Nat),
        m < n ∧
          I m
            (sp (19 : Nat)
              [((0 : Nat), AV.lst (3 : Nat) l), ((1 : Nat), AV.lit (Value.int IntKind.i64 x)),
                ((7 : Nat), AV.lit (Value.int IntKind.i64 (↑(List.length l) : Int))),
                ((8 : Nat), AV.lit (Value.int IntKind.i64 (IntKind.wrap IntKind.i64 (i + (1 : Int)))))]
              []))))
  (K (Exit.exit (0 : Nat)) (sp (19 : Nat) [] []))) := by kernel_rfl


theorem l43 : LoopOk F18 8 43 2 (loopOf un43 st43 side41 out43) := by
  refine loopOf_ok (fun a => a.1.length - a.2.2.toNat) ?_
  rintro ⟨l, x, i⟩ K ⟨h1, h2, h3⟩ ho
  refine Eq.mpr (x43 l x i _ _ K) ?_
  simp only [out43, Out.run, brn_iff, cnd_iff, hasI, decide_eq_true_eq, decide_eq_false_iff_not, Bool.and_eq_true, beq_iff_eq] at ho ⊢
  refine ⟨fun hi => ⟨⟨h2, hi⟩, fun hx => ?_, fun hx => ?_⟩, fun hi => ?_⟩
  · refine ho.1 ?_ i h2
    rw [ints_drop l i.toNat (by omega), List.contains_cons]; simp [hx]
  · rw [wrap_ok (by omega) (by simp only [maxI] at h1; omega)]
    refine ⟨_, ?_, (l, x, i + 1), rfl, ⟨h1, by omega, by omega⟩, rfl, ?_⟩
    · simp only; omega
    · have e : (ints l).drop i.toNat = toInt (nth l i.toNat) :: (ints l).drop (i + 1).toNat := by
        rw [ints_drop l i.toNat (by omega)]; congr 2; omega
      rw [e, List.contains_cons] at ho
      rw [hx, Bool.false_or] at ho
      simpa only [out43, Out.run, brn_iff, hasI] using ho
  · refine ho.2 ?_
    rw [List.drop_eq_nil_of_le (by rw [ints_length]; omega)]; rfl

noncomputable def E43 : Env := F18.addLoop 43 2 (loopOf un43 st43 side41 out43)
theorem e43 : EnvOK E43 := eF18.addLoop mF18 l43
theorem m43 : EnvMono E43 := mF18.addLoop loopOf_mono

theorem y38 (l : List AV) (x : Int) (K : AV → List Dn.Obj → Prop) : (funA E43 8 38 [.lst 3 l, .int x] [] K) = (
  loopCode (Env.P F18) (43 : Nat) (2 : Nat) = loopCode (Env.P F18) (43 : Nat) (2 : Nat) ∧
  (sp (19 : Nat)
          [((0 : Nat), AV.lst (3 : Nat) l), ((1 : Nat), AV.lit (Value.int IntKind.i64 x)),
            ((7 : Nat), AV.lit (Value.int IntKind.i64 (↑(List.length l) : Int))),
            ((8 : Nat), AV.lit (Value.int IntKind.i64 (0 : Int)))]
          [] =
        sp (19 : Nat)
          [((0 : Nat), AV.lst (3 : Nat) l), ((1 : Nat), AV.lit (Value.int IntKind.i64 x)),
            ((7 : Nat), AV.lit (Value.int IntKind.i64 (↑(List.length l) : Int))),
            ((8 : Nat), AV.lit (Value.int IntKind.i64 (0 : Int)))]
          [] ∧
      List.length l ≤ (9223372036854775807 : Nat) ∧ (0 : Int) ≤ (0 : Int) ∧ (0 : Int) ≤ (↑(List.length l) : Int)) ∧
    brn (hasI (List.drop (0 : Nat) (ints l)) x)
      (∀ (y : Int), (0 : Int) ≤ y → K (AV.lit (Value.bool (decide (y ≥ (0 : Int))))) [])
      (K (AV.lit (Value.bool false)) [])) := by kernel_rfl


theorem p38 : PureOk E43 8 38 g41 := by
  intro args x h
  unfold g41 at h
  split at h
  · simp only [Option.some.injEq, Prod.mk.injEq, decide_eq_true_eq] at h
    obtain ⟨h1, rfl⟩ := h
    refine ⟨_, rfl, rfl, ?_⟩
    rw [y38]
    refine ⟨rfl, ⟨rfl, h1, by omega, by omega⟩, ?_⟩
    rw [brn_iff]
    exact ⟨fun e y hy => by rw [List.drop_zero] at e; rw [e, decide_eq_true hy], fun e => by rw [List.drop_zero] at e; rw [e]⟩
  · cases h

noncomputable def F38 : Env := E43.addPure 38 g41
theorem eF38 : EnvOK F38 := e43.addPure m43 p38
theorem mF38 : EnvMono F38 := m43.addPure

/-! ### isWithin -/
noncomputable def out44 : List AV × List AV × Int → Out (Exit × S)
  | (a, b, i) => .brn (withinI ((ints a).drop i.toNat) (ints b)) (.one (.exit 0, sp 19 [] [.box 25 (.lst 3 b)])) (.all (fun j : Int => 0 ≤ j) fun j => .one (.ret, sp 19 [(4, .int j)] [.box 25 (.lst 3 b)]))
def st44 : List AV × List AV × Int → S
  | (a, b, i) => sp 19 [(0, .lst 3 a), (1, .clo 40 [.ptr 0 0 [] 0]), (7, .int a.length), (8, .int i)] [.box 25 (.lst 3 b)]
def boxA : Dn.Obj → AV
  | .box _ a => a
  | _ => .junk
def un44 (s : S) : List AV × List AV × Int := (toLst (nth s.regs 0), toLst (boxA (nthO s.st 0)), toInt (nth s.regs 8))

theorem x44 (a b : List AV) (i : Int) (I : Nat → S → Prop) (n : Nat) (K : Exit → S → Prop) : (vc F38 8 44 none 1 (loopCode Try.prog 44 2) (st44 (a, b, i)) (loopK F38 44 2 1 I n K)) = (
  brn (decide (i < (↑(List.length a) : Int)))
  (cnd (decide ((0 : Int) ≤ i) && decide (i < (↑(List.length a) : Int)))
    (cnd (decide (List.length b ≤ (9223372036854775807 : Nat)))
      (brn (!hasI (ints b) (toInt (nth a (Int.toNat i))))
        (K Exit.ret
          (sp (19 : Nat) [((4 : Nat), AV.lit (Value.int IntKind.i64 i))] [Obj.box (25 : Nat) (AV.lst (3 : Nat) b)]))
        (∃ (m : Nat),
          m < n ∧
            I m
              (sp (19 : Nat)
                [((0 : Nat), AV.lst (3 : Nat) a),
                  ((1 : Nat), AV.clo (40 : Nat) [AV.ptr (0 : Nat) (0 : Nat) [] (0 : Nat)]),
                  ((7 : Nat), AV.lit (Value.int IntKind.i64 (↑(List.length a) : Int))),
                  ((8 : Nat), AV.lit (Value.int IntKind.i64 (IntKind.wrap IntKind.i64 (i + (1 : Int)))))]
                [Obj.box (25 : Nat) (AV.lst (3 : Nat) b)])))))
  (K (Exit.exit (0 : Nat)) (sp (19 : Nat) [] [Obj.box (25 : Nat) (AV.lst (3 : Nat) b)]))) := by kernel_rfl


theorem l44 : LoopOk F38 8 44 2 (loopOf un44 st44 side28 out44 1) := by
  refine loopOf_ok (fun a => a.1.length - a.2.2.toNat) ?_
  rintro ⟨l, x, i⟩ K ⟨⟨h1, h0⟩, h2, h3⟩ ho
  refine Eq.mpr (x44 l x i _ _ K) ?_
  simp only [out44, Out.run, brn_iff, cnd_iff, decide_eq_true_eq, decide_eq_false_iff_not, Bool.and_eq_true] at ho ⊢
  refine ⟨fun hi => ⟨⟨h2, hi⟩, h0, fun hx => ?_, fun hx => ?_⟩, fun hi => ?_⟩
  · refine ho.2 ?_ i h2
    rw [ints_drop l i.toNat (by omega)]
    simp only [Bool.not_eq_true'] at hx
    simp [withinI, hx]
  · rw [wrap_ok (by omega) (by simp only [maxI] at h1; omega)]
    refine ⟨_, ?_, (l, x, i + 1), rfl, ⟨⟨h1, h0⟩, by omega, by omega⟩, rfl, ?_⟩
    · simp only; omega
    · have e : (ints l).drop i.toNat = toInt (nth l i.toNat) :: (ints l).drop (i + 1).toNat := by
        rw [ints_drop l i.toNat (by omega)]; congr 2; omega
      simp only [Bool.not_eq_false'] at hx
      rw [e] at ho
      simp only [withinI, List.all_cons, hx, Bool.true_and] at ho
      simpa only [out44, Out.run, brn_iff, withinI] using ho
  · refine ho.1 ?_
    rw [List.drop_eq_nil_of_le (by rw [ints_length]; omega)]; rfl

noncomputable def E44 : Env := F38.addLoop 44 2 (loopOf un44 st44 side28 out44 1)
theorem e44 : EnvOK E44 := eF38.addLoop mF38 l44
theorem m44 : EnvMono E44 := mF38.addLoop loopOf_mono

theorem y27 (a b : List AV) (K : AV → List Dn.Obj → Prop) : (funA E44 8 27 [.lst 3 a, .lst 3 b] [] K) = (
  loopCode (Env.P F38) (44 : Nat) (2 : Nat) = loopCode (Env.P F38) (44 : Nat) (2 : Nat) ∧
  (sp (19 : Nat)
          [((0 : Nat), AV.lst (3 : Nat) a), ((1 : Nat), AV.clo (40 : Nat) [AV.ptr (0 : Nat) (0 : Nat) [] (0 : Nat)]),
            ((7 : Nat), AV.lit (Value.int IntKind.i64 (↑(List.length a) : Int))),
            ((8 : Nat), AV.lit (Value.int IntKind.i64 (0 : Int)))]
          [Obj.box (25 : Nat) (AV.lst (3 : Nat) b)] =
        sp (19 : Nat)
          [((0 : Nat), AV.lst (3 : Nat) a), ((1 : Nat), AV.clo (40 : Nat) [AV.ptr (0 : Nat) (0 : Nat) [] (0 : Nat)]),
            ((7 : Nat), AV.lit (Value.int IntKind.i64 (↑(List.length a) : Int))),
            ((8 : Nat), AV.lit (Value.int IntKind.i64 (0 : Int)))]
          [Obj.box (25 : Nat) (AV.lst (3 : Nat) b)] ∧
      (List.length a ≤ (9223372036854775807 : Nat) ∧ List.length b ≤ (9223372036854775807 : Nat)) ∧
        (0 : Int) ≤ (0 : Int) ∧ (0 : Int) ≤ (↑(List.length a) : Int)) ∧
    brn (withinI (List.drop (0 : Nat) (ints a)) (ints b)) (K (AV.lit (Value.bool true)) [])
      (∀ (y : Int), (0 : Int) ≤ y → K (AV.lit (Value.bool !decide (y ≥ (0 : Int)))) [])) := by kernel_rfl


theorem p27 : PureOk E44 8 27 g28 := by
  intro args x h
  unfold g28 at h
  split at h
  · simp only [Option.some.injEq, Prod.mk.injEq, decide_eq_true_eq, Bool.and_eq_true] at h
    obtain ⟨h1, rfl⟩ := h
    refine ⟨_, rfl, rfl, ?_⟩
    rw [y27]
    refine ⟨rfl, ⟨rfl, h1, by omega, by omega⟩, ?_⟩
    rw [brn_iff]
    refine ⟨fun e => ?_, fun e y hy => ?_⟩
    · rw [List.drop_zero] at e; rw [e]
    · rw [List.drop_zero] at e; rw [e, decide_eq_true hy]; rfl
  · cases h

noncomputable def F27 : Env := E44.addPure 27 g28
theorem eF27 : EnvOK F27 := e44.addPure m44 p27
theorem mF27 : EnvMono F27 := m44.addPure

theorem y15 (a b : List AV) (K : AV → List Dn.Obj → Prop) : (funA F27 3 15 [.lst 3 a, .lst 3 b] [] K) = (
  brn (decide ((↑(List.length a) : Int) < (↑(List.length b) : Int))) (K (AV.lit (Value.bool false)) [])
  (cnd (true && decide ((↑(List.length b) : Int) ≤ (↑(List.length a) : Int)))
    (cnd
      (decide
          (List.length (List.drop (0 : Nat) (List.take (Int.toNat (↑(List.length b) : Int)) a)) ≤
            (9223372036854775807 : Nat)) &&
        decide (List.length b ≤ (9223372036854775807 : Nat)))
      (brn (withinI (ints (List.drop (0 : Nat) (List.take (Int.toNat (↑(List.length b) : Int)) a))) (ints b))
        (cnd
          (decide (List.length b ≤ (9223372036854775807 : Nat)) &&
            decide
              (List.length (List.drop (0 : Nat) (List.take (Int.toNat (↑(List.length b) : Int)) a)) ≤
                (9223372036854775807 : Nat)))
          (K
            (AV.lit
              (Value.bool
                (withinI (ints b) (ints (List.drop (0 : Nat) (List.take (Int.toNat (↑(List.length b) : Int)) a))))))
            []))
        (K (AV.lit (Value.bool false)) []))))) := by kernel_rfl


theorem p15 : PureOk F27 3 15 g18 := by
  intro args x h
  unfold g18 at h
  split at h
  · simp only [Option.some.injEq, Prod.mk.injEq, decide_eq_true_eq, Bool.and_eq_true] at h
    obtain ⟨⟨h1, h2⟩, rfl⟩ := h
    refine ⟨_, rfl, rfl, ?_⟩
    rw [y15]
    simp only [cnd_iff, brn_iff, decide_eq_true_eq, decide_eq_false_iff_not, Bool.and_eq_true, servesI, ints_length, List.drop_zero, List.length_take, Int.toNat_natCast, ints_take]
    simp only [maxI] at h1 h2
    refine ⟨fun e => ?_, fun e => ⟨⟨trivial, by omega⟩, ⟨by omega, by omega⟩, fun e1 => ⟨⟨by omega, by omega⟩, ?_⟩, fun e1 => ?_⟩⟩
    · rw [decide_eq_false (by omega)]; rfl
    · rw [decide_eq_true (by omega), e1]; rfl
    · rw [e1]; simp
  · cases h

noncomputable def F15 : Env := F27.addPure 15 g18
theorem eF15 : EnvOK F15 := eF27.addPure mF27 p15
theorem mF15 : EnvMono F15 := mF27.addPure

end Go.Proofs.Ytpjkphcfkpcfgaa
