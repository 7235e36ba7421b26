import Derived.Test.YtpjkphcfkpcfgaaCvA
/-
  soritesref12: has, Within, Inside.
-/
namespace Go.Proofs.Ytpjkphcfkpcfgaa
open Go Go.Dn Go.Proofs

/-! ### Lists of numbers -/
def ints (l : List AV) : List Int := l.map toInt
def rows (l : List AV) : List (List Int) := l.map fun a => ints (toLst a)

theorem nth_get : ∀ (l : List AV) (i : Nat) (h : i < l.length), nth l i = l[i]
  | [], _, h => by simp at h
  | _ :: _, 0, _ => rfl
  | _ :: l, i + 1, h => by simpa [nth] using nth_get l i (by simpa using h)

theorem ints_length (l : List AV) : (ints l).length = l.length := by simp [ints]
theorem ints_drop (l : List AV) (i : Nat) (h : i < l.length) : (ints l).drop i = toInt (nth l i) :: (ints l).drop (i + 1) := by
  rw [List.drop_eq_getElem_cons (by simpa [ints] using h)]
  simp [ints, nth_get l i h]

def maxI : Nat := 9223372036854775807

theorem wrap_ok {n : Int} (h0 : 0 ≤ n) (h1 : n ≤ 9223372036854775807) : IntKind.wrap .i64 n = n := by
  refine (if_neg ?_).trans (Int.emod_eq_of_lt h0 (by show n < 18446744073709551616; omega))
  intro hc
  have hc2 : n % 18446744073709551616 ≥ 9223372036854775808 := of_decide_eq_true hc
  omega

/-! ### has -/
def hasI (l : List Int) (x : Int) : Bool := l.contains x

noncomputable def out41 : List AV × Int × Int → Out (Exit × S)
  | (l, x, i) => .brn (hasI ((ints l).drop i.toNat) x) (.one (.ret, sp 18 [(4, .bool true)] [])) (.one (.exit 0, sp 18 [] []))
abbrev st41 (p : List AV × Int × Int) : S := sp 18 [(0, .lst 3 p.1), (1, .int p.2.1), (5, .int p.2.2)] []
def un41 (s : S) : List AV × Int × Int := (toLst (nth s.regs 0), toInt (nth s.regs 1), toInt (nth s.regs 5))
def side41 : List AV × Int × Int → Prop
  | (l, _, i) => l.length ≤ maxI ∧ 0 ≤ i ∧ i ≤ l.length

theorem x41 (l : List AV) (x i : Int) (I : Nat → S → Prop) (n : Nat) (K : Exit → S → Prop) : (vc E0 3 41 none 0 (loopCode Try.prog 41 2) (sp 18 [(0, .lst 3 l), (1, .int x), (5, .int i)] []) (loopK E0 41 2 0 I n K)) = (
  brn (decide (i < (↑(List.length l) : Int)))
  (cnd (decide ((0 : Int) ≤ i) && decide (i < (↑(List.length l) : Int)))
    (brn (toInt (nth l (Int.toNat i)) == x) (K Exit.ret (sp (18 : Nat) [((4 : Nat), AV.lit (Value.bool true))] []))
      (∃ (m : Nat),
        m < n ∧
          I m
            (sp (18 : Nat)
              [((0 : Nat), AV.lst (3 : Nat) l), ((1 : Nat), AV.lit (Value.int IntKind.i64 x)),
                ((5 : Nat), AV.lit (Value.int IntKind.i64 (IntKind.wrap IntKind.i64 (i + (1 : Int)))))]
              []))))
  (K (Exit.exit (0 : Nat)) (sp (18 : Nat) [] []))) := by kernel_rfl


theorem l41 : LoopOk E0 3 41 2 (loopOf un41 st41 side41 out41) := by
  refine loopOf_ok (fun a => a.1.length - a.2.2.toNat) ?_
  rintro ⟨l, x, i⟩ K ⟨h1, h2, h3⟩ ho
  refine Eq.mpr (x41 l x i _ _ K) ?_
  simp only [out41, Out.run, brn_iff, cnd_iff, hasI, decide_eq_true_eq, decide_eq_false_iff_not, Bool.and_eq_true, beq_iff_eq] at ho ⊢
  refine ⟨fun hi => ⟨⟨h2, hi⟩, fun hx => ?_, fun hx => ?_⟩, fun hi => ?_⟩
  · refine ho.1 ?_
    rw [ints_drop l i.toNat (by omega), List.contains_cons]; simp [hx]
  · rw [wrap_ok (by omega) (by simp only [maxI] at h1; omega)]
    refine ⟨_, ?_, (l, x, i + 1), rfl, ⟨h1, by omega, by omega⟩, rfl, ?_⟩
    · simp only; omega
    · have e : (ints l).drop i.toNat = toInt (nth l i.toNat) :: (ints l).drop (i + 1).toNat := by
        rw [ints_drop l i.toNat (by omega)]; congr 2; omega
      rw [e, List.contains_cons] at ho
      have hne : (x == toInt (nth l i.toNat)) = false := by simp at hx ⊢; omega
      rw [hne, Bool.false_or] at ho
      simpa only [out41, Out.run, brn_iff, hasI] using ho
  · refine ho.2 ?_
    rw [List.drop_eq_nil_of_le (by rw [ints_length]; omega)]; rfl

noncomputable def E41 : Env := E0.addLoop 41 2 (loopOf un41 st41 side41 out41)
theorem e41 : EnvOK E41 := e0.addLoop m0 l41
theorem m41 : EnvMono E41 := m0.addLoop loopOf_mono

theorem y41 (l : List AV) (x : Int) (K : AV → List Dn.Obj → Prop) : (funA E41 3 41 [.lst 3 l, .int x] [] K) = (
  loopCode (Env.P E0) (41 : Nat) (2 : Nat) = loopCode (Env.P E0) (41 : Nat) (2 : Nat) ∧
  (sp (18 : Nat)
          [((0 : Nat), AV.lst (3 : Nat) l), ((1 : Nat), AV.lit (Value.int IntKind.i64 x)),
            ((5 : Nat), AV.lit (Value.int IntKind.i64 (0 : Int)))]
          [] =
        sp (18 : Nat)
          [((0 : Nat), AV.lst (3 : Nat) l), ((1 : Nat), AV.lit (Value.int IntKind.i64 x)),
            ((5 : Nat), AV.lit (Value.int IntKind.i64 (0 : Int)))]
          [] ∧
      List.length l ≤ (9223372036854775807 : Nat) ∧ (0 : Int) ≤ (0 : Int) ∧ (0 : Int) ≤ (↑(List.length l) : Int)) ∧
    brn (hasI (List.drop (0 : Nat) (ints l)) x) (K (AV.lit (Value.bool true)) []) (K (AV.lit (Value.bool false)) [])) := by kernel_rfl


def g41 : List AV → Option (Bool × AV)
  | [.lst 3 l, .lit (.int .i64 x)] => some (decide (l.length ≤ maxI), .bool (hasI (ints l) x))
  | _ => none

theorem p41 : PureOk E41 3 41 g41 := by
  intro args x h
  unfold g41 at h
  split at h
  · simp only [Option.some.injEq, Prod.mk.injEq, decide_eq_true_eq] at h
    obtain ⟨h1, rfl⟩ := h
    refine ⟨_, rfl, rfl, ?_⟩
    rw [y41]
    refine ⟨rfl, ⟨rfl, h1, by omega, by omega⟩, ?_⟩
    rw [brn_iff]
    exact ⟨fun e => by rw [List.drop_zero] at e; rw [e], fun e => by rw [List.drop_zero] at e; rw [e]⟩
  · cases h

noncomputable def F41 : Env := E41.addPure 41 g41
theorem eF41 : EnvOK F41 := e41.addPure m41 p41
theorem mF41 : EnvMono F41 := m41.addPure

/-! ### Within -/
def withinI (a b : List Int) : Bool := a.all fun x => hasI b x

noncomputable def out28 : List AV × List AV × Int → Out (Exit × S)
  | (a, b, i) => .brn (withinI ((ints a).drop i.toNat) (ints b)) (.one (.exit 0, sp 21 [] [])) (.one (.ret, sp 21 [(4, .bool false)] []))
def st28 : List AV × List AV × Int → S
  | (a, b, i) => sp 21 [(0, .lst 3 a), (1, .lst 3 b), (5, .int i)] []
def un28 (s : S) : List AV × List AV × Int := (toLst (nth s.regs 0), toLst (nth s.regs 1), toInt (nth s.regs 5))
def side28 : List AV × List AV × Int → Prop
  | (a, b, i) => (a.length ≤ maxI ∧ b.length ≤ maxI) ∧ 0 ≤ i ∧ i ≤ a.length

theorem x28 (a b : List AV) (i : Int) (I : Nat → S → Prop) (n : Nat) (K : Exit → S → Prop) : (vc F41 3 28 none 0 (loopCode Try.prog 28 2) (sp 21 [(0, .lst 3 a), (1, .lst 3 b), (5, .int i)] []) (loopK F41 28 2 0 I n K)) = (
  brn (decide (i < (↑(List.length a) : Int)))
  (cnd (decide ((0 : Int) ≤ i) && decide (i < (↑(List.length a) : Int)))
    (cnd (decide (List.length b ≤ (9223372036854775807 : Nat)))
      (brn (!hasI (ints b) (toInt (nth a (Int.toNat i))))
        (K Exit.ret (sp (21 : Nat) [((4 : Nat), AV.lit (Value.bool false))] []))
        (∃ (m : Nat),
          m < n ∧
            I m
              (sp (21 : Nat)
                [((0 : Nat), AV.lst (3 : Nat) a), ((1 : Nat), AV.lst (3 : Nat) b),
                  ((5 : Nat), AV.lit (Value.int IntKind.i64 (IntKind.wrap IntKind.i64 (i + (1 : Int)))))]
                [])))))
  (K (Exit.exit (0 : Nat)) (sp (21 : Nat) [] []))) := by kernel_rfl


theorem l28 : LoopOk F41 3 28 2 (loopOf un28 st28 side28 out28) := by
  refine loopOf_ok (fun a => a.1.length - a.2.2.toNat) ?_
  rintro ⟨l, x, i⟩ K ⟨⟨h1, h0⟩, h2, h3⟩ ho
  refine Eq.mpr (x28 l x i _ _ K) ?_
  simp only [out28, Out.run, brn_iff, cnd_iff, decide_eq_true_eq, decide_eq_false_iff_not, Bool.and_eq_true] at ho ⊢
  refine ⟨fun hi => ⟨⟨h2, hi⟩, h0, fun hx => ?_, fun hx => ?_⟩, fun hi => ?_⟩
  · refine ho.2 ?_
    rw [ints_drop l i.toNat (by omega)]
    simp only [Bool.not_eq_true'] at hx
    simp [withinI, hx]
  · rw [wrap_ok (by omega) (by simp only [maxI] at h1; omega)]
    refine ⟨_, ?_, (l, x, i + 1), rfl, ⟨⟨h1, h0⟩, by omega, by omega⟩, rfl, ?_⟩
    · simp only; omega
    · have e : (ints l).drop i.toNat = toInt (nth l i.toNat) :: (ints l).drop (i + 1).toNat := by
        rw [ints_drop l i.toNat (by omega)]; congr 2; omega
      simp only [Bool.not_eq_false'] at hx
      rw [e] at ho
      simp only [withinI, List.all_cons, hx, Bool.true_and] at ho
      simpa only [out28, Out.run, brn_iff, withinI] using ho
  · refine ho.1 ?_
    rw [List.drop_eq_nil_of_le (by rw [ints_length]; omega)]; rfl

end Go.Proofs.Ytpjkphcfkpcfgaa
