import Derived.Test.YtpjkphcfkpcfgaaCvD
/-
  Sets of columns: isSet, right.
-/
namespace Go.Proofs.Ytpjkphcfkpcfgaa
open Go Go.Dn Go.Proofs

theorem wrap_down {n : Int} (h0 : 0 < n) (h1 : n ≤ 9223372036854775807) : IntKind.wrap .i64 (n - 1) = n - 1 := wrap_ok (by omega) (by omega)

/-- Numbers from 0 on, below c, each greater than the one ahead (p: the one ahead; below 0: none). -/
def climbs (c : Int) : Int → List Int → Bool
  | _, [] => true
  | p, x :: l => decide (0 ≤ x) && (decide (x < c) && (decide (p < x) && climbs c x l))

/-- The number ahead of a place. -/
def aheadI (l : List AV) (i : Int) : Int := if 0 < i then toInt (nth l (i - 1).toNat) else -1

theorem ahead_next (l : List AV) {i : Int} (h : 0 ≤ i) : aheadI l (i + 1) = toInt (nth l i.toNat) := by
  unfold aheadI
  rw [if_pos (by omega)]
  congr 2; omega

/-! ### isSet -/
noncomputable def out31 : List AV × Int × Int → Out (Exit × S)
  | (a, c, i) => .brn (climbs c (aheadI a i) ((ints a).drop i.toNat)) (.one (.exit 0, sp 38 [(1, .lst 3 a)] [])) (.one (.ret, sp 38 [(4, .bool false)] []))
abbrev st31 (p : List AV × Int × Int) : S := sp 38 [(0, .int p.2.1), (1, .lst 3 p.1), (7, .lst 3 p.1), (8, .int p.1.length), (9, .int p.2.2)] []
def un31 (s : S) : List AV × Int × Int := (toLst (nth s.regs 1), toInt (nth s.regs 0), toInt (nth s.regs 9))

theorem x31 (a : List AV) (c i : Int) (I : Nat → S → Prop) (n : Nat) (K : Exit → S → Prop) : (vc F36 8 31 none 0 (loopCode Try.prog 31 2) (sp 38 [(0, .int c), (1, .lst 3 a), (7, .lst 3 a), (8, .int a.length), (9, .int i)] []) (loopK F36 31 2 0 I n K)) = (
  brn (decide (i < (↑(List.length a) : Int)))
  (cnd (decide ((0 : Int) ≤ i) && decide (i < (↑(List.length a) : Int)))
    (brn (decide (toInt (nth a (Int.toNat i)) < (0 : Int)))
      (K Exit.ret (sp (38 : Nat) [((4 : Nat), AV.lit (Value.bool false))] []))
      (brn (decide (toInt (nth a (Int.toNat i)) ≥ c))
        (K Exit.ret (sp (38 : Nat) [((4 : Nat), AV.lit (Value.bool false))] []))
        (brn (decide (i > (0 : Int)))
          (cnd
            (decide ((0 : Int) ≤ IntKind.wrap IntKind.i64 (i - (1 : Int))) &&
              decide (IntKind.wrap IntKind.i64 (i - (1 : Int)) < (↑(List.length a) : Int)))
            (brn
              (decide
                (toInt (nth a (Int.toNat (IntKind.wrap IntKind.i64 (i - (1 : Int))))) ≥ toInt (nth a (Int.toNat i))))
              (K Exit.ret (sp (38 : Nat) [((4 : Nat), AV.lit (Value.bool false))] []))
              (∃ (m : Nat),
                m < n ∧
                  I m
                    (sp (38 : Nat)
                      [((0 : Nat), AV.lit (Value.int IntKind.i64 c)), ((1 : Nat), AV.lst (3 : Nat) a),
                        ((7 : Nat), AV.lst (3 : Nat) a),
                        ((8 : Nat), AV.lit (Value.int IntKind.i64 (↑(List.length a) : Int))),
                        ((9 : Nat), AV.lit (Value.int IntKind.i64 (IntKind.wrap IntKind.i64 (i + (1 : Int)))))]
                      []))))
          (∃ (m : Nat),
            m < n ∧
              I m
                (sp (38 : Nat)
                  [((0 : Nat), AV.lit (Value.int IntKind.i64 c)), ((1 : Nat), AV.lst (3 : Nat) a),
                    ((7 : Nat), AV.lst (3 : Nat) a),
                    ((8 : Nat), AV.lit (Value.int IntKind.i64 (↑(List.length a) : Int))),
                    ((9 : Nat), AV.lit (Value.int IntKind.i64 (IntKind.wrap IntKind.i64 (i + (1 : Int)))))]
                  []))))))
  (K (Exit.exit (0 : Nat)) (sp (38 : Nat) [((1 : Nat), AV.lst (3 : Nat) a)] []))) := by kernel_rfl


theorem l31 : LoopOk F36 8 31 2 (loopOf un31 st31 side41 out31) := by
  refine loopOf_ok (fun a => a.1.length - a.2.2.toNat) ?_
  rintro ⟨a, c, i⟩ K ⟨h1, h2, h3⟩ ho
  refine Eq.mpr (x31 a c i _ _ K) ?_
  simp only [maxI] at h1
  simp only [out31, Out.run, brn_iff, cnd_iff, decide_eq_true_eq, decide_eq_false_iff_not, Bool.and_eq_true] at ho ⊢
  refine ⟨fun hi => ⟨⟨h2, hi⟩, fun hx => ?_, fun hx => ⟨fun hy => ?_, fun hy => ?_⟩⟩, fun hi => ?_⟩
  · refine ho.2 ?_
    rw [ints_dropI a h2 hi]
    simp only [climbs, decide_eq_false (show ¬ 0 ≤ toInt (nth a i.toNat) by omega), Bool.false_and]
  · refine ho.2 ?_
    rw [ints_dropI a h2 hi]
    simp only [climbs, decide_eq_false (show ¬ toInt (nth a i.toNat) < c by omega), Bool.false_and, Bool.and_false]
  · have next : (aheadI a i < toInt (nth a i.toNat)) → ∃ m, m < a.length - i.toNat ∧ invOf st31 side41 out31 (fun a => a.1.length - a.2.2.toNat) K m (sp 38 [(0, .int c), (1, .lst 3 a), (7, .lst 3 a), (8, .int a.length), (9, .int (i + 1))] []) := by
      intro hlt
      refine ⟨_, ?_, (a, c, i + 1), rfl, ⟨by simp only [maxI]; omega, by omega, by omega⟩, rfl, ?_⟩
      · simp only; omega
      · rw [ints_dropI a h2 hi] at ho
        simp only [climbs, decide_eq_true (show 0 ≤ toInt (nth a i.toNat) by omega), decide_eq_true (show toInt (nth a i.toNat) < c by omega), decide_eq_true hlt, Bool.true_and] at ho
        simp only [out31, Out.run, brn_iff, ahead_next a h2]
        exact ho
    rw [show IntKind.wrap .i64 (i + 1) = i + 1 from wrap_ok (by omega) (by omega)]
    refine ⟨fun hz => ?_, fun hz => next (by unfold aheadI; rw [if_neg (by omega)]; omega)⟩
    rw [show IntKind.wrap .i64 (i - 1) = i - 1 from wrap_down (by omega) (by omega)]
    refine ⟨⟨by omega, by omega⟩, fun hw => ?_, fun hw => next (by unfold aheadI; rw [if_pos (by omega)]; omega)⟩
    refine ho.2 ?_
    rw [ints_dropI a h2 hi]
    simp only [climbs, decide_eq_false (show ¬ aheadI a i < toInt (nth a i.toNat) by unfold aheadI; rw [if_pos (by omega)]; omega), Bool.false_and, Bool.and_false]
  · refine ho.1 ?_
    rw [ints_dropE a h2 hi]; rfl

noncomputable def E31 : Env := F36.addLoop 31 2 (loopOf un31 st31 side41 out31)
theorem e31 : EnvOK E31 := eF36.addLoop mF36 l31
theorem m31 : EnvMono E31 := mF36.addLoop loopOf_mono

theorem y31 (a : List AV) (c : Int) (K : AV → List Dn.Obj → Prop) : (funA E31 3 31 [.int c, .lst 3 a] [] K) = (
  loopCode (Env.P F36) (31 : Nat) (2 : Nat) = loopCode (Env.P F36) (31 : Nat) (2 : Nat) ∧
  (sp (38 : Nat)
          [((0 : Nat), AV.lit (Value.int IntKind.i64 c)), ((1 : Nat), AV.lst (3 : Nat) a),
            ((7 : Nat), AV.lst (3 : Nat) a), ((8 : Nat), AV.lit (Value.int IntKind.i64 (↑(List.length a) : Int))),
            ((9 : Nat), AV.lit (Value.int IntKind.i64 (0 : Int)))]
          [] =
        sp (38 : Nat)
          [((0 : Nat), AV.lit (Value.int IntKind.i64 c)), ((1 : Nat), AV.lst (3 : Nat) a),
            ((7 : Nat), AV.lst (3 : Nat) a), ((8 : Nat), AV.lit (Value.int IntKind.i64 (↑(List.length a) : Int))),
            ((9 : Nat), AV.lit (Value.int IntKind.i64 (0 : Int)))]
          [] ∧
      List.length a ≤ (9223372036854775807 : Nat) ∧ (0 : Int) ≤ (0 : Int) ∧ (0 : Int) ≤ (↑(List.length a) : Int)) ∧
    brn (climbs c (aheadI a (0 : Int)) (List.drop (0 : Nat) (ints a)))
      (K (AV.lit (Value.bool (decide ((↑(List.length a) : Int) > (0 : Int))))) []) (K (AV.lit (Value.bool false)) [])) := by kernel_rfl


def isSetI (c : Int) (l : List Int) : Bool := climbs c (-1) l && decide (0 < l.length)

def g31 : List AV → Option (Bool × AV)
  | [.lit (.int .i64 c), .lst 3 a] => some (decide (a.length ≤ maxI), .bool (isSetI c (ints a)))
  | _ => none

theorem p31 : PureOk E31 3 31 g31 := by
  intro args x h
  unfold g31 at h
  split at h
  · simp only [Option.some.injEq, Prod.mk.injEq, decide_eq_true_eq] at h
    obtain ⟨h1, rfl⟩ := h
    refine ⟨_, rfl, rfl, ?_⟩
    rw [y31]
    refine ⟨rfl, ⟨rfl, h1, by omega, by omega⟩, ?_⟩
    rw [brn_iff]
    simp only [isSetI, ints_length]
    refine ⟨fun e => ?_, fun e => ?_⟩
    · have e' : climbs _ (-1) (ints _) = true := e
      rw [e', Bool.true_and]
      congr 2
      simp
    · have e' : climbs _ (-1) (ints _) = false := e
      rw [e']; rfl
  · cases h

noncomputable def F31 : Env := E31.addPure 31 g31
theorem eF31 : EnvOK F31 := e31.addPure m31 p31
theorem mF31 : EnvMono F31 := m31.addPure

end Go.Proofs.Ytpjkphcfkpcfgaa
