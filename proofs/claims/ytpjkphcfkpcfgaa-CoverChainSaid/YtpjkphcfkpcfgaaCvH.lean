import Derived.Test.YtpjkphcfkpcfgaaCvG
/-
  once.
-/
namespace Go.Proofs.Ytpjkphcfkpcfgaa
open Go Go.Dn Go.Proofs

/-- No number twice. -/
def onceI : List Int → List Int → Bool
  | _, [] => true
  | done, x :: r => !(hasI done x) && onceI (done ++ [x]) r

theorem take_dropI (l : List AV) {i k : Int} (h0 : 0 ≤ k) (hk : k < i) (hi : i < l.length) :
    ((ints l).take i.toNat).drop k.toNat = toInt (nth l k.toNat) :: ((ints l).take i.toNat).drop (k + 1).toNat := by
  rw [List.drop_eq_getElem_cons (by rw [List.length_take, ints_length]; omega)]
  congr 1
  · simp only [List.getElem_take, ints, List.getElem_map]
    rw [nth_get l k.toNat (by omega)]
  · congr 1; omega
theorem ints_takeI (l : List AV) {i : Int} (h0 : 0 ≤ i) (h : i < l.length) : (ints l).take (i + 1).toNat = (ints l).take i.toNat ++ [toInt (nth l i.toNat)] := by
  rw [show (i + 1).toNat = i.toNat + 1 by omega, List.take_add_one]
  congr 1
  rw [List.getElem?_eq_getElem (by rw [ints_length]; omega)]
  simp only [ints, List.getElem_map, Option.toList_some]
  rw [nth_get l i.toNat (by omega)]

noncomputable def out17b : List AV × Int × Int → Out (Exit × S)
  | (a, i, k) => .brn (hasI (((ints a).take i.toNat).drop k.toNat) (toInt (nth a i.toNat))) (.one (.ret, sp 25 [(2, .bool false)] [])) (.one (.exit 2, sp 25 [(0, .lst 3 a), (3, .int i)] []))
abbrev st17b (p : List AV × Int × Int) : S := sp 25 [(0, .lst 3 p.1), (3, .int p.2.1), (4, .int p.2.2)] []
def un17b (s : S) : List AV × Int × Int := (toLst (nth s.regs 0), toInt (nth s.regs 3), toInt (nth s.regs 4))
def side17b : List AV × Int × Int → Prop
  | (a, i, k) => a.length ≤ maxI ∧ 0 ≤ i ∧ i < a.length ∧ 0 ≤ k ∧ k ≤ i

theorem x17b (a : List AV) (i k : Int) (I : Nat → S → Prop) (n : Nat) (K : Exit → S → Prop) : (vc F20 8 17 none 0 (loopCode Try.prog 17 5) (sp 25 [(0, .lst 3 a), (3, .int i), (4, .int k)] []) (loopK F20 17 5 0 I n K)) = (
  brn (decide (k < i))
  (cnd (decide ((0 : Int) ≤ i) && decide (i < (↑(List.length a) : Int)))
    (cnd (decide ((0 : Int) ≤ k) && decide (k < (↑(List.length a) : Int)))
      (brn (toInt (nth a (Int.toNat i)) == toInt (nth a (Int.toNat k)))
        (K Exit.ret (sp (25 : Nat) [((2 : Nat), AV.lit (Value.bool false))] []))
        (∃ (m : Nat),
          m < n ∧
            I m
              (sp (25 : Nat)
                [((0 : Nat), AV.lst (3 : Nat) a), ((3 : Nat), AV.lit (Value.int IntKind.i64 i)),
                  ((4 : Nat), AV.lit (Value.int IntKind.i64 (IntKind.wrap IntKind.i64 (k + (1 : Int)))))]
                [])))))
  (K (Exit.exit (2 : Nat))
    (sp (25 : Nat) [((0 : Nat), AV.lst (3 : Nat) a), ((3 : Nat), AV.lit (Value.int IntKind.i64 i))] []))) := by kernel_rfl


theorem l17b : LoopOk F20 8 17 5 (loopOf un17b st17b side17b out17b) := by
  refine loopOf_ok (fun a => a.2.1.toNat - a.2.2.toNat) ?_
  rintro ⟨a, i, k⟩ K ⟨h1, h2, h3, h4, h5⟩ ho
  refine Eq.mpr (x17b a i k _ _ K) ?_
  simp only [maxI] at h1
  simp only [out17b, Out.run, brn_iff, cnd_iff, decide_eq_true_eq, decide_eq_false_iff_not, Bool.and_eq_true] at ho ⊢
  refine ⟨fun hi => ⟨⟨h2, h3⟩, ⟨h4, by omega⟩, fun hx => ?_, fun hx => ?_⟩, fun hi => ?_⟩
  · refine ho.1 ?_
    rw [take_dropI a h4 hi h3, hasI, List.contains_cons, hx]; rfl
  · rw [wrap_ok (by omega) (by omega)]
    refine ⟨_, ?_, (a, i, k + 1), rfl, ⟨by simp only [maxI]; omega, by omega, by omega, by omega, by omega⟩, rfl, ?_⟩
    · simp only; omega
    · rw [take_dropI a h4 hi h3, hasI, List.contains_cons, hx, Bool.false_or] at ho
      simpa only [out17b, Out.run, brn_iff, hasI] using ho
  · refine ho.2 ?_
    rw [List.drop_eq_nil_of_le (by rw [List.length_take, ints_length]; omega)]; rfl

noncomputable def E17 : Env := F20.addLoop 17 5 (loopOf un17b st17b side17b out17b)
theorem e17 : EnvOK E17 := eF20.addLoop mF20 l17b
theorem m17 : EnvMono E17 := mF20.addLoop loopOf_mono

theorem x17a (a : List AV) (i : Int) (I : Nat → S → Prop) (n : Nat) (K : Exit → S → Prop) : (vc E17 8 17 none 0 (loopCode Try.prog 17 2) (sp 25 [(0, .lst 3 a), (3, .int i)] []) (loopK E17 17 2 0 I n K)) = (
  brn (decide (i < (↑(List.length a) : Int)))
  (loopCode (Env.P F20) (17 : Nat) (5 : Nat) = loopCode (Env.P F20) (17 : Nat) (5 : Nat) ∧
    (sp (25 : Nat)
            [((0 : Nat), AV.lst (3 : Nat) a), ((3 : Nat), AV.lit (Value.int IntKind.i64 i)),
              ((4 : Nat), AV.lit (Value.int IntKind.i64 (0 : Int)))]
            [] =
          sp (25 : Nat)
            [((0 : Nat), AV.lst (3 : Nat) a), ((3 : Nat), AV.lit (Value.int IntKind.i64 i)),
              ((4 : Nat), AV.lit (Value.int IntKind.i64 (0 : Int)))]
            [] ∧
        List.length a ≤ (9223372036854775807 : Nat) ∧
          (0 : Int) ≤ i ∧ i < (↑(List.length a) : Int) ∧ (0 : Int) ≤ (0 : Int) ∧ (0 : Int) ≤ i) ∧
      brn (hasI (List.drop (0 : Nat) (List.take (Int.toNat i) (ints a))) (toInt (nth a (Int.toNat i))))
        (K Exit.ret (sp (25 : Nat) [((2 : Nat), AV.lit (Value.bool false))] []))
        (∃ (m : Nat),
          m < n ∧
            I m
              (sp (25 : Nat)
                [((0 : Nat), AV.lst (3 : Nat) a),
                  ((3 : Nat), AV.lit (Value.int IntKind.i64 (IntKind.wrap IntKind.i64 (i + (1 : Int)))))]
                [])))
  (K (Exit.exit (0 : Nat)) (sp (25 : Nat) [] []))) := by kernel_rfl


noncomputable def out17 : List AV × Int → Out (Exit × S)
  | (a, i) => .brn (onceI ((ints a).take i.toNat) ((ints a).drop i.toNat)) (.one (.exit 0, sp 25 [] [])) (.one (.ret, sp 25 [(2, .bool false)] []))
abbrev st17 (p : List AV × Int) : S := sp 25 [(0, .lst 3 p.1), (3, .int p.2)] []
def un17 (s : S) : List AV × Int := (toLst (nth s.regs 0), toInt (nth s.regs 3))
def side17 : List AV × Int → Prop
  | (a, i) => a.length ≤ maxI ∧ 0 ≤ i ∧ i ≤ a.length

theorem l17 : LoopOk E17 8 17 2 (loopOf un17 st17 side17 out17) := by
  refine loopOf_ok (fun a => a.1.length - a.2.toNat) ?_
  rintro ⟨a, i⟩ K ⟨h1, h2, h3⟩ ho
  refine Eq.mpr (x17a a i _ _ K) ?_
  have h1' := h1
  simp only [maxI] at h1
  simp only [out17, Out.run, brn_iff, decide_eq_true_eq, decide_eq_false_iff_not, List.drop_zero] at ho ⊢
  refine ⟨fun hi => ⟨trivial, ⟨trivial, h1, h2, hi, by omega, h2⟩, fun hx => ?_, fun hx => ?_⟩, fun hi => ?_⟩
  · refine ho.2 ?_
    rw [ints_dropI a h2 hi, onceI, hx]; rfl
  · rw [wrap_ok (by omega) (by omega)]
    refine ⟨_, ?_, (a, i + 1), rfl, ⟨h1', by omega, by omega⟩, rfl, ?_⟩
    · simp only; omega
    · rw [ints_dropI a h2 hi, onceI, hx, ← ints_takeI a h2 hi] at ho
      simp only [Bool.not_false, Bool.true_and] at ho
      simpa only [out17, Out.run, brn_iff] using ho
  · refine ho.1 ?_
    rw [ints_dropE a h2 hi]; rfl

noncomputable def D17 : Env := E17.addLoop 17 2 (loopOf un17 st17 side17 out17)
theorem d17 : EnvOK D17 := e17.addLoop m17 l17
theorem dm17 : EnvMono D17 := m17.addLoop loopOf_mono

theorem y17 (a : List AV) (K : AV → List Dn.Obj → Prop) : (funA D17 8 17 [.lst 3 a] [] K) = (
  loopCode (Env.P E17) (17 : Nat) (2 : Nat) = loopCode (Env.P E17) (17 : Nat) (2 : Nat) ∧
  (sp (25 : Nat) [((0 : Nat), AV.lst (3 : Nat) a), ((3 : Nat), AV.lit (Value.int IntKind.i64 (0 : Int)))] [] =
        sp (25 : Nat) [((0 : Nat), AV.lst (3 : Nat) a), ((3 : Nat), AV.lit (Value.int IntKind.i64 (0 : Int)))] [] ∧
      List.length a ≤ (9223372036854775807 : Nat) ∧ (0 : Int) ≤ (0 : Int) ∧ (0 : Int) ≤ (↑(List.length a) : Int)) ∧
    brn (onceI [] (List.drop (0 : Nat) (ints a))) (K (AV.lit (Value.bool true)) []) (K (AV.lit (Value.bool false)) [])) := by kernel_rfl


def g17 : List AV → Option (Bool × AV)
  | [.lst 3 a] => some (decide (a.length ≤ maxI), .bool (onceI [] (ints a)))
  | _ => none

theorem p17 : PureOk D17 8 17 g17 := by
  intro args x h
  unfold g17 at h
  split at h
  · simp only [Option.some.injEq, Prod.mk.injEq, decide_eq_true_eq] at h
    obtain ⟨h1, rfl⟩ := h
    refine ⟨_, rfl, rfl, ?_⟩
    rw [y17]
    refine ⟨rfl, ⟨rfl, h1, by omega, by omega⟩, ?_⟩
    rw [brn_iff]
    exact ⟨fun e => by rw [List.drop_zero] at e; rw [show onceI [] _ = true from e], fun e => by rw [List.drop_zero] at e; rw [show onceI [] _ = false from e]⟩
  · cases h

noncomputable def F17 : Env := D17.addPure 17 g17
theorem eF17 : EnvOK F17 := d17.addPure dm17 p17
theorem mF17 : EnvMono F17 := dm17.addPure

end Go.Proofs.Ytpjkphcfkpcfgaa
