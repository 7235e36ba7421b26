import Derived.Test.YtpjkphcfkpcfgaaCvI
/-
  right (ref).
-/
namespace Go.Proofs.Ytpjkphcfkpcfgaa
open Go Go.Dn Go.Proofs

noncomputable def out23c : List AV × Int × Int × Int → Out (Exit × S)
  | (l, c, i, k) => .brn (climbs c (aheadI (toLst (nth l i.toNat)) k) ((ints (toLst (nth l i.toNat))).drop k.toNat)) (.one (.exit 2, sp 97 [(0, .int c), (1, .lst 25 l), (5, .int i)] [])) (.one (.ret, sp 97 [(4, .bool false)] []))
abbrev st23c (p : List AV × Int × Int × Int) : S := sp 97 [(0, .int p.2.1), (1, .lst 25 p.1), (5, .int p.2.2.1), (6, .int p.2.2.2)] []
def un23c (s : S) : List AV × Int × Int × Int := (toLst (nth s.regs 1), toInt (nth s.regs 0), toInt (nth s.regs 5), toInt (nth s.regs 6))
def side23c : List AV × Int × Int × Int → Prop
  | (l, _, i, k) => fitB l = true ∧ 0 ≤ i ∧ i < l.length ∧ 0 ≤ k ∧ k ≤ (toLst (nth l i.toNat)).length

theorem x23c (l : List AV) (c i k : Int) (I : Nat → S → Prop) (n : Nat) (K : Exit → S → Prop) : (vc F10 8 23 none 0 (loopCode Try.prog 23 9) (sp 97 [(0, .int c), (1, .lst 25 l), (5, .int i), (6, .int k)] []) (loopK F10 23 9 0 I n K)) = (
  cnd (decide ((0 : Int) ≤ i) && decide (i < (↑(List.length l) : Int)))
  (brn (decide (k < (↑(List.length (toLst (nth l (Int.toNat i)))) : Int)))
    (cnd (decide ((0 : Int) ≤ i) && decide (i < (↑(List.length l) : Int)))
      (cnd (decide ((0 : Int) ≤ k) && decide (k < (↑(List.length (toLst (nth l (Int.toNat i)))) : Int)))
        (brn (decide (toInt (nth (toLst (nth l (Int.toNat i))) (Int.toNat k)) < (0 : Int)))
          (K Exit.ret (sp (97 : Nat) [((4 : Nat), AV.lit (Value.bool false))] []))
          (cnd (decide ((0 : Int) ≤ i) && decide (i < (↑(List.length l) : Int)))
            (cnd (decide ((0 : Int) ≤ k) && decide (k < (↑(List.length (toLst (nth l (Int.toNat i)))) : Int)))
              (brn (decide (toInt (nth (toLst (nth l (Int.toNat i))) (Int.toNat k)) ≥ c))
                (K Exit.ret (sp (97 : Nat) [((4 : Nat), AV.lit (Value.bool false))] []))
                (brn (decide (k > (0 : Int)))
                  (cnd (decide ((0 : Int) ≤ i) && decide (i < (↑(List.length l) : Int)))
                    (cnd
                      (decide ((0 : Int) ≤ IntKind.wrap IntKind.i64 (k - (1 : Int))) &&
                        decide
                          (IntKind.wrap IntKind.i64 (k - (1 : Int)) <
                            (↑(List.length (toLst (nth l (Int.toNat i)))) : Int)))
                      (cnd (decide ((0 : Int) ≤ i) && decide (i < (↑(List.length l) : Int)))
                        (cnd
                          (decide ((0 : Int) ≤ k) && decide (k < (↑(List.length (toLst (nth l (Int.toNat i)))) : Int)))
                          (brn
                            (decide
                              (toInt
                                  (nth (toLst (nth l (Int.toNat i)))
                                    (Int.toNat (IntKind.wrap IntKind.i64 (k - (1 : Int))))) ≥
                                toInt (nth (toLst (nth l (Int.toNat i))) (Int.toNat k))))
                            (K Exit.ret (sp (97 : Nat) [((4 : Nat), AV.lit (Value.bool false))] []))
                            (∃ (m : Nat),
                              m < n ∧
                                I m
                                  (sp (97 : Nat)
                                    [((0 : Nat), AV.lit (Value.int IntKind.i64 c)), ((1 : Nat), AV.lst (25 : Nat) l),
                                      ((5 : Nat), AV.lit (Value.int IntKind.i64 i)),
                                      ((6 : Nat),
                                        AV.lit (Value.int IntKind.i64 (IntKind.wrap IntKind.i64 (k + (1 : Int)))))]
                                    [])))))))
                  (∃ (m : Nat),
                    m < n ∧
                      I m
                        (sp (97 : Nat)
                          [((0 : Nat), AV.lit (Value.int IntKind.i64 c)), ((1 : Nat), AV.lst (25 : Nat) l),
                            ((5 : Nat), AV.lit (Value.int IntKind.i64 i)),
                            ((6 : Nat), AV.lit (Value.int IntKind.i64 (IntKind.wrap IntKind.i64 (k + (1 : Int)))))]
                          [])))))))))
    (K (Exit.exit (2 : Nat))
      (sp (97 : Nat)
        [((0 : Nat), AV.lit (Value.int IntKind.i64 c)), ((1 : Nat), AV.lst (25 : Nat) l),
          ((5 : Nat), AV.lit (Value.int IntKind.i64 i))]
        [])))) := by kernel_rfl


theorem l23c : LoopOk F10 8 23 9 (loopOf un23c st23c side23c out23c) := by
  refine loopOf_ok (fun a => (toLst (nth a.1 a.2.2.1.toNat)).length - a.2.2.2.toNat) ?_
  rintro ⟨l, c, i, k⟩ K ⟨h1, h2, h3, h4, h5⟩ ho
  refine Eq.mpr (x23c l c i k _ _ K) ?_
  have hr := fit_row h1 (i := i.toNat) (by omega)
  simp only [maxI] at hr
  simp only [out23c, Out.run, brn_iff, cnd_iff, decide_eq_true_eq, decide_eq_false_iff_not, Bool.and_eq_true] at ho ⊢
  generalize ha : toLst (nth l i.toNat) = a at ho hr h5 ⊢
  have hi : 0 ≤ i ∧ i < l.length := ⟨h2, h3⟩
  refine ⟨hi, fun hk => ⟨hi, ⟨h4, hk⟩, fun hx => ?_, fun hx => ⟨hi, ⟨h4, hk⟩, fun hy => ?_, fun hy => ?_⟩⟩, fun hk => ?_⟩
  · refine ho.2 ?_
    rw [ints_dropI a h4 hk]
    simp only [climbs, decide_eq_false (show ¬ 0 ≤ toInt (nth a k.toNat) by omega), Bool.false_and]
  · refine ho.2 ?_
    rw [ints_dropI a h4 hk]
    simp only [climbs, decide_eq_false (show ¬ toInt (nth a k.toNat) < c by omega), Bool.false_and, Bool.and_false]
  · have next : (aheadI a k < toInt (nth a k.toNat)) → ∃ m, m < a.length - k.toNat ∧ invOf st23c side23c out23c (fun a => (toLst (nth a.1 a.2.2.1.toNat)).length - a.2.2.2.toNat) K m (sp 97 [(0, .int c), (1, .lst 25 l), (5, .int i), (6, .int (k + 1))] []) := by
      intro hlt
      refine ⟨_, ?_, (l, c, i, k + 1), rfl, ⟨h1, h2, h3, by omega, by rw [ha]; omega⟩, rfl, ?_⟩
      · simp only [ha]; omega
      · rw [ints_dropI a h4 hk] at ho
        simp only [climbs, decide_eq_true (show 0 ≤ toInt (nth a k.toNat) by omega), decide_eq_true (show toInt (nth a k.toNat) < c by omega), decide_eq_true hlt, Bool.true_and] at ho
        simp only [out23c, Out.run, brn_iff, ha, ahead_next a h4]
        exact ho
    rw [show IntKind.wrap .i64 (k + 1) = k + 1 from wrap_ok (by omega) (by omega)]
    refine ⟨fun hz => ?_, fun hz => next (by unfold aheadI; rw [if_neg (by omega)]; omega)⟩
    rw [show IntKind.wrap .i64 (k - 1) = k - 1 from wrap_down (by omega) (by omega)]
    refine ⟨hi, ⟨by omega, by omega⟩, hi, ⟨h4, hk⟩, fun hw => ?_, fun hw => next (by unfold aheadI; rw [if_pos (by omega)]; omega)⟩
    refine ho.2 ?_
    rw [ints_dropI a h4 hk]
    simp only [climbs, decide_eq_false (show ¬ aheadI a k < toInt (nth a k.toNat) by unfold aheadI; rw [if_pos (by omega)]; omega), Bool.false_and, Bool.and_false]
  · refine ho.1 ?_
    rw [ints_dropE a h4 hk]; rfl

noncomputable def E23c : Env := F10.addLoop 23 9 (loopOf un23c st23c side23c out23c)
theorem e23c : EnvOK E23c := eF10.addLoop mF10 l23c
theorem m23c : EnvMono E23c := mF10.addLoop loopOf_mono

theorem sameI_comm (a b : List Int) : sameI a b = sameI b a := by
  simp only [sameI, eq_comm]

theorem rows_take_dropI (l : List AV) {i k : Int} (h0 : 0 ≤ k) (hk : k < i) (hi : i < l.length) :
    ((rows l).take i.toNat).drop k.toNat = ints (toLst (nth l k.toNat)) :: ((rows l).take i.toNat).drop (k + 1).toNat := by
  rw [List.drop_eq_getElem_cons (by rw [List.length_take, rows_length]; omega)]
  congr 1
  · simp only [List.getElem_take, rows, List.getElem_map]
    rw [nth_get l k.toNat (by omega)]
  · congr 1; omega

noncomputable def out23b : List AV × Int × Int × Int → Out (Exit × S)
  | (l, c, i, k) => .brn ((((rows l).take i.toNat).drop k.toNat).any (sameI (ints (toLst (nth l i.toNat))))) (.one (.ret, sp 97 [(4, .bool false)] [])) (.one (.exit 4, sp 97 [(0, .int c), (1, .lst 25 l), (5, .int i)] []))
abbrev st23b (p : List AV × Int × Int × Int) : S := sp 97 [(0, .int p.2.1), (1, .lst 25 p.1), (5, .int p.2.2.1), (7, .int p.2.2.2)] []
def un23b (s : S) : List AV × Int × Int × Int := (toLst (nth s.regs 1), toInt (nth s.regs 0), toInt (nth s.regs 5), toInt (nth s.regs 7))
def side23b : List AV × Int × Int × Int → Prop
  | (l, _, i, k) => fitB l = true ∧ 0 ≤ i ∧ i < l.length ∧ 0 ≤ k ∧ k ≤ i

theorem x23b (l : List AV) (c i k : Int) (I : Nat → S → Prop) (n : Nat) (K : Exit → S → Prop) : (vc E23c 8 23 none 0 (loopCode Try.prog 23 14) (sp 97 [(0, .int c), (1, .lst 25 l), (5, .int i), (7, .int k)] []) (loopK E23c 23 14 0 I n K)) = (
  brn (decide (k < i))
  (cnd (decide ((0 : Int) ≤ k) && decide (k < (↑(List.length l) : Int)))
    (cnd (decide ((0 : Int) ≤ i) && decide (i < (↑(List.length l) : Int)))
      (cnd
        (decide (List.length (toLst (nth l (Int.toNat k))) ≤ (9223372036854775807 : Nat)) &&
          decide (List.length (toLst (nth l (Int.toNat i))) ≤ (9223372036854775807 : Nat)))
        (brn (sameI (ints (toLst (nth l (Int.toNat k)))) (ints (toLst (nth l (Int.toNat i)))))
          (K Exit.ret (sp (97 : Nat) [((4 : Nat), AV.lit (Value.bool false))] []))
          (∃ (m : Nat),
            m < n ∧
              I m
                (sp (97 : Nat)
                  [((0 : Nat), AV.lit (Value.int IntKind.i64 c)), ((1 : Nat), AV.lst (25 : Nat) l),
                    ((5 : Nat), AV.lit (Value.int IntKind.i64 i)),
                    ((7 : Nat), AV.lit (Value.int IntKind.i64 (IntKind.wrap IntKind.i64 (k + (1 : Int)))))]
                  []))))))
  (K (Exit.exit (4 : Nat))
    (sp (97 : Nat)
      [((0 : Nat), AV.lit (Value.int IntKind.i64 c)), ((1 : Nat), AV.lst (25 : Nat) l),
        ((5 : Nat), AV.lit (Value.int IntKind.i64 i))]
      []))) := by kernel_rfl


theorem l23b : LoopOk E23c 8 23 14 (loopOf un23b st23b side23b out23b) := by
  refine loopOf_ok (fun a => a.2.2.1.toNat - a.2.2.2.toNat) ?_
  rintro ⟨l, c, i, k⟩ K ⟨h1, h2, h3, h4, h5⟩ ho
  refine Eq.mpr (x23b l c i k _ _ K) ?_
  have hl := fit_len h1
  simp only [maxI] at hl
  simp only [out23b, Out.run, brn_iff, cnd_iff, decide_eq_true_eq, decide_eq_false_iff_not, Bool.and_eq_true] at ho ⊢
  refine ⟨fun hk => ⟨⟨h4, by omega⟩, ⟨h2, h3⟩, ⟨fit_row h1 (by omega), fit_row h1 (by omega)⟩, fun hx => ?_, fun hx => ?_⟩, fun hk => ?_⟩
  · refine ho.1 ?_
    rw [rows_take_dropI l h4 hk h3, List.any_cons, sameI_comm, hx]; rfl
  · rw [wrap_ok (by omega) (by omega)]
    refine ⟨_, ?_, (l, c, i, k + 1), rfl, ⟨h1, by omega, by omega, by omega, by omega⟩, rfl, ?_⟩
    · simp only; omega
    · rw [rows_take_dropI l h4 hk h3, List.any_cons, sameI_comm, hx, Bool.false_or] at ho
      simpa only [out23b, Out.run, brn_iff] using ho
  · refine ho.2 ?_
    rw [List.drop_eq_nil_of_le (by rw [List.length_take, rows_length]; omega)]; rfl

noncomputable def E23b : Env := E23c.addLoop 23 14 (loopOf un23b st23b side23b out23b)
theorem e23b : EnvOK E23b := e23c.addLoop m23c l23b
theorem m23b : EnvMono E23b := m23c.addLoop loopOf_mono

theorem x23 (l : List AV) (c i : Int) (I : Nat → S → Prop) (n : Nat) (K : Exit → S → Prop) : (vc E23b 8 23 none 0 (loopCode Try.prog 23 4) (sp 97 [(0, .int c), (1, .lst 25 l), (5, .int i)] []) (loopK E23b 23 4 0 I n K)) = (
  brn (decide (i < (↑(List.length l) : Int)))
  (cnd (decide ((0 : Int) ≤ i) && decide (i < (↑(List.length l) : Int)))
    (brn ((↑(List.length (toLst (nth l (Int.toNat i)))) : Int) == (0 : Int))
      (K Exit.ret (sp (97 : Nat) [((4 : Nat), AV.lit (Value.bool false))] []))
      (loopCode (Env.P F10) (23 : Nat) (9 : Nat) = loopCode (Env.P F10) (23 : Nat) (9 : Nat) ∧
        (sp (97 : Nat)
                [((0 : Nat), AV.lit (Value.int IntKind.i64 c)), ((1 : Nat), AV.lst (25 : Nat) l),
                  ((5 : Nat), AV.lit (Value.int IntKind.i64 i)), ((6 : Nat), AV.lit (Value.int IntKind.i64 (0 : Int)))]
                [] =
              sp (97 : Nat)
                [((0 : Nat), AV.lit (Value.int IntKind.i64 c)), ((1 : Nat), AV.lst (25 : Nat) l),
                  ((5 : Nat), AV.lit (Value.int IntKind.i64 i)), ((6 : Nat), AV.lit (Value.int IntKind.i64 (0 : Int)))]
                [] ∧
            fitB l = true ∧
              (0 : Int) ≤ i ∧
                i < (↑(List.length l) : Int) ∧
                  (0 : Int) ≤ (0 : Int) ∧ (0 : Int) ≤ (↑(List.length (toLst (nth l (Int.toNat i)))) : Int)) ∧
          brn
            (climbs c (aheadI (toLst (nth l (Int.toNat i))) (0 : Int))
              (List.drop (0 : Nat) (ints (toLst (nth l (Int.toNat i))))))
            (loopCode (Env.P E23c) (23 : Nat) (14 : Nat) = loopCode (Env.P E23c) (23 : Nat) (14 : Nat) ∧
              (sp (97 : Nat)
                      [((0 : Nat), AV.lit (Value.int IntKind.i64 c)), ((1 : Nat), AV.lst (25 : Nat) l),
                        ((5 : Nat), AV.lit (Value.int IntKind.i64 i)),
                        ((7 : Nat), AV.lit (Value.int IntKind.i64 (0 : Int)))]
                      [] =
                    sp (97 : Nat)
                      [((0 : Nat), AV.lit (Value.int IntKind.i64 c)), ((1 : Nat), AV.lst (25 : Nat) l),
                        ((5 : Nat), AV.lit (Value.int IntKind.i64 i)),
                        ((7 : Nat), AV.lit (Value.int IntKind.i64 (0 : Int)))]
                      [] ∧
                  fitB l = true ∧
                    (0 : Int) ≤ i ∧ i < (↑(List.length l) : Int) ∧ (0 : Int) ≤ (0 : Int) ∧ (0 : Int) ≤ i) ∧
                brn
                  (List.any (List.drop (0 : Nat) (List.take (Int.toNat i) (rows l)))
                    (sameI (ints (toLst (nth l (Int.toNat i))))))
                  (K Exit.ret (sp (97 : Nat) [((4 : Nat), AV.lit (Value.bool false))] []))
                  (∃ (m : Nat),
                    m < n ∧
                      I m
                        (sp (97 : Nat)
                          [((0 : Nat), AV.lit (Value.int IntKind.i64 c)), ((1 : Nat), AV.lst (25 : Nat) l),
                            ((5 : Nat), AV.lit (Value.int IntKind.i64 (IntKind.wrap IntKind.i64 (i + (1 : Int)))))]
                          [])))
            (K Exit.ret (sp (97 : Nat) [((4 : Nat), AV.lit (Value.bool false))] [])))))
  (K (Exit.exit (0 : Nat)) (sp (97 : Nat) [] []))) := by kernel_rfl


noncomputable def out23 : List AV × Int × Int → Out (Exit × S)
  | (l, c, i) => .brn (setsOk c ((rows l).take i.toNat) ((rows l).drop i.toNat)) (.one (.exit 0, sp 97 [] [])) (.one (.ret, sp 97 [(4, .bool false)] []))
abbrev st23 (p : List AV × Int × Int) : S := sp 97 [(0, .int p.2.1), (1, .lst 25 p.1), (5, .int p.2.2)] []
def un23 (s : S) : List AV × Int × Int := (toLst (nth s.regs 1), toInt (nth s.regs 0), toInt (nth s.regs 5))

theorem l23 : LoopOk E23b 8 23 4 (loopOf un23 st23 side21 out23) := by
  refine loopOf_ok (fun a => a.1.length - a.2.2.toNat) ?_
  rintro ⟨l, c, i⟩ K ⟨h1, h2, h3⟩ ho
  refine Eq.mpr (x23 l c i _ _ K) ?_
  have hl := fit_len h1
  simp only [maxI] at hl
  simp only [out23, Out.run, brn_iff, cnd_iff, decide_eq_true_eq, decide_eq_false_iff_not, Bool.and_eq_true, List.drop_zero, beq_iff_eq, beq_eq_false_iff_ne, ne_eq] at ho ⊢
  refine ⟨fun hi => ⟨⟨h2, hi⟩, fun hx => ?_, fun hx => ⟨trivial, ⟨trivial, h1, h2, hi, by omega, by omega⟩, fun hc => ⟨trivial, ⟨trivial, h1, h2, hi, by omega, h2⟩, fun hy => ?_, fun hy => ?_⟩, fun hc => ?_⟩⟩, fun hi => ?_⟩
  · refine ho.2 ?_
    rw [rows_dropI l h2 hi, setsOk, isSetI, ints_length, decide_eq_false (show ¬ 0 < (toLst (nth l i.toNat)).length by omega), Bool.and_false]; rfl
  · refine ho.2 ?_
    rw [rows_dropI l h2 hi, setsOk, hy, Bool.not_true, Bool.false_and, Bool.and_false]
  · rw [wrap_ok (by omega) (by omega)]
    refine ⟨_, ?_, (l, c, i + 1), rfl, ⟨h1, by omega, by omega⟩, rfl, ?_⟩
    · simp only; omega
    · have hs : isSetI c (ints (toLst (nth l i.toNat))) = true := by
        rw [isSetI, ints_length, show climbs c (-1) (ints (toLst (nth l i.toNat))) = true from hc, decide_eq_true (show 0 < (toLst (nth l i.toNat)).length by omega)]; rfl
      rw [rows_dropI l h2 hi, setsOk, hs, hy, ← rows_takeI l h2 hi] at ho
      simp only [Bool.not_false, Bool.true_and] at ho
      simpa only [out23, Out.run, brn_iff] using ho
  · refine ho.2 ?_
    rw [rows_dropI l h2 hi, setsOk, isSetI, show climbs c (-1) (ints (toLst (nth l i.toNat))) = false from hc, Bool.false_and, Bool.false_and]
  · refine ho.1 ?_
    rw [rows_dropE l h2 hi]; rfl

noncomputable def E23 : Env := E23b.addLoop 23 4 (loopOf un23 st23 side21 out23)
theorem e23 : EnvOK E23 := e23b.addLoop m23b l23
theorem m23 : EnvMono E23 := m23b.addLoop loopOf_mono

theorem y23 (l : List AV) (c : Int) (K : AV → List Dn.Obj → Prop) : (funA E23 8 23 [.int c, .lst 25 l] [] K) = (
  brn (decide (c < (1 : Int))) (K (AV.lit (Value.bool false)) [])
  (brn (decide (c > (8 : Int))) (K (AV.lit (Value.bool false)) [])
    (brn (decide ((↑(List.length l) : Int) > (60 : Int))) (K (AV.lit (Value.bool false)) [])
      (loopCode (Env.P E23b) (23 : Nat) (4 : Nat) = loopCode (Env.P E23b) (23 : Nat) (4 : Nat) ∧
        (sp (97 : Nat)
                [((0 : Nat), AV.lit (Value.int IntKind.i64 c)), ((1 : Nat), AV.lst (25 : Nat) l),
                  ((5 : Nat), AV.lit (Value.int IntKind.i64 (0 : Int)))]
                [] =
              sp (97 : Nat)
                [((0 : Nat), AV.lit (Value.int IntKind.i64 c)), ((1 : Nat), AV.lst (25 : Nat) l),
                  ((5 : Nat), AV.lit (Value.int IntKind.i64 (0 : Int)))]
                [] ∧
            fitB l = true ∧ (0 : Int) ≤ (0 : Int) ∧ (0 : Int) ≤ (↑(List.length l) : Int)) ∧
          brn (setsOk c [] (List.drop (0 : Nat) (rows l))) (K (AV.lit (Value.bool true)) [])
            (K (AV.lit (Value.bool false)) []))))) := by kernel_rfl


theorem p23 : PureOk E23 8 23 g21 := by
  intro args x h
  unfold g21 at h
  split at h
  · rename_i c l
    simp only [Option.some.injEq, Prod.mk.injEq] at h
    obtain ⟨h1, rfl⟩ := h
    refine ⟨_, rfl, rfl, ?_⟩
    rw [y23]
    simp only [brn_iff, decide_eq_true_eq, decide_eq_false_iff_not, List.drop_zero]
    simp only [rightI, rows_length]
    refine ⟨fun e => ?_, fun e => ⟨fun e2 => ?_, fun e2 => ⟨fun e3 => ?_, fun e3 => ⟨trivial, ⟨trivial, h1, by omega, by omega⟩, fun e4 => ?_, fun e4 => ?_⟩⟩⟩⟩
    · rw [decide_eq_false (show ¬ 1 ≤ c by omega)]; rfl
    · rw [decide_eq_false (show ¬ c ≤ 8 by omega), Bool.false_and, Bool.and_false]
    · rw [decide_eq_false (show ¬ l.length ≤ 60 by omega), Bool.false_and, Bool.and_false, Bool.and_false]
    · rw [e4, decide_eq_true (show 1 ≤ c by omega), decide_eq_true (show c ≤ 8 by omega), decide_eq_true (show l.length ≤ 60 by omega)]; rfl
    · rw [e4, Bool.and_false, Bool.and_false, Bool.and_false]
  · cases h

noncomputable def F23 : Env := E23.addPure 23 g21
theorem eF23 : EnvOK F23 := e23.addPure m23 p23
theorem mF23 : EnvMono F23 := m23.addPure

end Go.Proofs.Ytpjkphcfkpcfgaa
