/-
  CoverServes.
-/
import Derived.Test.YtpjkphcfkpcfgaaCvR
namespace Go.Proofs.Ytpjkphcfkpcfgaa
open Go Go.Dn Go.Proofs

structure A7 where
  l : List AV
  s : List AV
  i : Int

def st7 (a : A7) : S := sp 89 [(0, .lst 25 a.l), (1, .lst 3 a.s), (5, .bool true), (6, .int a.i)] []
def side7 (a : A7) : Prop := fitB a.l = true ∧ a.s.length ≤ maxI ∧ 0 ≤ a.i ∧ a.i ≤ a.l.length
def out7 (a : A7) : Out (Exit × S) := .all (fun _ : Bool => True) fun b => .brn b (.one (.ret, sp 89 [(4, .bool true)] [])) (.one (.exit 0, sp 89 [(0, .lst 25 a.l), (1, .lst 3 a.s), (5, .bool true)] []))

theorem x7 (a : A7) (I : Nat → S → Prop) (n : Nat) (K : Exit → S → Prop) : (vc F9 12 7 none 0 (loopCode Try.prog 7 4) (st7 a) (loopK F9 7 4 0 I n K)) = (
  brn (decide (A7.i a < (↑(List.length (A7.l a)) : Int)))
  (cnd (decide ((0 : Int) ≤ A7.i a) && decide (A7.i a < (↑(List.length (A7.l a)) : Int)))
    (brn (decide ((↑(List.length (toLst (nth (A7.l a) (Int.toNat (A7.i a))))) : Int) > (20 : Int)))
      (K Exit.ret (sp (89 : Nat) [((4 : Nat), AV.lit (Value.bool true))] []))
      (cnd (decide ((0 : Int) ≤ A7.i a) && decide (A7.i a < (↑(List.length (A7.l a)) : Int)))
        (cnd (decide (List.length (toLst (nth (A7.l a) (Int.toNat (A7.i a)))) ≤ (9223372036854775807 : Nat)))
          (brn (!onceI [] (ints (toLst (nth (A7.l a) (Int.toNat (A7.i a))))))
            (K Exit.ret (sp (89 : Nat) [((4 : Nat), AV.lit (Value.bool true))] []))
            (brn (decide ((↑(List.length (A7.s a)) : Int) ≤ (20 : Int)))
              (cnd (decide (List.length (A7.s a) ≤ (9223372036854775807 : Nat)))
                (brn (onceI [] (ints (A7.s a)))
                  (cnd (decide ((0 : Int) ≤ A7.i a) && decide (A7.i a < (↑(List.length (A7.l a)) : Int)))
                    (cnd
                      (decide (List.length (toLst (nth (A7.l a) (Int.toNat (A7.i a)))) ≤ (9223372036854775807 : Nat)) &&
                        decide (List.length (A7.s a) ≤ (9223372036854775807 : Nat)))
                      (cnd (decide ((0 : Int) ≤ A7.i a) && decide (A7.i a < (↑(List.length (A7.l a)) : Int)))
                        (cnd
                          (decide
                              (List.length (toLst (nth (A7.l a) (Int.toNat (A7.i a)))) ≤ (9223372036854775807 : Nat)) &&
                            decide (List.length (A7.s a) ≤ (9223372036854775807 : Nat)))
                          (brn
                            (!servesI (ints (toLst (nth (A7.l a) (Int.toNat (A7.i a))))) (ints (A7.s a)) ==
                                servesI (ints (toLst (nth (A7.l a) (Int.toNat (A7.i a))))) (ints (A7.s a)))
                            (K Exit.ret (sp (89 : Nat) [((4 : Nat), AV.lit (Value.bool false))] []))
                            (∃ (m : Nat),
                              m < n ∧
                                I m
                                  (sp (89 : Nat)
                                    [((0 : Nat), AV.lst (25 : Nat) (A7.l a)), ((1 : Nat), AV.lst (3 : Nat) (A7.s a)),
                                      ((5 : Nat), AV.lit (Value.bool true)),
                                      ((6 : Nat),
                                        AV.lit (Value.int IntKind.i64 (IntKind.wrap IntKind.i64 (A7.i a + (1 : Int)))))]
                                    [])))))))
                  (∃ (m : Nat),
                    m < n ∧
                      I m
                        (sp (89 : Nat)
                          [((0 : Nat), AV.lst (25 : Nat) (A7.l a)), ((1 : Nat), AV.lst (3 : Nat) (A7.s a)),
                            ((5 : Nat), AV.lit (Value.bool true)),
                            ((6 : Nat), AV.lit (Value.int IntKind.i64 (IntKind.wrap IntKind.i64 (A7.i a + (1 : Int)))))]
                          []))))
              (∃ (m : Nat),
                m < n ∧
                  I m
                    (sp (89 : Nat)
                      [((0 : Nat), AV.lst (25 : Nat) (A7.l a)), ((1 : Nat), AV.lst (3 : Nat) (A7.s a)),
                        ((5 : Nat), AV.lit (Value.bool true)),
                        ((6 : Nat), AV.lit (Value.int IntKind.i64 (IntKind.wrap IntKind.i64 (A7.i a + (1 : Int)))))]
                      []))))))))
  (K (Exit.exit (0 : Nat))
    (sp (89 : Nat)
      [((0 : Nat), AV.lst (25 : Nat) (A7.l a)), ((1 : Nat), AV.lst (3 : Nat) (A7.s a)),
        ((5 : Nat), AV.lit (Value.bool true))]
      []))) := by kernel_rfl


theorem l7 : LoopOk F9 12 7 4 (loopE 0 st7 side7 out7) := by
  refine loopE_ok (fun a => a.l.length - a.i.toNat) ?_
  rintro ⟨l, s, i⟩ K ⟨h1, h2, h3, h4⟩ ho
  rw [show F9.P = Try.prog from rfl, x7]
  simp only at h1 h2 h3 h4 ⊢
  have hret : K .ret (sp 89 [(4, .bool true)] []) := ho true trivial
  have hex : K (.exit 0) (sp 89 [(0, .lst 25 l), (1, .lst 3 s), (5, .bool true)] []) := ho false trivial
  simp only [maxI] at h2
  have hl := fit_len h1
  simp only [maxI] at hl
  simp only [brn_iff, cnd_iff, decide_eq_true_eq, decide_eq_false_iff_not, Bool.and_eq_true]
  have next : i < l.length → ∃ m, m < l.length - i.toNat ∧ invOf st7 side7 out7 (fun a => a.l.length - a.i.toNat) K m (st7 ⟨l, s, i + 1⟩) := fun hi =>
    ⟨_, by simp only; omega, _, rfl, ⟨h1, h2, by simp only; omega, by simp only; omega⟩, rfl, ho⟩
  refine ⟨fun hi => ?_, fun hi => hex⟩
  have hr := fit_row h1 (i := i.toNat) (by omega)
  simp only [maxI] at hr
  rw [wrap_ok (by omega) (by omega)]
  have c1 : 0 ≤ i ∧ i < l.length := ⟨h3, hi⟩
  refine ⟨c1, fun _ => hret, fun _ => ⟨c1, hr, fun _ => hret, fun _ => ⟨fun _ => ⟨h2, fun _ => ⟨c1, ⟨hr, h2⟩, c1, ⟨hr, h2⟩, fun hx => ?_, fun _ => next hi⟩, fun _ => next hi⟩, fun _ => next hi⟩⟩⟩
  rw [beq_self_eq_true] at hx
  cases hx

noncomputable def E7 : Env := F9.addLoop 7 4 (loopE 0 st7 side7 out7)
theorem e7 : EnvOK E7 := eF9.addLoop mF9 l7
theorem m7 : EnvMono E7 := mF9.addLoop loopE_mono

def stc7 (a : List AV × List AV) : List AV × List Dn.Obj := ([.lst 25 a.1, .lst 3 a.2], [])
theorem y7 (a : List AV × List AV) (K : AV → List Dn.Obj → Prop) : (funA E7 12 7 (stc7 a).1 (stc7 a).2 K) = (
  True ∧
  loopCode (Env.P F9) (7 : Nat) (4 : Nat) = loopCode (Env.P F9) (7 : Nat) (4 : Nat) ∧
    ∃ (a_1 : A7),
      sp (89 : Nat)
            [((0 : Nat), AV.lst (25 : Nat) (List.take (70 : Nat) (Prod.fst a))),
              ((1 : Nat), AV.lst (3 : Nat) (Prod.snd a)), ((5 : Nat), AV.lit (Value.bool true)),
              ((6 : Nat), AV.lit (Value.int IntKind.i64 (0 : Int)))]
            [] =
          sp (89 : Nat)
            [((0 : Nat), AV.lst (25 : Nat) (A7.l a_1)), ((1 : Nat), AV.lst (3 : Nat) (A7.s a_1)),
              ((5 : Nat), AV.lit (Value.bool true)), ((6 : Nat), AV.lit (Value.int IntKind.i64 (A7.i a_1)))]
            [] ∧
        (fitB (A7.l a_1) = true ∧
            List.length (A7.s a_1) ≤ (9223372036854775807 : Nat) ∧
              (0 : Int) ≤ A7.i a_1 ∧ A7.i a_1 ≤ (↑(List.length (A7.l a_1)) : Int)) ∧
          ∀ (y : Bool),
            True →
              brn y (K (AV.lit (Value.bool true)) [])
                (brn (decide ((↑(List.length (A7.s a_1)) : Int) > (20 : Int))) (K (AV.lit (Value.bool true)) [])
                  (cnd (decide (List.length (A7.s a_1) ≤ (9223372036854775807 : Nat)))
                    (brn (!onceI [] (ints (A7.s a_1))) (K (AV.lit (Value.bool true)) [])
                      ((fitB (A7.l a_1) = true ∧ List.length (A7.s a_1) ≤ (9223372036854775807 : Nat)) ∧
                        (fitB (A7.l a_1) = true ∧ List.length (A7.s a_1) ≤ (9223372036854775807 : Nat)) ∧
                          brn
                            (Prod.fst (whichI (rows (A7.l a_1)) (ints (A7.s a_1))) ==
                              Prod.fst (whichI (rows (A7.l a_1)) (ints (A7.s a_1))))
                            (K
                              (AV.lit
                                (Value.bool
                                  (Prod.snd (whichI (rows (A7.l a_1)) (ints (A7.s a_1))) ==
                                    Prod.snd (whichI (rows (A7.l a_1)) (ints (A7.s a_1))))))
                              [])
                            (K (AV.lit (Value.bool false)) [])))))) := by kernel_rfl


theorem fit_take7 {l : List AV} (h : fitB l = true) (n : Nat) : fitB (l.take n) = true := by
  simp only [fitB, Bool.and_eq_true, decide_eq_true_eq, List.all_eq_true] at h ⊢
  exact ⟨by rw [List.length_take]; omega, fun x hx => h.2 x (List.mem_of_mem_take hx)⟩

theorem c7 (l s : List AV) (h1 : fitB l = true) (h2 : s.length ≤ maxI) : funA E7 12 7 [.lst 25 l, .lst 3 s] [] (fun r _ => r = .bool true) := by
  have := y7 (l, s) (fun r _ => r = .bool true)
  rw [show funA E7 12 7 [.lst 25 l, .lst 3 s] [] (fun r _ => r = .bool true) = funA E7 12 7 (stc7 (l, s)).1 (stc7 (l, s)).2 (fun r _ => r = .bool true) from rfl, this]
  have h3 : fitB (List.take 70 l) = true := fit_take7 h1 70
  refine ⟨trivial, rfl, ⟨List.take 70 l, s, 0⟩, rfl, ⟨h3, h2, Int.le_refl _, by simp only; omega⟩, fun y _ => ?_⟩
  have h2' : s.length ≤ 9223372036854775807 := h2
  simp only [brn_iff, cnd_iff, decide_eq_true_eq, beq_self_eq_true]
  exact ⟨fun _ => trivial, fun _ => ⟨fun _ => trivial, fun _ => ⟨h2', fun _ => trivial, fun _ => ⟨⟨h3, h2'⟩, ⟨h3, h2'⟩, fun _ => trivial, fun h => by cases h⟩⟩⟩⟩

theorem sim7 (l s : List AV) (h1 : fitB l = true) (h2 : s.length ≤ maxI) : SimCall Try.prog 7 [.lst 25 l, .lst 3 s] [] (fun r _ => r = .bool true) := fun_sound e7 m7 (c7 l s h1 h2)

end Go.Proofs.Ytpjkphcfkpcfgaa
