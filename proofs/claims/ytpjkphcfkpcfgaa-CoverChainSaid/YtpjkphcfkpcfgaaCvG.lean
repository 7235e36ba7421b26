import Derived.Test.YtpjkphcfkpcfgaaCvF
/-
  Which (cover, ref), cut.
-/
namespace Go.Proofs.Ytpjkphcfkpcfgaa
open Go Go.Dn Go.Proofs

/-- The first of some orders that serves a set. -/
def whichI (l : List (List Int)) (a : List Int) : Int × Bool :=
  if l.any fun o => servesI o a then ((l.findIdx fun o => servesI o a : Nat), true) else (0, false)

def pre19 : List AV → Prop
  | [.lst 25 l, .lst 3 a] => fitB l = true ∧ a.length ≤ maxI
  | _ => False
noncomputable def out19 : List AV → Out AV
  | [.lst 25 l, .lst 3 a] => .one (.tup [.int (whichI (rows l) (ints a)).1, .bool (whichI (rows l) (ints a)).2])
  | _ => .all (fun _ : Nat => False) fun _ => .one .junk

theorem y19 (l a : List AV) (K : AV → List Dn.Obj → Prop) : (funA F21 8 19 [.lst 25 l, .lst 3 a] [] K) = (
  loopCode (Env.P F31) (29 : Nat) (2 : Nat) = loopCode (Env.P F31) (29 : Nat) (2 : Nat) ∧
  (sp (19 : Nat)
          [((0 : Nat), AV.lst (25 : Nat) l), ((1 : Nat), AV.clo (30 : Nat) [AV.ptr (0 : Nat) (0 : Nat) [] (0 : Nat)]),
            ((7 : Nat), AV.lit (Value.int IntKind.i64 (↑(List.length l) : Int))),
            ((8 : Nat), AV.lit (Value.int IntKind.i64 (0 : Int)))]
          [Obj.box (25 : Nat) (AV.lst (3 : Nat) a)] =
        sp (19 : Nat)
          [((0 : Nat), AV.lst (25 : Nat) l), ((1 : Nat), AV.clo (30 : Nat) [AV.ptr (0 : Nat) (0 : Nat) [] (0 : Nat)]),
            ((7 : Nat), AV.lit (Value.int IntKind.i64 (↑(List.length l) : Int))),
            ((8 : Nat), AV.lit (Value.int IntKind.i64 (0 : Int)))]
          [Obj.box (25 : Nat) (AV.lst (3 : Nat) a)] ∧
      (fitB l = true ∧ List.length a ≤ (9223372036854775807 : Nat)) ∧
        (0 : Int) ≤ (0 : Int) ∧ (0 : Int) ≤ (↑(List.length l) : Int)) ∧
    brn (List.any (List.drop (0 : Nat) (rows l)) fun (o : List Int) => servesI o (ints a))
      (K
        (AV.tup
          [AV.lit
              (Value.int IntKind.i64
                (if
                    (0 : Int) >
                      (0 : Int) +
                        (↑(List.findIdx (fun (o : List Int) => servesI o (ints a)) (List.drop (0 : Nat) (rows l))) :
                          Int) then
                  (0 : Int)
                else
                  (0 : Int) +
                    (↑(List.findIdx (fun (o : List Int) => servesI o (ints a)) (List.drop (0 : Nat) (rows l))) : Int))),
            AV.lit (Value.bool true)])
        [])
      (K (AV.tup [AV.lit (Value.int IntKind.i64 (0 : Int)), AV.lit (Value.bool false)]) [])) := by kernel_rfl


theorem c19 : CallOk F21 8 19 (callSp pre19 out19) := by
  intro args st K h
  cases st with
  | cons _ _ => exact h.elim
  | nil =>
    obtain ⟨h1, h2⟩ := h
    unfold pre19 at h1
    split at h1
    · rename_i l a
      have h2' : K (.tup [.int (whichI (rows l) (ints a)).1, .bool (whichI (rows l) (ints a)).2]) [] := h2
      rw [y19]
      refine ⟨rfl, ⟨rfl, h1, by omega, by omega⟩, ?_⟩
      rw [brn_iff]
      simp only [List.drop_zero]
      refine ⟨fun e => ?_, fun e => ?_⟩
      · simp only [whichI, e, if_true] at h2'
        rw [if_neg (by omega), Int.zero_add]
        exact h2'
      · simp only [whichI, e, if_false, Bool.false_eq_true] at h2'
        exact h2'
    · exact h1.elim

noncomputable def F19 : Env := F21.addCall 19 (callSp pre19 out19)
theorem eF19 : EnvOK F19 := eF21.addCall mF21 c19
theorem mF19 : EnvMono F19 := mF21.addCall callSp_mono

noncomputable def out20 : List AV × List AV × Int → Out (Exit × S)
  | (l, a, i) => .brn (((rows l).drop i.toNat).any fun o => servesI o (ints a)) (.one (.ret, sp 22 [(4, .int (i + ((rows l).drop i.toNat).findIdx fun o => servesI o (ints a))), (5, .bool true)] [])) (.one (.exit 0, sp 22 [] []))
abbrev st20 (p : List AV × List AV × Int) : S := sp 22 [(0, .lst 25 p.1), (1, .lst 3 p.2.1), (6, .int p.2.2)] []
def un20 (s : S) : List AV × List AV × Int := (toLst (nth s.regs 0), toLst (nth s.regs 1), toInt (nth s.regs 6))

theorem x20 (l a : List AV) (i : Int) (I : Nat → S → Prop) (n : Nat) (K : Exit → S → Prop) : (vc F19 8 20 none 0 (loopCode Try.prog 20 2) (sp 22 [(0, .lst 25 l), (1, .lst 3 a), (6, .int i)] []) (loopK F19 20 2 0 I n K)) = (
  brn (decide (i < (↑(List.length l) : Int)))
  (cnd (decide ((0 : Int) ≤ i) && decide (i < (↑(List.length l) : Int)))
    (cnd
      (decide (List.length (toLst (nth l (Int.toNat i))) ≤ (9223372036854775807 : Nat)) &&
        decide (List.length a ≤ (9223372036854775807 : Nat)))
      (brn (servesI (ints (toLst (nth l (Int.toNat i)))) (ints a))
        (K Exit.ret
          (sp (22 : Nat) [((4 : Nat), AV.lit (Value.int IntKind.i64 i)), ((5 : Nat), AV.lit (Value.bool true))] []))
        (∃ (m : Nat),
          m < n ∧
            I m
              (sp (22 : Nat)
                [((0 : Nat), AV.lst (25 : Nat) l), ((1 : Nat), AV.lst (3 : Nat) a),
                  ((6 : Nat), AV.lit (Value.int IntKind.i64 (IntKind.wrap IntKind.i64 (i + (1 : Int)))))]
                [])))))
  (K (Exit.exit (0 : Nat)) (sp (22 : Nat) [] []))) := by kernel_rfl


theorem l20 : LoopOk F19 8 20 2 (loopOf un20 st20 side29 out20) := by
  refine loopOf_ok (fun a => a.1.length - a.2.2.toNat) ?_
  rintro ⟨l, a, i⟩ K ⟨⟨h1, h0⟩, h2, h3⟩ ho
  refine Eq.mpr (x20 l a i _ _ K) ?_
  have hl := fit_len h1
  simp only [maxI] at hl
  simp only [out20, Out.run, brn_iff, cnd_iff, decide_eq_true_eq, decide_eq_false_iff_not, Bool.and_eq_true] at ho ⊢
  refine ⟨fun hi => ⟨⟨h2, hi⟩, ⟨fit_row h1 (by omega), h0⟩, fun hx => ?_, fun hx => ?_⟩, fun hi => ?_⟩
  · have := ho.1 (by rw [rows_dropI l h2 hi, List.any_cons, hx]; rfl)
    rw [rows_dropI l h2 hi, List.findIdx_cons, hx] at this
    simpa using this
  · rw [wrap_ok (by omega) (by omega)]
    refine ⟨_, ?_, (l, a, i + 1), rfl, ⟨⟨h1, h0⟩, by omega, by omega⟩, rfl, ?_⟩
    · simp only; omega
    · rw [rows_dropI l h2 hi, List.any_cons, List.findIdx_cons, hx] at ho
      simp only [out20, Out.run, brn_iff]
      simp only [Bool.false_or, cond_false] at ho
      refine ⟨fun e => ?_, ho.2⟩
      have := ho.1 e
      rwa [show i + ((List.findIdx (fun o => servesI o (ints a)) (List.drop (i + 1).toNat (rows l)) + 1 : Nat) : Int) = i + 1 + (List.findIdx (fun o => servesI o (ints a)) (List.drop (i + 1).toNat (rows l)) : Nat) by omega] at this
  · refine ho.2 ?_
    rw [rows_dropE l h2 hi]; rfl

noncomputable def E20 : Env := F19.addLoop 20 2 (loopOf un20 st20 side29 out20)
theorem e20 : EnvOK E20 := eF19.addLoop mF19 l20
theorem m20 : EnvMono E20 := mF19.addLoop loopOf_mono

theorem y20 (l a : List AV) (K : AV → List Dn.Obj → Prop) : (funA E20 8 20 [.lst 25 l, .lst 3 a] [] K) = (
  loopCode (Env.P F19) (20 : Nat) (2 : Nat) = loopCode (Env.P F19) (20 : Nat) (2 : Nat) ∧
  (sp (22 : Nat)
          [((0 : Nat), AV.lst (25 : Nat) l), ((1 : Nat), AV.lst (3 : Nat) a),
            ((6 : Nat), AV.lit (Value.int IntKind.i64 (0 : Int)))]
          [] =
        sp (22 : Nat)
          [((0 : Nat), AV.lst (25 : Nat) l), ((1 : Nat), AV.lst (3 : Nat) a),
            ((6 : Nat), AV.lit (Value.int IntKind.i64 (0 : Int)))]
          [] ∧
      (fitB l = true ∧ List.length a ≤ (9223372036854775807 : Nat)) ∧
        (0 : Int) ≤ (0 : Int) ∧ (0 : Int) ≤ (↑(List.length l) : Int)) ∧
    brn (List.any (List.drop (0 : Nat) (rows l)) fun (o : List Int) => servesI o (ints a))
      (K
        (AV.tup
          [AV.lit
              (Value.int IntKind.i64
                ((0 : Int) +
                  (↑(List.findIdx (fun (o : List Int) => servesI o (ints a)) (List.drop (0 : Nat) (rows l))) : Int))),
            AV.lit (Value.bool true)])
        [])
      (K (AV.tup [AV.lit (Value.int IntKind.i64 (0 : Int)), AV.lit (Value.bool false)]) [])) := by kernel_rfl


theorem c20 : CallOk E20 8 20 (callSp pre19 out19) := by
  intro args st K h
  cases st with
  | cons _ _ => exact h.elim
  | nil =>
    obtain ⟨h1, h2⟩ := h
    unfold pre19 at h1
    split at h1
    · rename_i l a
      have h2' : K (.tup [.int (whichI (rows l) (ints a)).1, .bool (whichI (rows l) (ints a)).2]) [] := h2
      rw [y20]
      refine ⟨rfl, ⟨rfl, h1, by omega, by omega⟩, ?_⟩
      rw [brn_iff]
      simp only [List.drop_zero]
      refine ⟨fun e => ?_, fun e => ?_⟩
      · simp only [whichI, e, if_true] at h2'
        rw [Int.zero_add]
        exact h2'
      · simp only [whichI, e, if_false, Bool.false_eq_true] at h2'
        exact h2'
    · exact h1.elim

noncomputable def F20 : Env := E20.addCall 20 (callSp pre19 out19)
theorem eF20 : EnvOK F20 := e20.addCall m20 c20
theorem mF20 : EnvMono F20 := m20.addCall callSp_mono

end Go.Proofs.Ytpjkphcfkpcfgaa
