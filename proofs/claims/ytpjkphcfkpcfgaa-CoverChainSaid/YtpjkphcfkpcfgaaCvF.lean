import Derived.Test.YtpjkphcfkpcfgaaCvE
/-
  right (cover), Which (cover).
-/
namespace Go.Proofs.Ytpjkphcfkpcfgaa
open Go Go.Dn Go.Proofs

theorem rows_length (l : List AV) : (rows l).length = l.length := by simp [rows]
theorem rows_dropI (l : List AV) {i : Int} (h0 : 0 ≤ i) (h : i < l.length) : (rows l).drop i.toNat = ints (toLst (nth l i.toNat)) :: (rows l).drop (i + 1).toNat := by
  rw [List.drop_eq_getElem_cons (by rw [rows_length]; omega)]
  congr 1
  · simp only [rows, List.getElem_map]
    rw [nth_get l i.toNat (by omega)]
  · congr 1; omega
theorem rows_dropE (l : List AV) {i : Int} (h0 : 0 ≤ i) (h : ¬ i < l.length) : (rows l).drop i.toNat = [] :=
  List.drop_eq_nil_of_le (by rw [rows_length]; omega)

/-- Lists that fit a machine. -/
def fitB (l : List AV) : Bool := decide (l.length ≤ maxI) && l.all fun r => decide ((toLst r).length ≤ maxI)
theorem fit_len {l : List AV} (h : fitB l = true) : l.length ≤ maxI := by
  simp only [fitB, Bool.and_eq_true, decide_eq_true_eq] at h; exact h.1
theorem fit_row {l : List AV} (h : fitB l = true) {i : Nat} (hi : i < l.length) : (toLst (nth l i)).length ≤ maxI := by
  simp only [fitB, Bool.and_eq_true] at h
  have := List.all_eq_true.1 h.2 (nth l i) (by rw [nth_get l i hi]; exact List.getElem_mem hi)
  simpa using this

/-! ### slices.IndexFunc, by its function -/
noncomputable def out29 (p : List Int → List Int → Bool) : List AV × List AV × Int → Out (Exit × S)
  | (l, a, i) => .brn (((rows l).drop i.toNat).any (p (ints a))) (.one (.ret, sp 19 [(4, .int (i + ((rows l).drop i.toNat).findIdx (p (ints a))))] [.box 25 (.lst 3 a)])) (.one (.exit 0, sp 19 [] [.box 25 (.lst 3 a)]))
abbrev st29 (f : Nat) (p : List AV × List AV × Int) : S := sp 19 [(0, .lst 25 p.1), (1, .clo f [.ptr 0 0 [] 0]), (7, .int p.1.length), (8, .int p.2.2)] [.box 25 (.lst 3 p.2.1)]
def un29 (s : S) : List AV × List AV × Int := (toLst (nth s.regs 0), toLst (boxA (nthO s.st 0)), toInt (nth s.regs 8))
def side29 : List AV × List AV × Int → Prop
  | (l, a, i) => (fitB l = true ∧ a.length ≤ maxI) ∧ 0 ≤ i ∧ i ≤ l.length

theorem x29 (l a : List AV) (i : Int) (I : Nat → S → Prop) (n : Nat) (K : Exit → S → Prop) : (vc F31 8 29 none 1 (loopCode Try.prog 29 2) (sp 19 [(0, .lst 25 l), (1, .clo 33 [.ptr 0 0 [] 0]), (7, .int l.length), (8, .int i)] [.box 25 (.lst 3 a)]) (loopK F31 29 2 1 I n K)) = (
  brn (decide (i < (↑(List.length l) : Int)))
  (cnd (decide ((0 : Int) ≤ i) && decide (i < (↑(List.length l) : Int)))
    (cnd
      (decide (List.length a ≤ (9223372036854775807 : Nat)) &&
        decide (List.length (toLst (nth l (Int.toNat i))) ≤ (9223372036854775807 : Nat)))
      (brn (sameI (ints a) (ints (toLst (nth l (Int.toNat i)))))
        (K Exit.ret
          (sp (19 : Nat) [((4 : Nat), AV.lit (Value.int IntKind.i64 i))] [Obj.box (25 : Nat) (AV.lst (3 : Nat) a)]))
        (∃ (m : Nat),
          m < n ∧
            I m
              (sp (19 : Nat)
                [((0 : Nat), AV.lst (25 : Nat) l),
                  ((1 : Nat), AV.clo (33 : Nat) [AV.ptr (0 : Nat) (0 : Nat) [] (0 : Nat)]),
                  ((7 : Nat), AV.lit (Value.int IntKind.i64 (↑(List.length l) : Int))),
                  ((8 : Nat), AV.lit (Value.int IntKind.i64 (IntKind.wrap IntKind.i64 (i + (1 : Int)))))]
                [Obj.box (25 : Nat) (AV.lst (3 : Nat) a)])))))
  (K (Exit.exit (0 : Nat)) (sp (19 : Nat) [] [Obj.box (25 : Nat) (AV.lst (3 : Nat) a)]))) := by kernel_rfl


theorem z29 (l a : List AV) (i : Int) (I : Nat → S → Prop) (n : Nat) (K : Exit → S → Prop) : (vc F31 8 29 none 1 (loopCode Try.prog 29 2) (sp 19 [(0, .lst 25 l), (1, .clo 30 [.ptr 0 0 [] 0]), (7, .int l.length), (8, .int i)] [.box 25 (.lst 3 a)]) (loopK F31 29 2 1 I n K)) = (
  brn (decide (i < (↑(List.length l) : Int)))
  (cnd (decide ((0 : Int) ≤ i) && decide (i < (↑(List.length l) : Int)))
    (cnd
      (decide (List.length (toLst (nth l (Int.toNat i))) ≤ (9223372036854775807 : Nat)) &&
        decide (List.length a ≤ (9223372036854775807 : Nat)))
      (brn (servesI (ints (toLst (nth l (Int.toNat i)))) (ints a))
        (K Exit.ret
          (sp (19 : Nat) [((4 : Nat), AV.lit (Value.int IntKind.i64 i))] [Obj.box (25 : Nat) (AV.lst (3 : Nat) a)]))
        (∃ (m : Nat),
          m < n ∧
            I m
              (sp (19 : Nat)
                [((0 : Nat), AV.lst (25 : Nat) l),
                  ((1 : Nat), AV.clo (30 : Nat) [AV.ptr (0 : Nat) (0 : Nat) [] (0 : Nat)]),
                  ((7 : Nat), AV.lit (Value.int IntKind.i64 (↑(List.length l) : Int))),
                  ((8 : Nat), AV.lit (Value.int IntKind.i64 (IntKind.wrap IntKind.i64 (i + (1 : Int)))))]
                [Obj.box (25 : Nat) (AV.lst (3 : Nat) a)])))))
  (K (Exit.exit (0 : Nat)) (sp (19 : Nat) [] [Obj.box (25 : Nat) (AV.lst (3 : Nat) a)]))) := by kernel_rfl


theorem l29a : LoopOk F31 8 29 2 (loopOf un29 (st29 33) side29 (out29 sameI) 1) := by
  refine loopOf_ok (fun a => a.1.length - a.2.2.toNat) ?_
  rintro ⟨l, a, i⟩ K ⟨⟨h1, h0⟩, h2, h3⟩ ho
  refine Eq.mpr (x29 l a i _ _ K) ?_
  have hl := fit_len h1
  simp only [maxI] at hl
  simp only [out29, Out.run, brn_iff, cnd_iff, decide_eq_true_eq, decide_eq_false_iff_not, Bool.and_eq_true] at ho ⊢
  refine ⟨fun hi => ⟨⟨h2, hi⟩, ⟨h0, fit_row h1 (by omega)⟩, fun hx => ?_, fun hx => ?_⟩, fun hi => ?_⟩
  · have := ho.1 (by rw [rows_dropI l h2 hi, List.any_cons, hx]; rfl)
    rw [rows_dropI l h2 hi, List.findIdx_cons, hx] at this
    simpa using this
  · rw [wrap_ok (by omega) (by omega)]
    refine ⟨_, ?_, (l, a, i + 1), rfl, ⟨⟨h1, h0⟩, by omega, by omega⟩, rfl, ?_⟩
    · simp only; omega
    · rw [rows_dropI l h2 hi, List.any_cons, List.findIdx_cons, hx] at ho
      simp only [out29, Out.run, brn_iff]
      simp only [Bool.false_or, cond_false] at ho
      refine ⟨fun e => ?_, ho.2⟩
      have := ho.1 e
      rwa [show i + ((List.findIdx (sameI (ints a)) (List.drop (i + 1).toNat (rows l)) + 1 : Nat) : Int) = i + 1 + (List.findIdx (sameI (ints a)) (List.drop (i + 1).toNat (rows l)) : Nat) by omega] at this
  · refine ho.2 ?_
    rw [rows_dropE l h2 hi]; rfl

theorem l29b : LoopOk F31 8 29 2 (loopOf un29 (st29 30) side29 (out29 fun s o => servesI o s) 1) := by
  refine loopOf_ok (fun a => a.1.length - a.2.2.toNat) ?_
  rintro ⟨l, a, i⟩ K ⟨⟨h1, h0⟩, h2, h3⟩ ho
  refine Eq.mpr (z29 l a i _ _ K) ?_
  have hl := fit_len h1
  simp only [maxI] at hl
  simp only [out29, Out.run, brn_iff, cnd_iff, decide_eq_true_eq, decide_eq_false_iff_not, Bool.and_eq_true] at ho ⊢
  refine ⟨fun hi => ⟨⟨h2, hi⟩, ⟨fit_row h1 (by omega), h0⟩, fun hx => ?_, fun hx => ?_⟩, fun hi => ?_⟩
  · have := ho.1 (by rw [rows_dropI l h2 hi, List.any_cons, hx]; rfl)
    rw [rows_dropI l h2 hi, List.findIdx_cons, hx] at this
    simpa using this
  · rw [wrap_ok (by omega) (by omega)]
    refine ⟨_, ?_, (l, a, i + 1), rfl, ⟨⟨h1, h0⟩, by omega, by omega⟩, rfl, ?_⟩
    · simp only; omega
    · rw [rows_dropI l h2 hi, List.any_cons, List.findIdx_cons, hx] at ho
      simp only [out29, Out.run, brn_iff]
      simp only [Bool.false_or, cond_false] at ho
      refine ⟨fun e => ?_, ho.2⟩
      have := ho.1 e
      rwa [show i + ((List.findIdx (fun o => servesI o (ints a)) (List.drop (i + 1).toNat (rows l)) + 1 : Nat) : Int) = i + 1 + (List.findIdx (fun o => servesI o (ints a)) (List.drop (i + 1).toNat (rows l)) : Nat) by omega] at this
  · refine ho.2 ?_
    rw [rows_dropE l h2 hi]; rfl

def sel29 (s : S) : Bool := match nth s.regs 1 with | .clo 33 _ => true | _ => false
noncomputable def sp29 : LoopSpec := selSp sel29 (loopOf un29 (st29 33) side29 (out29 sameI) 1) (loopOf un29 (st29 30) side29 (out29 fun s o => servesI o s) 1)

noncomputable def E29 : Env := F31.addLoop 29 2 sp29
theorem e29 : EnvOK E29 := eF31.addLoop mF31 (selSp_ok l29a l29b)
theorem m29 : EnvMono E29 := mF31.addLoop (selSp_mono loopOf_mono loopOf_mono)

/-- Sets in order of columns, none of them twice. -/
def setsOk (c : Int) : List (List Int) → List (List Int) → Bool
  | _, [] => true
  | done, s :: r => isSetI c s && (!(done.any (sameI s)) && setsOk c (done ++ [s]) r)

theorem rows_take (l : List AV) (n : Nat) : rows (l.take n) = (rows l).take n := by simp [rows]
theorem rows_takeI (l : List AV) {i : Int} (h0 : 0 ≤ i) (h : i < l.length) : (rows l).take (i + 1).toNat = (rows l).take i.toNat ++ [ints (toLst (nth l i.toNat))] := by
  rw [show (i + 1).toNat = i.toNat + 1 by omega, List.take_add_one]
  congr 1
  rw [List.getElem?_eq_getElem (by rw [rows_length]; omega)]
  simp only [rows, List.getElem_map, Option.toList_some]
  rw [nth_get l i.toNat (by omega)]
theorem fit_take {l : List AV} (h : fitB l = true) (n : Nat) : fitB (l.take n) = true := by
  simp only [fitB, Bool.and_eq_true, decide_eq_true_eq, List.length_take, List.all_eq_true] at h ⊢
  exact ⟨by omega, fun x hx => h.2 x (List.mem_of_mem_take hx)⟩

noncomputable def out21 : List AV × Int × Int → Out (Exit × S)
  | (l, c, i) => .brn (setsOk c ((rows l).take i.toNat) ((rows l).drop i.toNat)) (.one (.exit 0, sp 37 [] [])) (.one (.ret, sp 37 [(4, .bool false)] []))
abbrev st21 (p : List AV × Int × Int) : S := sp 37 [(0, .int p.2.1), (1, .lst 25 p.1), (18, .lst 25 p.1), (19, .int p.1.length), (20, .int p.2.2)] []
def un21 (s : S) : List AV × Int × Int := (toLst (nth s.regs 1), toInt (nth s.regs 0), toInt (nth s.regs 20))
def side21 : List AV × Int × Int → Prop
  | (l, _, i) => fitB l = true ∧ 0 ≤ i ∧ i ≤ l.length

theorem x21 (l : List AV) (c i : Int) (I : Nat → S → Prop) (n : Nat) (K : Exit → S → Prop) : (vc E29 8 21 none 0 (loopCode Try.prog 21 4) (sp 37 [(0, .int c), (1, .lst 25 l), (18, .lst 25 l), (19, .int l.length), (20, .int i)] []) (loopK E29 21 4 0 I n K)) = (
  brn (decide (i < (↑(List.length l) : Int)))
  (cnd (decide ((0 : Int) ≤ i) && decide (i < (↑(List.length l) : Int)))
    (cnd (decide (List.length (toLst (nth l (Int.toNat i))) ≤ (9223372036854775807 : Nat)))
      (brn (!isSetI c (ints (toLst (nth l (Int.toNat i)))))
        (K Exit.ret (sp (37 : Nat) [((4 : Nat), AV.lit (Value.bool false))] []))
        (cnd (true && decide ((0 : Int) ≤ i) && decide (i ≤ (↑(List.length l) : Int)))
          (loopCode (Env.P F31) (29 : Nat) (2 : Nat) = loopCode (Env.P F31) (29 : Nat) (2 : Nat) ∧
            (sp (19 : Nat)
                    [((0 : Nat), AV.lst (25 : Nat) (List.drop (0 : Nat) (List.take (Int.toNat i) l))),
                      ((1 : Nat), AV.clo (33 : Nat) [AV.ptr (0 : Nat) (0 : Nat) [] (0 : Nat)]),
                      ((7 : Nat),
                        AV.lit
                          (Value.int IntKind.i64
                            (↑(List.length (List.drop (0 : Nat) (List.take (Int.toNat i) l))) : Int))),
                      ((8 : Nat), AV.lit (Value.int IntKind.i64 (0 : Int)))]
                    [Obj.box (25 : Nat) (AV.lst (3 : Nat) (toLst (nth l (Int.toNat i))))] =
                  sp (19 : Nat)
                    [((0 : Nat), AV.lst (25 : Nat) (List.drop (0 : Nat) (List.take (Int.toNat i) l))),
                      ((1 : Nat), AV.clo (33 : Nat) [AV.ptr (0 : Nat) (0 : Nat) [] (0 : Nat)]),
                      ((7 : Nat),
                        AV.lit
                          (Value.int IntKind.i64
                            (↑(List.length (List.drop (0 : Nat) (List.take (Int.toNat i) l))) : Int))),
                      ((8 : Nat), AV.lit (Value.int IntKind.i64 (0 : Int)))]
                    [Obj.box (25 : Nat) (AV.lst (3 : Nat) (toLst (nth l (Int.toNat i))))] ∧
                (fitB (List.drop (0 : Nat) (List.take (Int.toNat i) l)) = true ∧
                    List.length (toLst (nth l (Int.toNat i))) ≤ (9223372036854775807 : Nat)) ∧
                  (0 : Int) ≤ (0 : Int) ∧
                    (0 : Int) ≤ (↑(List.length (List.drop (0 : Nat) (List.take (Int.toNat i) l))) : Int)) ∧
              brn
                (List.any (List.drop (0 : Nat) (rows (List.drop (0 : Nat) (List.take (Int.toNat i) l))))
                  (sameI (ints (toLst (nth l (Int.toNat i))))))
                (K Exit.ret (sp (37 : Nat) [((4 : Nat), AV.lit (Value.bool false))] []))
                (∃ (m : Nat),
                  m < n ∧
                    I m
                      (sp (37 : Nat)
                        [((0 : Nat), AV.lit (Value.int IntKind.i64 c)), ((1 : Nat), AV.lst (25 : Nat) l),
                          ((18 : Nat), AV.lst (25 : Nat) l),
                          ((19 : Nat), AV.lit (Value.int IntKind.i64 (↑(List.length l) : Int))),
                          ((20 : Nat), AV.lit (Value.int IntKind.i64 (IntKind.wrap IntKind.i64 (i + (1 : Int)))))]
                        [])))))))
  (K (Exit.exit (0 : Nat)) (sp (37 : Nat) [] []))) := by kernel_rfl


theorem l21 : LoopOk E29 8 21 4 (loopOf un21 st21 side21 out21) := by
  refine loopOf_ok (fun a => a.1.length - a.2.2.toNat) ?_
  rintro ⟨l, c, i⟩ K ⟨h1, h2, h3⟩ ho
  refine Eq.mpr (x21 l c i _ _ K) ?_
  have hl := fit_len h1
  simp only [maxI] at hl
  simp only [out21, Out.run, brn_iff, cnd_iff, decide_eq_true_eq, decide_eq_false_iff_not, Bool.and_eq_true, Bool.not_eq_true', Bool.not_eq_false', List.drop_zero] at ho ⊢
  refine ⟨fun hi => ⟨⟨h2, hi⟩, fit_row h1 (by omega), fun hx => ?_, fun hx => ⟨⟨⟨trivial, h2⟩, h3⟩, trivial, ⟨trivial, ⟨fit_take h1 _, fit_row h1 (by omega)⟩, by omega, by omega⟩, fun hy => ?_, fun hy => ?_⟩⟩, fun hi => ?_⟩
  · refine ho.2 ?_
    rw [rows_dropI l h2 hi, setsOk, hx]; rfl
  · refine ho.2 ?_
    rw [rows_take] at hy
    rw [rows_dropI l h2 hi, setsOk, hx, hy]; rfl
  · rw [rows_take] at hy
    rw [wrap_ok (by omega) (by omega)]
    refine ⟨_, ?_, (l, c, i + 1), rfl, ⟨h1, by omega, by omega⟩, rfl, ?_⟩
    · simp only; omega
    · rw [rows_dropI l h2 hi, setsOk, hx, hy, ← rows_takeI l h2 hi] at ho
      simp only [Bool.not_false, Bool.true_and] at ho
      simpa only [out21, Out.run, brn_iff] using ho
  · refine ho.1 ?_
    rw [rows_dropE l h2 hi]; rfl

noncomputable def E21 : Env := E29.addLoop 21 4 (loopOf un21 st21 side21 out21)
theorem e21 : EnvOK E21 := e29.addLoop m29 l21
theorem m21 : EnvMono E21 := m29.addLoop loopOf_mono

theorem y21 (l : List AV) (c : Int) (K : AV → List Dn.Obj → Prop) : (funA E21 8 21 [.int c, .lst 25 l] [] K) = (
  brn (decide (c < (1 : Int))) (K (AV.lit (Value.bool false)) [])
  (brn (decide (c > (8 : Int))) (K (AV.lit (Value.bool false)) [])
    (brn (decide ((↑(List.length l) : Int) > (60 : Int))) (K (AV.lit (Value.bool false)) [])
      (loopCode (Env.P E29) (21 : Nat) (4 : Nat) = loopCode (Env.P E29) (21 : Nat) (4 : Nat) ∧
        (sp (37 : Nat)
                [((0 : Nat), AV.lit (Value.int IntKind.i64 c)), ((1 : Nat), AV.lst (25 : Nat) l),
                  ((18 : Nat), AV.lst (25 : Nat) l),
                  ((19 : Nat), AV.lit (Value.int IntKind.i64 (↑(List.length l) : Int))),
                  ((20 : Nat), AV.lit (Value.int IntKind.i64 (0 : Int)))]
                [] =
              sp (37 : Nat)
                [((0 : Nat), AV.lit (Value.int IntKind.i64 c)), ((1 : Nat), AV.lst (25 : Nat) l),
                  ((18 : Nat), AV.lst (25 : Nat) l),
                  ((19 : Nat), AV.lit (Value.int IntKind.i64 (↑(List.length l) : Int))),
                  ((20 : Nat), AV.lit (Value.int IntKind.i64 (0 : Int)))]
                [] ∧
            fitB l = true ∧ (0 : Int) ≤ (0 : Int) ∧ (0 : Int) ≤ (↑(List.length l) : Int)) ∧
          brn (setsOk c [] (List.drop (0 : Nat) (rows l))) (K (AV.lit (Value.bool true)) [])
            (K (AV.lit (Value.bool false)) []))))) := by kernel_rfl


def rightI (c : Int) (s : List (List Int)) : Bool := decide (1 ≤ c) && (decide (c ≤ 8) && (decide (s.length ≤ 60) && setsOk c [] s))

def g21 : List AV → Option (Bool × AV)
  | [.lit (.int .i64 c), .lst 25 l] => some (fitB l, .bool (rightI c (rows l)))
  | _ => none

theorem p21 : PureOk E21 8 21 g21 := by
  intro args x h
  unfold g21 at h
  split at h
  · rename_i c l
    simp only [Option.some.injEq, Prod.mk.injEq] at h
    obtain ⟨h1, rfl⟩ := h
    refine ⟨_, rfl, rfl, ?_⟩
    rw [y21]
    simp only [brn_iff, decide_eq_true_eq, decide_eq_false_iff_not, List.drop_zero]
    simp only [rightI, rows_length]
    refine ⟨fun e => ?_, fun e => ⟨fun e2 => ?_, fun e2 => ⟨fun e3 => ?_, fun e3 => ⟨trivial, ⟨trivial, h1, by omega, by omega⟩, fun e4 => ?_, fun e4 => ?_⟩⟩⟩⟩
    · rw [decide_eq_false (show ¬ 1 ≤ c by omega)]; rfl
    · rw [decide_eq_false (show ¬ c ≤ 8 by omega), Bool.false_and, Bool.and_false]
    · rw [decide_eq_false (show ¬ l.length ≤ 60 by omega), Bool.false_and, Bool.and_false, Bool.and_false]
    · rw [e4, decide_eq_true (show 1 ≤ c by omega), decide_eq_true (show c ≤ 8 by omega), decide_eq_true (show l.length ≤ 60 by omega)]; rfl
    · rw [e4, Bool.and_false, Bool.and_false, Bool.and_false]
  · cases h

noncomputable def F21 : Env := E21.addPure 21 g21
theorem eF21 : EnvOK F21 := e21.addPure m21 p21
theorem mF21 : EnvMono F21 := m21.addPure

end Go.Proofs.Ytpjkphcfkpcfgaa
