import Derived.Test.YtpjkphcfkpcfgaaCvP
/-
  Orders.
-/
namespace Go.Proofs.Ytpjkphcfkpcfgaa
open Go Go.Dn Go.Proofs

def mkL (os : List (List Int)) : List AV := os.map fun o => .lst 3 (mkI o)
theorem len_mkL (os : List (List Int)) : (mkL os).length = os.length := by simp [mkL]
theorem take_mkL (os : List (List Int)) : List.take os.length (mkL os) = mkL os := List.take_of_length_le (by rw [len_mkL]; exact Nat.le_refl _)
theorem mkL_snoc (os : List (List Int)) (o : List Int) : mkL os ++ [.lst 3 (mkI o)] = mkL (os ++ [o]) := by simp [mkL]

def WholeI (c : Int) (o : List Int) : Prop := Cols c o ∧ ∀ x : Int, 0 ≤ x → x < c → x ∈ o

/-- The orders of the first sets' chains. -/
structure Ords (l : List AV) (ps : List (Int × Int)) (c : Int) (i : Nat) (os : List (List Int)) : Prop where
  len : os.length = neg (bP ps) i
  whole : ∀ o, o ∈ os → WholeI c o
  each : ∀ r, r < i → bP ps r < 0 → ∃ o, o ∈ os ∧ Order l ps c r o

structure A14 where
  l : List AV
  ps : List (Int × Int)
  c : Int
  i : Int
  os : List (List Int)

def st14 (a : A14) : S := sp 56 [(0, .int a.c), (6, .ptr 0 0 [] 0), (7, .slc 2 0 a.os.length), (19, .int a.l.length), (20, .int a.i)] [.box 42 (.agg [.lst 25 a.l, .mp 1]), .map 3 3 (mkM a.ps), .row 25 (mkL a.os)]
def side14 (a : A14) : Prop := (fitB a.l = true ∧ GoodSets a.c a.l ∧ WfP a.l.length a.ps ∧ ∃ Z, Part (edgeL a.l) a.l.length a.l.length (bP a.ps) Z) ∧ a.l.length ≤ 60 ∧ 0 ≤ a.i ∧ a.i ≤ a.l.length ∧ Ords a.l a.ps a.c a.i.toNat a.os
def out14 (a : A14) : Out (Exit × S) := .all (Ords a.l a.ps a.c a.l.length) fun os => .one (.exit 0, sp 56 [(0, .int a.c), (7, .slc 0 0 os.length)] [.row 25 (mkL os)])

theorem x14 (a : A14) (I : Nat → S → Prop) (n : Nat) (K : Exit → S → Prop) : (vc F26 12 14 none 0 (loopCode Try.prog 14 6) (st14 a) (loopK F26 14 6 0 I n K)) = (
  brn (decide (A14.i a < (↑(List.length (A14.l a)) : Int)))
  (brn (!hasK (mkM (A14.ps a)) (Value.int IntKind.i64 (A14.i a)))
    (∃ (a_1 : A26f),
      ([AV.ptr (0 : Nat) (0 : Nat) [] (0 : Nat), AV.lit (Value.int IntKind.i64 (A14.i a)),
              AV.lit (Value.int IntKind.i64 (A14.c a))],
            [Obj.box (42 : Nat) (AV.agg [AV.lst (25 : Nat) (A14.l a), AV.mp (1 : Nat)]),
              Dn.Obj.map (3 : Nat) (3 : Nat) (mkM (A14.ps a))]) =
          ([AV.ptr (0 : Nat) (0 : Nat) [] (0 : Nat), AV.lit (Value.int IntKind.i64 (A26f.i a_1)),
              AV.lit (Value.int IntKind.i64 (A26f.c a_1))],
            [Obj.box (42 : Nat) (AV.agg [AV.lst (25 : Nat) (A26f.l a_1), AV.mp (1 : Nat)]),
              Dn.Obj.map (3 : Nat) (3 : Nat) (mkM (A26f.ps a_1))]) ∧
        ((fitB (A26f.l a_1) = true ∧
              (A26f.c a_1 ≤ (8 : Int) ∧
                  ∀ (j : Nat), j < List.length (A26f.l a_1) → Cols (A26f.c a_1) (setL (A26f.l a_1) j)) ∧
                WfP (List.length (A26f.l a_1)) (A26f.ps a_1) ∧
                  ∃ (Z : Nat → Prop),
                    Part (edgeL (A26f.l a_1)) (List.length (A26f.l a_1)) (List.length (A26f.l a_1)) (bP (A26f.ps a_1))
                      Z) ∧
            (0 : Int) ≤ A26f.i a_1 ∧ A26f.i a_1 < (↑(List.length (A26f.l a_1)) : Int)) ∧
          ∀ (y : List Int),
            (Cols (A26f.c a_1) y ∧
                (∀ (x : Int), (0 : Int) ≤ x → x < A26f.c a_1 → List.Mem x y) ∧
                  ∀ (m t : Nat),
                    Down (bP (A26f.ps a_1)) (List.length (A26f.l a_1)) m t (Int.toNat (A26f.i a_1)) →
                      List.length (setL (A26f.l a_1) m) ≤ List.length y ∧
                        (∀ (x : Int),
                            List.Mem x (List.take (List.length (setL (A26f.l a_1) m)) y) →
                              List.Mem x (setL (A26f.l a_1) m)) ∧
                          ∀ (x : Int),
                            List.Mem x (setL (A26f.l a_1) m) →
                              List.Mem x (List.take (List.length (setL (A26f.l a_1) m)) y)) →
              cnd (decide ((List.length (A14.os a) + (1 : Nat) + (1 : Nat)) * (25 : Nat) ≤ (70368744177664 : Nat)))
                (∃ (m : Nat),
                  m < n ∧
                    I m
                      (sp (56 : Nat)
                        [((0 : Nat), AV.lit (Value.int IntKind.i64 (A14.c a))),
                          ((6 : Nat), AV.ptr (0 : Nat) (0 : Nat) [] (0 : Nat)),
                          ((7 : Nat), AV.slc (2 : Nat) (0 : Nat) (List.length (A14.os a) + (1 : Nat))),
                          ((19 : Nat), AV.lit (Value.int IntKind.i64 (↑(List.length (A14.l a)) : Int))),
                          ((20 : Nat), AV.lit (Value.int IntKind.i64 (IntKind.wrap IntKind.i64 (A14.i a + (1 : Int)))))]
                        [Obj.box (42 : Nat) (AV.agg [AV.lst (25 : Nat) (A26f.l a_1), AV.mp (1 : Nat)]),
                          Dn.Obj.map (3 : Nat) (3 : Nat) (mkM (A26f.ps a_1)),
                          Obj.row (25 : Nat)
                            (List.take (List.length (A14.os a)) (mkL (A14.os a)) ++ [AV.lst (3 : Nat) (mkI y)])])))
    (∃ (m : Nat),
      m < n ∧
        I m
          (sp (56 : Nat)
            [((0 : Nat), AV.lit (Value.int IntKind.i64 (A14.c a))),
              ((6 : Nat), AV.ptr (0 : Nat) (0 : Nat) [] (0 : Nat)),
              ((7 : Nat), AV.slc (2 : Nat) (0 : Nat) (List.length (A14.os a))),
              ((19 : Nat), AV.lit (Value.int IntKind.i64 (↑(List.length (A14.l a)) : Int))),
              ((20 : Nat), AV.lit (Value.int IntKind.i64 (IntKind.wrap IntKind.i64 (A14.i a + (1 : Int)))))]
            [Obj.box (42 : Nat) (AV.agg [AV.lst (25 : Nat) (A14.l a), AV.mp (1 : Nat)]),
              Dn.Obj.map (3 : Nat) (3 : Nat) (mkM (A14.ps a)), Obj.row (25 : Nat) (mkL (A14.os a))])))
  (K (Exit.exit (0 : Nat))
    (sp (56 : Nat)
      [((0 : Nat), AV.lit (Value.int IntKind.i64 (A14.c a))),
        ((7 : Nat), AV.slc (0 : Nat) (0 : Nat) (List.length (A14.os a)))]
      [Obj.row (25 : Nat) (mkL (A14.os a))]))) := by kernel_rfl


theorem l14 : LoopOk F26 12 14 6 (loopE 0 st14 side14 out14) := by
  refine loopE_ok (fun a => a.l.length - a.i.toNat) ?_
  rintro ⟨l, ps, c, i, os⟩ K ⟨⟨h1, h2, h3, Z, h4⟩, h5, h6, h7, h8⟩ ho
  rw [show F26.P = Try.prog from rfl, x14]
  simp only at h1 h2 h3 h4 h5 h6 h7 h8 ⊢
  obtain ⟨i, rfl⟩ := Int.eq_ofNat_of_zero_le h6
  simp only [Int.toNat_natCast] at h8
  have hol : os.length ≤ 60 := by
    have := h8.len
    have := num_le_n (fun k => decide (bP ps k < 0)) i
    unfold neg at *
    omega
  simp only [hasK_mkM, brn_iff, cnd_iff, decide_eq_true_eq, decide_eq_false_iff_not, Bool.not_eq_true', Bool.not_eq_false']
  have step : ∀ (hi : i < l.length) (os' : List (List Int)), Ords l ps c (i + 1) os' → ∃ m, m < l.length - i ∧ invOf st14 side14 out14 (fun a => a.l.length - a.i.toNat) K m (st14 ⟨l, ps, c, (i : Int) + 1, os'⟩) := by
    intro hi os' h'
    refine ⟨_, ?_, _, rfl, ⟨⟨h1, h2, h3, Z, h4⟩, h5, by simp only; omega, by simp only; omega, ?_⟩, rfl, ho⟩
    · simp only; omega
    · simp only [show ((i : Int) + 1).toNat = i + 1 by omega]; exact h'
  refine ⟨fun hi => ?_, fun hi => ?_⟩
  · have hi' : i < l.length := by omega
    rw [wrap_ok (by omega) (by omega)]
    refine ⟨fun hn => ?_, fun hn => ?_⟩
    · have hb : bP ps i < 0 := (bP_neg h3).2 hn
      refine ⟨⟨l, ps, i, c⟩, rfl, ⟨⟨h1, h2, h3, Z, h4⟩, h6, hi⟩, fun o hord => ⟨by omega, ?_⟩⟩
      have hord' : Order l ps c i o := hord
      have := step hi' (os ++ [o]) ⟨?_, fun x hx => ?_, fun r hr hbr => ?_⟩
      · simp only [take_mkL, mkL_snoc, Int.toNat_natCast]
        simp only [st14, List.length_append, List.length_singleton] at this
        exact this
      · rw [List.length_append, h8.len]
        simp only [neg, num, decide_eq_true hb]; rfl
      · rcases List.mem_append.1 hx with hx | hx
        · exact h8.whole x hx
        · simp only [List.mem_singleton] at hx; subst hx; exact ⟨hord'.1, hord'.2.1⟩
      · by_cases e : r = i
        · subst e; exact ⟨o, by simp, hord'⟩
        · obtain ⟨o', g1, g2⟩ := h8.each r (by omega) hbr
          exact ⟨o', List.mem_append_left _ g1, g2⟩
    · have hb : ¬ bP ps i < 0 := fun h => by rw [(bP_neg h3).1 h] at hn; cases hn
      refine step hi' os ⟨?_, h8.whole, fun r hr hbr => ?_⟩
      · rw [h8.len]; simp only [neg, num, decide_eq_false hb]; rfl
      · have : r ≠ i := fun e => hb (e ▸ hbr)
        exact h8.each r (by omega) hbr
  · have : i = l.length := by omega
    subst this
    exact ho os h8

noncomputable def E14 : Env := F26.addLoop 14 6 (loopE 0 st14 side14 out14)
theorem e14 : EnvOK E14 := eF26.addLoop mF26 l14
theorem m14 : EnvMono E14 := mF26.addLoop loopE_mono

/-! ### Right sets -/
theorem climbs_spec {c : Int} : ∀ {s : List Int} {p : Int}, climbs c p s = true → s.Nodup ∧ ∀ x, x ∈ s → p < x ∧ 0 ≤ x ∧ x < c
  | [], _, _ => ⟨List.nodup_nil, fun x hx => by simp at hx⟩
  | y :: s, p, h => by
    simp only [climbs, Bool.and_eq_true, decide_eq_true_eq] at h
    obtain ⟨h1, h2, h3, h4⟩ := h
    obtain ⟨g1, g2⟩ := climbs_spec h4
    refine ⟨List.nodup_cons.2 ⟨fun hm => by have := (g2 y hm).1; omega, g1⟩, fun x hx => ?_⟩
    rcases List.mem_cons.1 hx with rfl | hx
    · exact ⟨h3, h1, h2⟩
    · have := g2 x hx; exact ⟨by omega, this.2⟩

theorem setsOk_all {c : Int} : ∀ {r done : List (List Int)}, setsOk c done r = true → ∀ s, s ∈ r → isSetI c s = true
  | [], _, _, s, hs => by simp at hs
  | y :: r, done, h, s, hs => by
    simp only [setsOk, Bool.and_eq_true] at h
    rcases List.mem_cons.1 hs with rfl | hs
    · exact h.1
    · exact setsOk_all h.2.2 s hs

theorem right_good {c : Int} {l : List AV} (h : rightI c (rows l) = true) : (GoodSets c l ∧ l.length ≤ 60 ∧ 1 ≤ c) ∧ ∀ j, j < l.length → 0 < (setL l j).length := by
  simp only [rightI, Bool.and_eq_true, decide_eq_true_eq, rows_length] at h
  obtain ⟨h1, h2, h3, h4⟩ := h
  have key : ∀ j, j < l.length → isSetI c (setL l j) = true := fun j hj => setsOk_all h4 _ (by
    simp only [rows, List.mem_map]
    exact ⟨nth l j, by rw [nth_get l j hj]; exact List.getElem_mem _, rfl⟩)
  refine ⟨⟨⟨h2, fun j hj => ?_⟩, h3, h1⟩, fun j hj => ?_⟩
  · have := key j hj
    simp only [isSetI, Bool.and_eq_true] at this
    obtain ⟨g1, g2⟩ := climbs_spec this.1
    exact ⟨g1, fun x hx => (g2 x hx).2⟩
  · have := key j hj
    simp only [isSetI, Bool.and_eq_true, decide_eq_true_eq] at this
    exact this.2

/-! ### Orders -/
theorem y14 (a : Int × List AV) (K : AV → List Dn.Obj → Prop) : (funA E14 12 14 (stc11 a).1 (stc11 a).2 K) = (
  cnd (fitB (Prod.snd a))
  (brn (!rightI (Prod.fst a) (rows (Prod.snd a)))
    (K (AV.tup [AV.lit (Value.slice none (0 : Nat) (0 : Nat)), AV.lit (Value.int IntKind.i64 (110 : Int))]) [])
    (∃ (a_1 : List AV),
      ([AV.lst (25 : Nat) (Prod.snd a)], nilO) = ([AV.lst (25 : Nat) a_1], nilO) ∧
        fitB a_1 = true ∧
          ∀ (y : List (Int × Int)),
            (WfP (List.length a_1) y ∧
                ∃ (Z : Nat → Prop), Part (edgeL a_1) (List.length a_1) (List.length a_1) (bP y) Z) →
              loopCode (Env.P F26) (14 : Nat) (6 : Nat) = loopCode (Env.P F26) (14 : Nat) (6 : Nat) ∧
                ∃ (a_3 : A14),
                  sp (56 : Nat)
                        [((0 : Nat), AV.lit (Value.int IntKind.i64 (Prod.fst a))),
                          ((6 : Nat), AV.ptr (0 : Nat) (0 : Nat) [] (0 : Nat)),
                          ((7 : Nat), AV.slc (2 : Nat) (0 : Nat) (0 : Nat)),
                          ((19 : Nat), AV.lit (Value.int IntKind.i64 (↑(List.length (Prod.snd a)) : Int))),
                          ((20 : Nat), AV.lit (Value.int IntKind.i64 (0 : Int)))]
                        [Obj.box (42 : Nat) (AV.agg [AV.lst (25 : Nat) a_1, AV.mp (1 : Nat)]),
                          Dn.Obj.map (3 : Nat) (3 : Nat) (mkM y), Obj.row (25 : Nat) []] =
                      sp (56 : Nat)
                        [((0 : Nat), AV.lit (Value.int IntKind.i64 (A14.c a_3))),
                          ((6 : Nat), AV.ptr (0 : Nat) (0 : Nat) [] (0 : Nat)),
                          ((7 : Nat), AV.slc (2 : Nat) (0 : Nat) (List.length (A14.os a_3))),
                          ((19 : Nat), AV.lit (Value.int IntKind.i64 (↑(List.length (A14.l a_3)) : Int))),
                          ((20 : Nat), AV.lit (Value.int IntKind.i64 (A14.i a_3)))]
                        [Obj.box (42 : Nat) (AV.agg [AV.lst (25 : Nat) (A14.l a_3), AV.mp (1 : Nat)]),
                          Dn.Obj.map (3 : Nat) (3 : Nat) (mkM (A14.ps a_3)), Obj.row (25 : Nat) (mkL (A14.os a_3))] ∧
                    ((fitB (A14.l a_3) = true ∧
                          (A14.c a_3 ≤ (8 : Int) ∧
                              ∀ (j : Nat), j < List.length (A14.l a_3) → Cols (A14.c a_3) (setL (A14.l a_3) j)) ∧
                            WfP (List.length (A14.l a_3)) (A14.ps a_3) ∧
                              ∃ (Z : Nat → Prop),
                                Part (edgeL (A14.l a_3)) (List.length (A14.l a_3)) (List.length (A14.l a_3))
                                  (bP (A14.ps a_3)) Z) ∧
                        List.length (A14.l a_3) ≤ (60 : Nat) ∧
                          (0 : Int) ≤ A14.i a_3 ∧
                            A14.i a_3 ≤ (↑(List.length (A14.l a_3)) : Int) ∧
                              Ords (A14.l a_3) (A14.ps a_3) (A14.c a_3) (Int.toNat (A14.i a_3)) (A14.os a_3)) ∧
                      ∀ (y : List (List Int)),
                        Ords (A14.l a_3) (A14.ps a_3) (A14.c a_3) (List.length (A14.l a_3)) y →
                          brn ((↑(List.length y) : Int) == (0 : Int))
                            (∃ (a : A26f),
                              ([AV.ptr (0 : Nat) (0 : Nat) [] (0 : Nat), AV.lit (Value.int IntKind.i64 (0 : Int)),
                                      AV.lit (Value.int IntKind.i64 (A14.c a_3))],
                                    [Obj.box (42 : Nat)
                                        (AV.agg [AV.slc (1 : Nat) (0 : Nat) (1 : Nat), AV.lit (Value.map none)]),
                                      Obj.row (25 : Nat)
                                        [AV.lst (3 : Nat) [AV.lit (Value.int IntKind.i64 (0 : Int))]]]) =
                                  ([AV.ptr (0 : Nat) (0 : Nat) [] (0 : Nat), AV.lit (Value.int IntKind.i64 (A26f.i a)),
                                      AV.lit (Value.int IntKind.i64 (A26f.c a))],
                                    [Obj.box (42 : Nat) (AV.agg [AV.lst (25 : Nat) (A26f.l a), AV.mp (1 : Nat)]),
                                      Dn.Obj.map (3 : Nat) (3 : Nat) (mkM (A26f.ps a))]) ∧
                                ((fitB (A26f.l a) = true ∧
                                      (A26f.c a ≤ (8 : Int) ∧
                                          ∀ (j : Nat),
                                            j < List.length (A26f.l a) → Cols (A26f.c a) (setL (A26f.l a) j)) ∧
                                        WfP (List.length (A26f.l a)) (A26f.ps a) ∧
                                          ∃ (Z : Nat → Prop),
                                            Part (edgeL (A26f.l a)) (List.length (A26f.l a)) (List.length (A26f.l a))
                                              (bP (A26f.ps a)) Z) ∧
                                    (0 : Int) ≤ A26f.i a ∧ A26f.i a < (↑(List.length (A26f.l a)) : Int)) ∧
                                  ∀ (y_1 : List Int),
                                    (Cols (A26f.c a) y_1 ∧
                                        (∀ (x : Int), (0 : Int) ≤ x → x < A26f.c a → List.Mem x y_1) ∧
                                          ∀ (m t : Nat),
                                            Down (bP (A26f.ps a)) (List.length (A26f.l a)) m t (Int.toNat (A26f.i a)) →
                                              List.length (setL (A26f.l a) m) ≤ List.length y_1 ∧
                                                (∀ (x : Int),
                                                    List.Mem x (List.take (List.length (setL (A26f.l a) m)) y_1) →
                                                      List.Mem x (setL (A26f.l a) m)) ∧
                                                  ∀ (x : Int),
                                                    List.Mem x (setL (A26f.l a) m) →
                                                      List.Mem x (List.take (List.length (setL (A26f.l a) m)) y_1)) →
                                      cnd
                                        (decide
                                          ((List.length y + (1 : Nat) + (1 : Nat)) * (25 : Nat) ≤
                                            (70368744177664 : Nat)))
                                        (K
                                          (AV.tup
                                            [AV.slc (0 : Nat) (0 : Nat) (List.length y + (1 : Nat)),
                                              AV.lit (Value.int IntKind.i64 (0 : Int))])
                                          [Obj.row (25 : Nat)
                                              (List.take (List.length y) (mkL y) ++ [AV.lst (3 : Nat) (mkI y_1)])]))
                            (K
                              (AV.tup
                                [AV.slc (0 : Nat) (0 : Nat) (List.length y), AV.lit (Value.int IntKind.i64 (0 : Int))])
                              [Obj.row (25 : Nat) (mkL y)])))) := by kernel_rfl


/-- Orders that cover the sets, as few as can be. -/
structure Cover (c : Int) (l : List AV) (os : List (List Int)) : Prop where
  len : Width l os.length
  whole : ∀ o, o ∈ os → WholeI c o
  each : ∀ k, k < l.length → ∃ o, o ∈ os ∧ SrvI o (setL l k)

noncomputable def outc14 (a : Int × List AV) : Out (AV × List Dn.Obj) :=
  .brn (rightI a.1 (rows a.2)) (.all (Cover a.1 a.2) fun os => .one (.tup [.slc 0 0 os.length, .int 0], [.row 25 (mkL os)])) (.one (.tup [.nil, .int 110], []))

theorem c14 : CallOk E14 12 14 (callE stc11 (fun a => fitB a.2 = true ∧ 0 < a.2.length) outc14) := by
  refine callE_ok ?_
  rintro ⟨c, l⟩ K ⟨h1, h2⟩ ho
  rw [y14]
  simp only [outc14, Out.run, brn_iff] at ho
  simp only at h1 h2 ⊢
  simp only [cnd_iff, brn_iff, decide_eq_true_eq]
  refine ⟨h1, fun hr => ho.2 (by simpa using hr), fun hr => ⟨l, rfl, h1, fun ps hp => ⟨trivial, ⟨l, ps, c, 0, []⟩, rfl, ?_, fun os hos => ?_⟩⟩⟩
  all_goals
    have hr' : rightI c (rows l) = true := by simpa using hr
    obtain ⟨⟨hg, hl, hc1⟩, _⟩ := right_good hr'
    obtain ⟨hw, Z, hpt⟩ := hp
  · exact ⟨⟨h1, hg, hw, Z, hpt⟩, hl, Int.le_refl _, by simp only; omega, ⟨rfl, fun o ho => by simp at ho, fun r hr => by simp at hr⟩⟩
  · have hwid := width_of hpt
    have hpos : 0 < os.length := by
      rw [hos.len]
      show 0 < neg (bP ps) l.length
      have h0 := hwid.2 (fun k => k == 0) (fun i j hi hj hqi hqj => by
        simp only [beq_iff_eq] at hqi hqj
        subst hqi; subst hqj
        cases he : edgeL l 0 0 with
        | false => rfl
        | true => have := edge_rank l 0 0 he; omega)
      rw [num_drop (j := 0) h2 (by simp)] at h0
      omega
    refine ⟨fun hz => ?_, fun _ => ?_⟩
    · simp at hz; rw [hz] at hpos; simp at hpos
    · refine ho.1 hr' os ⟨by rw [hos.len]; exact hwid, hos.whole, fun k hk => ?_⟩
      obtain ⟨t, r, g1, g2, g3⟩ := down_root hpt.fits (fun i => (toLst (nth l i)).length) (fun i k _ _ he => edge_rank l i k he) _ k hk (Nat.le_refl _)
      obtain ⟨o, ho1, ho2⟩ := hos.each r g2 g3
      exact ⟨o, ho1, ho2.2.2 k t g1⟩

noncomputable def F14 : Env := E14.addCall 14 (callE stc11 (fun a => fitB a.2 = true ∧ 0 < a.2.length) outc14)
theorem eF14 : EnvOK F14 := e14.addCall m14 c14
theorem mF14 : EnvMono F14 := m14.addCall callE_mono

end Go.Proofs.Ytpjkphcfkpcfgaa
