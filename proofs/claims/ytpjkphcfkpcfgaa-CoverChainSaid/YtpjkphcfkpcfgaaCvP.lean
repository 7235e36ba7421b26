import Derived.Test.YtpjkphcfkpcfgaaCvO
/-
  order: the columns that are left; what an order is.
-/
namespace Go.Proofs.Ytpjkphcfkpcfgaa
open Go Go.Dn Go.Proofs

/-! ### The columns that are left -/
structure A26c where
  l : List AV
  ps : List (Int × Int)
  c : Int
  k : Int
  o : List Int

def st26c (a : A26c) : S := sp 71 [(10, .ptr 2 0 [] 0), (11, .clo 37 [.ptr 2 0 [] 0]), (61, .int a.c), (62, .int a.k)] [.box 42 (.agg [.lst 25 a.l, .mp 1]), .map 3 3 (mkM a.ps), .box 25 (.slc 3 0 a.o.length), .row 3 (mkI a.o)]
def side26c (a : A26c) : Prop := 0 ≤ a.k ∧ a.c ≤ 8 ∧ Cols a.c a.o ∧ (∀ x : Int, 0 ≤ x → x < a.k → x < a.c → x ∈ a.o)
def Full (c : Int) (o o' : List Int) : Prop := (∃ t, o' = o ++ t) ∧ Cols c o' ∧ ∀ x : Int, 0 ≤ x → x < c → x ∈ o'
def out26c (a : A26c) : Out (Exit × S) := .all (Full a.c a.o) fun o => .one (.exit 4, sp 71 [(10, .ptr 2 0 [] 0)] [.box 42 (.agg [.lst 25 a.l, .mp 1]), .map 3 3 (mkM a.ps), .box 25 (.slc 3 0 o.length), .row 3 (mkI o)])

theorem x26c (a : A26c) (I : Nat → S → Prop) (n : Nat) (K : Exit → S → Prop) : (vc E26b 12 26 none 2 (loopCode Try.prog 26 14) (st26c a) (loopK E26b 26 14 2 I n K)) = (
  brn (decide (A26c.k a < A26c.c a))
  (loopCode (Env.P E26a) (37 : Nat) (1 : Nat) = loopCode (Env.P E26a) (37 : Nat) (1 : Nat) ∧
    ∃ (a_1 : A3),
      sp (20 : Nat)
            [((1 : Nat), AV.ptr (2 : Nat) (0 : Nat) [] (0 : Nat)), ((5 : Nat), AV.slc (4 : Nat) (0 : Nat) (1 : Nat)),
              ((6 : Nat), AV.lit (Value.int IntKind.i64 (1 : Int))),
              ((7 : Nat), AV.lit (Value.int IntKind.i64 (0 : Int)))]
            [Obj.box (42 : Nat) (AV.agg [AV.lst (25 : Nat) (A26c.l a), AV.mp (1 : Nat)]),
              Dn.Obj.map (3 : Nat) (3 : Nat) (mkM (A26c.ps a)),
              Obj.box (25 : Nat) (AV.slc (3 : Nat) (0 : Nat) (List.length (A26c.o a))),
              Obj.row (3 : Nat) (mkI (A26c.o a)), Obj.row (3 : Nat) [AV.lit (Value.int IntKind.i64 (A26c.k a))]] =
          sp (20 : Nat)
            [((1 : Nat), AV.ptr (2 : Nat) (0 : Nat) [] (0 : Nat)), ((5 : Nat), AV.slc (4 : Nat) (0 : Nat) (1 : Nat)),
              ((6 : Nat), AV.lit (Value.int IntKind.i64 (1 : Int))),
              ((7 : Nat), AV.lit (Value.int IntKind.i64 (0 : Int)))]
            [Obj.box (42 : Nat) (AV.agg [AV.lst (25 : Nat) (A3.l a_1), AV.mp (1 : Nat)]),
              Dn.Obj.map (3 : Nat) (3 : Nat) (mkM (A3.ps a_1)),
              Obj.box (25 : Nat) (AV.slc (3 : Nat) (0 : Nat) (List.length (A3.o a_1))),
              Obj.row (3 : Nat) (mkI (A3.o a_1)), Obj.row (3 : Nat) [AV.lit (Value.int IntKind.i64 (A3.n a_1))]] ∧
        side3 a_1 ∧
          brn (hasI (A3.o a_1) (A3.n a_1))
            (∃ (m : Nat),
              m < n ∧
                I m
                  (sp (71 : Nat)
                    [((10 : Nat), AV.ptr (2 : Nat) (0 : Nat) [] (0 : Nat)),
                      ((11 : Nat), AV.clo (37 : Nat) [AV.ptr (2 : Nat) (0 : Nat) [] (0 : Nat)]),
                      ((61 : Nat), AV.lit (Value.int IntKind.i64 (A26c.c a))),
                      ((62 : Nat), AV.lit (Value.int IntKind.i64 (IntKind.wrap IntKind.i64 (A26c.k a + (1 : Int)))))]
                    [Obj.box (42 : Nat) (AV.agg [AV.lst (25 : Nat) (A3.l a_1), AV.mp (1 : Nat)]),
                      Dn.Obj.map (3 : Nat) (3 : Nat) (mkM (A3.ps a_1)),
                      Obj.box (25 : Nat) (AV.slc (3 : Nat) (0 : Nat) (List.length (A3.o a_1))),
                      Obj.row (3 : Nat) (mkI (A3.o a_1))]))
            (∃ (m : Nat),
              m < n ∧
                I m
                  (sp (71 : Nat)
                    [((10 : Nat), AV.ptr (2 : Nat) (0 : Nat) [] (0 : Nat)),
                      ((11 : Nat), AV.clo (37 : Nat) [AV.ptr (2 : Nat) (0 : Nat) [] (0 : Nat)]),
                      ((61 : Nat), AV.lit (Value.int IntKind.i64 (A26c.c a))),
                      ((62 : Nat), AV.lit (Value.int IntKind.i64 (IntKind.wrap IntKind.i64 (A26c.k a + (1 : Int)))))]
                    [Obj.box (42 : Nat) (AV.agg [AV.lst (25 : Nat) (A3.l a_1), AV.mp (1 : Nat)]),
                      Dn.Obj.map (3 : Nat) (3 : Nat) (mkM (A3.ps a_1)),
                      Obj.box (25 : Nat) (AV.slc (3 : Nat) (0 : Nat) (List.length (A3.o a_1) + (1 : Nat))),
                      Obj.row (3 : Nat) (mkI (A3.o a_1) ++ [AV.lit (Value.int IntKind.i64 (A3.n a_1))])])))
  (K (Exit.exit (4 : Nat))
    (sp (71 : Nat) [((10 : Nat), AV.ptr (2 : Nat) (0 : Nat) [] (0 : Nat))]
      [Obj.box (42 : Nat) (AV.agg [AV.lst (25 : Nat) (A26c.l a), AV.mp (1 : Nat)]),
        Dn.Obj.map (3 : Nat) (3 : Nat) (mkM (A26c.ps a)),
        Obj.box (25 : Nat) (AV.slc (3 : Nat) (0 : Nat) (List.length (A26c.o a))), Obj.row (3 : Nat) (mkI (A26c.o a))]))) := by kernel_rfl


theorem l26c : LoopOk E26b 12 26 14 (loopE 2 st26c side26c out26c) := by
  refine loopE_ok (fun a => (a.c - a.k).toNat) ?_
  rintro ⟨l, ps, c, k, o⟩ K ⟨h1, h2, h3, h4⟩ ho
  refine Eq.mpr (x26c _ _ _ K) ?_
  simp only at h1 h2 h3 h4 ⊢
  simp only [brn_iff, cnd_iff, decide_eq_true_eq, decide_eq_false_iff_not]
  refine ⟨fun hk => ?_, fun hk => ?_⟩
  · have hlen := h3.len
    have hcp := h3.put h1 hk
    rw [wrap_ok (by omega) (by omega)]
    have next : ∀ o', (∃ t, o' = o ++ t) → Cols c o' → (∀ x : Int, 0 ≤ x → x < k + 1 → x < c → x ∈ o') → ∃ m, m < (c - k).toNat ∧ invOf st26c side26c out26c (fun a => (a.c - a.k).toNat) K m (st26c ⟨l, ps, c, k + 1, o'⟩) := by
      rintro o' ⟨t, ht⟩ hc' hx
      refine ⟨_, ?_, _, rfl, ⟨by simp only; omega, h2, hc', hx⟩, rfl, fun y hy => ho y ⟨?_, hy.2⟩⟩
      · simp only; omega
      · obtain ⟨u, hu⟩ := hy.1
        exact ⟨t ++ u, by rw [hu, ht, List.append_assoc]⟩
    refine ⟨trivial, ⟨l, ps, k, o⟩, rfl, by show o.length ≤ 1000; omega, fun hh => ?_, fun hh => ?_⟩
    · refine next o ⟨[], by simp⟩ h3 (fun x h0 hxk hxc => ?_)
      by_cases e : x = k
      · subst e; simpa [hasI] using hh
      · exact h4 x h0 (by omega) hxc
    · rw [if_neg (by rw [hh]; simp)] at hcp
      have := next (o ++ [k]) ⟨[k], rfl⟩ hcp (fun x h0 hxk hxc => by
        by_cases e : x = k
        · subst e; simp
        · exact List.mem_append_left _ (h4 x h0 (by omega) hxc))
      simp only [st26c, List.length_append, List.length_singleton, ← mkI_snoc] at this
      exact this
  · exact ho o ⟨⟨[], by simp⟩, h3, fun x h0 hx => h4 x h0 (by simp only at hx; omega) hx⟩

noncomputable def E26c : Env := E26b.addLoop 26 14 (loopE 2 st26c side26c out26c)
theorem e26c : EnvOK E26c := e26b.addLoop m26b l26c
theorem m26c : EnvMono E26c := m26b.addLoop loopE_mono

/-! ### order -/
structure A26f where
  l : List AV
  ps : List (Int × Int)
  i : Int
  c : Int

def stc26 (a : A26f) : List AV × List Dn.Obj := ([.ptr 0 0 [] 0, .int a.i, .int a.c], [.box 42 (.agg [.lst 25 a.l, .mp 1]), .map 3 3 (mkM a.ps)])
def sidec26 (a : A26f) : Prop := (fitB a.l = true ∧ GoodSets a.c a.l ∧ WfP a.l.length a.ps ∧ ∃ Z, Part (edgeL a.l) a.l.length a.l.length (bP a.ps) Z) ∧ 0 ≤ a.i ∧ a.i < a.l.length
/-- An order: all columns, and it serves a chain's sets. -/
def Order (l : List AV) (ps : List (Int × Int)) (c : Int) (i : Nat) (o : List Int) : Prop := Cols c o ∧ (∀ x : Int, 0 ≤ x → x < c → x ∈ o) ∧ ∀ m t, Down (bP ps) l.length m t i → SrvI o (setL l m)
def outc26 (a : A26f) : Out (AV × List Dn.Obj) := .all (Order a.l a.ps a.c a.i.toNat) fun o => .one (.lst 3 (mkI o), [.box 42 (.agg [.lst 25 a.l, .mp 1]), .map 3 3 (mkM a.ps)])

theorem y26 (a : A26f) (K : AV → List Dn.Obj → Prop) : (funA E26c 12 26 (stc26 a).1 (stc26 a).2 K) = (
  loopCode (Env.P F11) (26 : Nat) (3 : Nat) = loopCode (Env.P F11) (26 : Nat) (3 : Nat) ∧
  ∃ (a_1 : A26),
    sp (71 : Nat)
          [((0 : Nat), AV.ptr (0 : Nat) (0 : Nat) [] (0 : Nat)), ((1 : Nat), AV.lit (Value.int IntKind.i64 (A26f.i a))),
            ((2 : Nat), AV.lit (Value.int IntKind.i64 (A26f.c a))), ((7 : Nat), AV.mp (2 : Nat)),
            ((20 : Nat), AV.ptr (3 : Nat) (0 : Nat) [] (0 : Nat))]
          [Obj.box (42 : Nat) (AV.agg [AV.lst (25 : Nat) (A26f.l a), AV.mp (1 : Nat)]),
            Dn.Obj.map (3 : Nat) (3 : Nat) (mkM (A26f.ps a)), Dn.Obj.map (3 : Nat) (3 : Nat) [],
            Obj.iter (1 : Nat) (List.length (mkM (A26f.ps a))) []] =
        sp (71 : Nat)
          [((0 : Nat), AV.ptr (0 : Nat) (0 : Nat) [] (0 : Nat)),
            ((1 : Nat), AV.lit (Value.int IntKind.i64 (A26.i a_1))),
            ((2 : Nat), AV.lit (Value.int IntKind.i64 (A26.c a_1))), ((7 : Nat), AV.mp (2 : Nat)),
            ((20 : Nat), AV.ptr (3 : Nat) (0 : Nat) [] (0 : Nat))]
          [Obj.box (42 : Nat) (AV.agg [AV.lst (25 : Nat) (A26.l a_1), AV.mp (1 : Nat)]),
            Dn.Obj.map (3 : Nat) (3 : Nat) (mkM (A26.ps a_1)), Dn.Obj.map (3 : Nat) (3 : Nat) (mkM (A26.qs a_1)),
            Obj.iter (1 : Nat) (List.length (mkM (A26.ps a_1))) (List.map VI (A26.vs a_1))] ∧
      Nx (A26.ps a_1) (A26.vs a_1) (A26.qs a_1) ∧
        ∀ (y : List (Int × Int)),
          Nx (A26.ps a_1) (List.map (fun (x : Int × Int) => Prod.fst x) (A26.ps a_1)) y →
            cnd (decide ((0 : Int) ≤ A26.i a_1) && decide (A26.i a_1 < (↑(List.length (A26.l a_1)) : Int)))
              (loopCode (Env.P E26a) (37 : Nat) (1 : Nat) = loopCode (Env.P E26a) (37 : Nat) (1 : Nat) ∧
                ∃ (a : A37),
                  sp (20 : Nat)
                        [((1 : Nat), AV.ptr (3 : Nat) (0 : Nat) [] (0 : Nat)),
                          ((5 : Nat), AV.lst (3 : Nat) (toLst (nth (A26.l a_1) (Int.toNat (A26.i a_1))))),
                          ((6 : Nat),
                            AV.lit
                              (Value.int IntKind.i64
                                (↑(List.length (toLst (nth (A26.l a_1) (Int.toNat (A26.i a_1))))) : Int))),
                          ((7 : Nat), AV.lit (Value.int IntKind.i64 (0 : Int)))]
                        [Obj.box (42 : Nat) (AV.agg [AV.lst (25 : Nat) (A26.l a_1), AV.mp (1 : Nat)]),
                          Dn.Obj.map (3 : Nat) (3 : Nat) (mkM (A26.ps a_1)), Dn.Obj.map (3 : Nat) (3 : Nat) (mkM y),
                          Obj.box (25 : Nat) (AV.slc (4 : Nat) (0 : Nat) (0 : Nat)), Obj.row (3 : Nat) []] =
                      sp (20 : Nat)
                        [((1 : Nat), AV.ptr (3 : Nat) (0 : Nat) [] (0 : Nat)), ((5 : Nat), AV.lst (3 : Nat) (A37.s a)),
                          ((6 : Nat), AV.lit (Value.int IntKind.i64 (↑(List.length (A37.s a)) : Int))),
                          ((7 : Nat), AV.lit (Value.int IntKind.i64 (A37.i a)))]
                        [Obj.box (42 : Nat) (AV.agg [AV.lst (25 : Nat) (A37.l a), AV.mp (1 : Nat)]),
                          Dn.Obj.map (3 : Nat) (3 : Nat) (mkM (A37.ps a)),
                          Dn.Obj.map (3 : Nat) (3 : Nat) (mkM (A37.qs a)),
                          Obj.box (25 : Nat) (AV.slc (4 : Nat) (0 : Nat) (List.length (A37.o a))),
                          Obj.row (3 : Nat) (mkI (A37.o a))] ∧
                    (((0 : Int) ≤ A37.i a ∧
                          A37.i a ≤ (↑(List.length (A37.s a)) : Int) ∧ List.length (A37.s a) ≤ (1000 : Nat)) ∧
                        ∃ (c : Int),
                          c ≤ (8 : Int) ∧
                            Cols c (A37.o a) ∧ ∀ (x : Int), List.Mem x (ints (A37.s a)) → (0 : Int) ≤ x ∧ x < c) ∧
                      loopCode (Env.P J37) (26 : Nat) (10 : Nat) = loopCode (Env.P J37) (26 : Nat) (10 : Nat) ∧
                        ∃ (a_2 : A26b),
                          sp (71 : Nat)
                                [((0 : Nat), AV.ptr (0 : Nat) (0 : Nat) [] (0 : Nat)),
                                  ((2 : Nat), AV.lit (Value.int IntKind.i64 (A26.c a_1))), ((7 : Nat), AV.mp (2 : Nat)),
                                  ((10 : Nat), AV.ptr (3 : Nat) (0 : Nat) [] (0 : Nat)),
                                  ((11 : Nat), AV.clo (37 : Nat) [AV.ptr (3 : Nat) (0 : Nat) [] (0 : Nat)]),
                                  ((12 : Nat),
                                    AV.lit
                                      (Value.int IntKind.i64
                                        (toInt
                                          (getK (mkM (A37.qs a)) (Value.int IntKind.i64 (A26.i a_1))
                                            (AV.lit (Value.int IntKind.i64 (0 : Int))))))),
                                  ((13 : Nat),
                                    AV.lit (Value.bool (hasK (mkM (A37.qs a)) (Value.int IntKind.i64 (A26.i a_1)))))]
                                [Obj.box (42 : Nat) (AV.agg [AV.lst (25 : Nat) (A37.l a), AV.mp (1 : Nat)]),
                                  Dn.Obj.map (3 : Nat) (3 : Nat) (mkM (A37.ps a)),
                                  Dn.Obj.map (3 : Nat) (3 : Nat) (mkM (A37.qs a)),
                                  Obj.box (25 : Nat)
                                    (AV.slc (4 : Nat) (0 : Nat)
                                      (List.length
                                        (putI (A37.o a) (List.drop (Int.toNat (A37.i a)) (ints (A37.s a)))))),
                                  Obj.row (3 : Nat)
                                    (mkI (putI (A37.o a) (List.drop (Int.toNat (A37.i a)) (ints (A37.s a)))))] =
                              sp (71 : Nat)
                                [((0 : Nat), AV.ptr (0 : Nat) (0 : Nat) [] (0 : Nat)),
                                  ((2 : Nat), AV.lit (Value.int IntKind.i64 (A26b.c a_2))),
                                  ((7 : Nat), AV.mp (2 : Nat)), ((10 : Nat), AV.ptr (3 : Nat) (0 : Nat) [] (0 : Nat)),
                                  ((11 : Nat), AV.clo (37 : Nat) [AV.ptr (3 : Nat) (0 : Nat) [] (0 : Nat)]),
                                  ((12 : Nat),
                                    AV.lit
                                      (Value.int IntKind.i64 (lookP (A26b.qs a_2) (↑(A26b.j a_2) : Int) (0 : Int)))),
                                  ((13 : Nat), AV.lit (Value.bool (hasP (A26b.qs a_2) (↑(A26b.j a_2) : Int))))]
                                [Obj.box (42 : Nat) (AV.agg [AV.lst (25 : Nat) (A26b.l a_2), AV.mp (1 : Nat)]),
                                  Dn.Obj.map (3 : Nat) (3 : Nat) (mkM (A26b.ps a_2)),
                                  Dn.Obj.map (3 : Nat) (3 : Nat) (mkM (A26b.qs a_2)),
                                  Obj.box (25 : Nat) (AV.slc (4 : Nat) (0 : Nat) (List.length (A26b.o a_2))),
                                  Obj.row (3 : Nat) (mkI (A26b.o a_2))] ∧
                            ((fitB (A26b.l a_2) = true ∧
                                  (A26b.c a_2 ≤ (8 : Int) ∧
                                      ∀ (j : Nat),
                                        j < List.length (A26b.l a_2) → Cols (A26b.c a_2) (setL (A26b.l a_2) j)) ∧
                                    WfP (List.length (A26b.l a_2)) (A26b.ps a_2) ∧
                                      Nx (A26b.ps a_2) (List.map (fun (x : Int × Int) => Prod.fst x) (A26b.ps a_2))
                                          (A26b.qs a_2) ∧
                                        ∃ (Z : Nat → Prop),
                                          Part (edgeL (A26b.l a_2)) (List.length (A26b.l a_2))
                                            (List.length (A26b.l a_2)) (bP (A26b.ps a_2)) Z) ∧
                                A26b.j a_2 < List.length (A26b.l a_2) ∧
                                  Cols (A26b.c a_2) (A26b.o a_2) ∧
                                    Alike (A26b.o a_2) (setL (A26b.l a_2) (A26b.j a_2))) ∧
                              ∀ (y : List Int),
                                ((∃ (t : List Int), y = A26b.o a_2 ++ t) ∧
                                    Cols (A26b.c a_2) y ∧
                                      ∀ (m t : Nat),
                                        Down (bP (A26b.ps a_2)) (List.length (A26b.l a_2)) m t (A26b.j a_2) →
                                          List.length (setL (A26b.l a_2) m) ≤ List.length y ∧
                                            (∀ (x : Int),
                                                List.Mem x (List.take (List.length (setL (A26b.l a_2) m)) y) →
                                                  List.Mem x (setL (A26b.l a_2) m)) ∧
                                              ∀ (x : Int),
                                                List.Mem x (setL (A26b.l a_2) m) →
                                                  List.Mem x (List.take (List.length (setL (A26b.l a_2) m)) y)) →
                                  loopCode (Env.P E26b) (26 : Nat) (14 : Nat) =
                                      loopCode (Env.P E26b) (26 : Nat) (14 : Nat) ∧
                                    ∃ (a : A26c),
                                      sp (71 : Nat)
                                            [((10 : Nat), AV.ptr (2 : Nat) (0 : Nat) [] (0 : Nat)),
                                              ((11 : Nat), AV.clo (37 : Nat) [AV.ptr (2 : Nat) (0 : Nat) [] (0 : Nat)]),
                                              ((61 : Nat), AV.lit (Value.int IntKind.i64 (A26b.c a_2))),
                                              ((62 : Nat), AV.lit (Value.int IntKind.i64 (0 : Int)))]
                                            [Obj.box (42 : Nat)
                                                (AV.agg [AV.lst (25 : Nat) (A26b.l a_2), AV.mp (1 : Nat)]),
                                              Dn.Obj.map (3 : Nat) (3 : Nat) (mkM (A26b.ps a_2)),
                                              Obj.box (25 : Nat) (AV.slc (3 : Nat) (0 : Nat) (List.length y)),
                                              Obj.row (3 : Nat) (mkI y)] =
                                          sp (71 : Nat)
                                            [((10 : Nat), AV.ptr (2 : Nat) (0 : Nat) [] (0 : Nat)),
                                              ((11 : Nat), AV.clo (37 : Nat) [AV.ptr (2 : Nat) (0 : Nat) [] (0 : Nat)]),
                                              ((61 : Nat), AV.lit (Value.int IntKind.i64 (A26c.c a))),
                                              ((62 : Nat), AV.lit (Value.int IntKind.i64 (A26c.k a)))]
                                            [Obj.box (42 : Nat)
                                                (AV.agg [AV.lst (25 : Nat) (A26c.l a), AV.mp (1 : Nat)]),
                                              Dn.Obj.map (3 : Nat) (3 : Nat) (mkM (A26c.ps a)),
                                              Obj.box (25 : Nat) (AV.slc (3 : Nat) (0 : Nat) (List.length (A26c.o a))),
                                              Obj.row (3 : Nat) (mkI (A26c.o a))] ∧
                                        ((0 : Int) ≤ A26c.k a ∧
                                            A26c.c a ≤ (8 : Int) ∧
                                              Cols (A26c.c a) (A26c.o a) ∧
                                                ∀ (x : Int),
                                                  (0 : Int) ≤ x → x < A26c.k a → x < A26c.c a → List.Mem x (A26c.o a)) ∧
                                          ∀ (y : List Int),
                                            ((∃ (t : List Int), y = A26c.o a ++ t) ∧
                                                Cols (A26c.c a) y ∧
                                                  ∀ (x : Int), (0 : Int) ≤ x → x < A26c.c a → List.Mem x y) →
                                              K
                                                (AV.lst (3 : Nat)
                                                  (List.take (List.length y) (List.drop (0 : Nat) (mkI y))))
                                                [Obj.box (42 : Nat)
                                                    (AV.agg [AV.lst (25 : Nat) (A26c.l a), AV.mp (1 : Nat)]),
                                                  Dn.Obj.map (3 : Nat) (3 : Nat) (mkM (A26c.ps a))])) := by kernel_rfl


theorem srv_more {o s t : List Int} (h : SrvI o s) : SrvI (o ++ t) s := by
  have e : (o ++ t).take s.length = o.take s.length := List.take_append_of_le_length h.1
  exact ⟨by rw [List.length_append]; have := h.1; omega, by rw [e]; exact h.2.1, by rw [e]; exact h.2.2⟩

theorem c26 : CallOk E26c 12 26 (callE stc26 sidec26 outc26) := by
  refine callE_ok ?_
  rintro ⟨l, ps, i, c⟩ K ⟨⟨h1, h2, h3, Z, h4⟩, h5, h6⟩ ho
  rw [y26]
  simp only at h1 h2 h3 h4 h5 h6 ⊢
  obtain ⟨i, rfl⟩ := Int.eq_ofNat_of_zero_le h5
  have hil : i < l.length := by omega
  have hci := h2.2 i hil
  have hlen := hci.len
  have hc8 := h2.1
  rw [ints_length] at hlen
  have hnil : Cols c [] := ⟨List.nodup_nil, fun x hx => by simp at hx⟩
  have hcp := putI_cols (setL l i) [] hnil hci.in_
  have hal : Alike (putI [] (setL l i)) (setL l i) := alike_of hcp hci (fun x hx => by simpa using (putI_mem _ _ _).1 hx) (fun x hx => (putI_mem _ _ _).2 (.inr hx))
  simp only [getK_mkM, hasK_mkM, cnd_iff, Bool.and_eq_true, decide_eq_true_eq, Int.toNat_natCast, List.drop_zero]
  refine ⟨trivial, ⟨l, ps, i, c, [], []⟩, rfl, ⟨fun j h => by simp [hasP] at h, fun k h => by simp at h⟩, fun qs hq => ⟨⟨h5, h6⟩, trivial, ⟨l, ps, qs, toLst (nth l i), 0, []⟩, rfl,
    ⟨⟨Int.le_refl _, by simp only; omega, by simp only; omega⟩, c, hc8, hnil, hci.in_⟩, trivial, ⟨l, ps, qs, c, i, putI [] (setL l i)⟩, rfl, ⟨⟨h1, h2, h3, hq, Z, h4⟩, hil, hcp, hal⟩,
    fun o1 ho1 => ⟨trivial, ⟨l, ps, c, 0, o1⟩, rfl, ⟨Int.le_refl _, hc8, ho1.2.1, fun x h0 hx => by simp only at hx; omega⟩, fun o2 ho2 => ?_⟩⟩⟩
  have := ho o2 ⟨ho2.2.1, ho2.2.2, fun m u hm => ?_⟩
  · simp only [take_mkI]
    exact this
  · obtain ⟨t, ht⟩ := ho2.1
    simp only at ht
    rw [ht]
    exact srv_more (ho1.2.2 m u hm)

noncomputable def F26 : Env := E26c.addCall 26 (callE stc26 sidec26 outc26)
theorem eF26 : EnvOK F26 := e26c.addCall m26c c26
theorem mF26 : EnvMono F26 := m26c.addCall callE_mono

end Go.Proofs.Ytpjkphcfkpcfgaa
