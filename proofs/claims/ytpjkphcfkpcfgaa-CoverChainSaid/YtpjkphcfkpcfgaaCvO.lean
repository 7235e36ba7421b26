import Derived.Test.YtpjkphcfkpcfgaaCvN
/-
  order: a chain's sets, one behind the other.
-/
namespace Go.Proofs.Ytpjkphcfkpcfgaa
open Go Go.Dn Go.Proofs

abbrev setL (l : List AV) (j : Nat) : List Int := ints (toLst (nth l j))

/-- An order serves a set. -/
def SrvI (o s : List Int) : Prop := s.length ≤ o.length ∧ (∀ x, x ∈ o.take s.length → x ∈ s) ∧ ∀ x, x ∈ s → x ∈ o.take s.length

/-- The same columns. -/
structure Alike (o s : List Int) : Prop where
  len : o.length = s.length
  fwd : ∀ x, x ∈ o → x ∈ s
  bwd : ∀ x, x ∈ s → x ∈ o

theorem Alike.srv {o s t : List Int} (h : Alike o s) : SrvI (o ++ t) s := by
  have e : (o ++ t).take s.length = o := by rw [← h.len, List.take_left]
  exact ⟨by rw [List.length_append, h.len]; omega, by rw [e]; exact h.fwd, by rw [e]; exact h.bwd⟩

theorem putI_pre : ∀ (s o : List Int), ∃ t, putI o s = o ++ t
  | [], o => ⟨[], by simp [putI]⟩
  | n :: s, o => by
    simp only [putI]
    obtain ⟨t, ht⟩ := putI_pre s (if hasI o n then o else o ++ [n])
    rw [ht]
    split
    · exact ⟨t, rfl⟩
    · exact ⟨n :: t, by simp⟩

theorem putI_mem : ∀ (s o : List Int) (x : Int), x ∈ putI o s ↔ x ∈ o ∨ x ∈ s
  | [], o, x => by simp [putI]
  | n :: s, o, x => by
    simp only [putI]
    rw [putI_mem s]
    split
    · rename_i h
      have : n ∈ o := by simpa [hasI] using h
      simp only [List.mem_cons]
      constructor
      · rintro (h | h)
        · exact .inl h
        · exact .inr (.inr h)
      · rintro (h | rfl | h)
        · exact .inl h
        · exact .inl this
        · exact .inr h
    · rw [List.mem_append, List.mem_singleton, List.mem_cons, or_assoc]

theorem putI_cols {c : Int} : ∀ (s o : List Int), Cols c o → (∀ x, x ∈ s → 0 ≤ x ∧ x < c) → Cols c (putI o s)
  | [], o, h, _ => by simpa [putI] using h
  | n :: s, o, h, hs => by
    simp only [putI]
    have hn := hs n (by simp)
    exact putI_cols s _ (h.put hn.1 hn.2) (fun x hx => hs x (by simp [hx]))

theorem nodup_len {α : Type} [DecidableEq α] {a b : List α} (ha : a.Nodup) (h : ∀ x, x ∈ a → x ∈ b) : a.length ≤ b.length := by
  induction a generalizing b with
  | nil => simp
  | cons x a ih =>
    simp only [List.nodup_cons] at ha
    have hx := h x (by simp)
    have := ih (b := b.erase x) ha.2 (fun y hy => (List.mem_erase_of_ne (fun e => ha.1 (by rw [← e]; exact hy))).2 (h y (by simp [hy])))
    rw [List.length_erase_of_mem hx] at this
    have := List.length_pos_of_mem hx
    simp only [List.length_cons]
    omega

theorem alike_of {c : Int} {o s : List Int} (h : Cols c o) (hs : Cols c s) (h1 : ∀ x, x ∈ o → x ∈ s) (h2 : ∀ x, x ∈ s → x ∈ o) : Alike o s :=
  ⟨Nat.le_antisymm (nodup_len h.once h1) (nodup_len hs.once h2), h1, h2⟩

/-- Sets as they may be. -/
def GoodSets (c : Int) (l : List AV) : Prop := c ≤ 8 ∧ ∀ j, j < l.length → Cols c (setL l j)

theorem edge_sub {l : List AV} {i k : Nat} (h : edgeL l i k = true) : ∀ x, x ∈ setL l i → x ∈ setL l k := by
  simp only [edgeL, insideI, ints_length, Bool.and_eq_true, decide_eq_true_eq, withinI, List.all_eq_true, hasI, List.contains_iff_mem] at h
  exact h.1

/-! ### A row that was there already: till it is replaced, and behind that -/
def stA37 (a : A37) : S := st37 a
def storB (l : List AV) (ps qs : List (Int × Int)) (o : List Int) : List Dn.Obj :=
  [.box 42 (.agg [.lst 25 l, .mp 1]), .map 3 3 (mkM ps), .map 3 3 (mkM qs), .box 25 (.slc 5 0 o.length), .dead, .row 3 (mkI o)]
def stB37 (a : A37) : S := sp 20 [(1, .ptr 3 0 [] 0), (5, .lst 3 a.s), (6, .int a.s.length), (7, .int a.i)] (storB a.l a.ps a.qs a.o)
def outA37 (a : A37) : Out (Exit × S) := .brn (decide ((putI a.o ((ints a.s).drop a.i.toNat)).length = a.o.length)) (.one (.exit 0, sp 20 [] (stor26 a.l a.ps a.qs a.o))) (.one (.exit 0, sp 20 [] (storB a.l a.ps a.qs (putI a.o ((ints a.s).drop a.i.toNat)))))
def outB37 (a : A37) : Out (Exit × S) := .one (.exit 0, sp 20 [] (storB a.l a.ps a.qs (putI a.o ((ints a.s).drop a.i.toNat))))

theorem xA37 (a : A37) (I : Nat → S → Prop) (n : Nat) (K : Exit → S → Prop) : (vc E26a 12 37 none 5 (loopCode Try.prog 37 1) (stA37 a) (loopK E26a 37 1 5 I n K)) = (
  brn (decide (A37.i a < (↑(List.length (A37.s a)) : Int)))
  (cnd (decide ((0 : Int) ≤ A37.i a) && decide (A37.i a < (↑(List.length (A37.s a)) : Int)))
    (cnd
      (decide
        (List.length (List.take (List.length (A37.o a)) (List.drop (0 : Nat) (mkI (A37.o a)))) ≤
          (9223372036854775807 : Nat)))
      (brn
        (!hasI (ints (List.take (List.length (A37.o a)) (List.drop (0 : Nat) (mkI (A37.o a)))))
            (toInt (nth (A37.s a) (Int.toNat (A37.i a)))))
        (cnd (decide ((List.length (A37.o a) + (1 : Nat) + (1 : Nat)) * (9 : Nat) ≤ (70368744177664 : Nat)))
          (∃ (m : Nat),
            m < n ∧
              I m
                (sp (20 : Nat)
                  [((1 : Nat), AV.ptr (3 : Nat) (0 : Nat) [] (0 : Nat)), ((5 : Nat), AV.lst (3 : Nat) (A37.s a)),
                    ((6 : Nat), AV.lit (Value.int IntKind.i64 (↑(List.length (A37.s a)) : Int))),
                    ((7 : Nat), AV.lit (Value.int IntKind.i64 (IntKind.wrap IntKind.i64 (A37.i a + (1 : Int)))))]
                  [Obj.box (42 : Nat) (AV.agg [AV.lst (25 : Nat) (A37.l a), AV.mp (1 : Nat)]),
                    Dn.Obj.map (3 : Nat) (3 : Nat) (mkM (A37.ps a)), Dn.Obj.map (3 : Nat) (3 : Nat) (mkM (A37.qs a)),
                    Obj.box (25 : Nat) (AV.slc (5 : Nat) (0 : Nat) (List.length (A37.o a) + (1 : Nat))), Obj.dead,
                    Obj.row (3 : Nat)
                      (List.take (List.length (A37.o a)) (mkI (A37.o a)) ++
                        [AV.lit (Value.int IntKind.i64 (toInt (nth (A37.s a) (Int.toNat (A37.i a)))))])])))
        (∃ (m : Nat),
          m < n ∧
            I m
              (sp (20 : Nat)
                [((1 : Nat), AV.ptr (3 : Nat) (0 : Nat) [] (0 : Nat)), ((5 : Nat), AV.lst (3 : Nat) (A37.s a)),
                  ((6 : Nat), AV.lit (Value.int IntKind.i64 (↑(List.length (A37.s a)) : Int))),
                  ((7 : Nat), AV.lit (Value.int IntKind.i64 (IntKind.wrap IntKind.i64 (A37.i a + (1 : Int)))))]
                [Obj.box (42 : Nat) (AV.agg [AV.lst (25 : Nat) (A37.l a), AV.mp (1 : Nat)]),
                  Dn.Obj.map (3 : Nat) (3 : Nat) (mkM (A37.ps a)), Dn.Obj.map (3 : Nat) (3 : Nat) (mkM (A37.qs a)),
                  Obj.box (25 : Nat) (AV.slc (4 : Nat) (0 : Nat) (List.length (A37.o a))),
                  Obj.row (3 : Nat) (mkI (A37.o a))])))))
  (K (Exit.exit (0 : Nat))
    (sp (20 : Nat) []
      [Obj.box (42 : Nat) (AV.agg [AV.lst (25 : Nat) (A37.l a), AV.mp (1 : Nat)]),
        Dn.Obj.map (3 : Nat) (3 : Nat) (mkM (A37.ps a)), Dn.Obj.map (3 : Nat) (3 : Nat) (mkM (A37.qs a)),
        Obj.box (25 : Nat) (AV.slc (4 : Nat) (0 : Nat) (List.length (A37.o a))), Obj.row (3 : Nat) (mkI (A37.o a))]))) := by kernel_rfl


theorem xB37 (a : A37) (I : Nat → S → Prop) (n : Nat) (K : Exit → S → Prop) : (vc E26a 12 37 none 5 (loopCode Try.prog 37 1) (stB37 a) (loopK E26a 37 1 5 I n K)) = (
  brn (decide (A37.i a < (↑(List.length (A37.s a)) : Int)))
  (cnd (decide ((0 : Int) ≤ A37.i a) && decide (A37.i a < (↑(List.length (A37.s a)) : Int)))
    (cnd
      (decide
        (List.length (List.take (List.length (A37.o a)) (List.drop (0 : Nat) (mkI (A37.o a)))) ≤
          (9223372036854775807 : Nat)))
      (brn
        (!hasI (ints (List.take (List.length (A37.o a)) (List.drop (0 : Nat) (mkI (A37.o a)))))
            (toInt (nth (A37.s a) (Int.toNat (A37.i a)))))
        (cnd (decide ((List.length (A37.o a) + (1 : Nat) + (1 : Nat)) * (9 : Nat) ≤ (70368744177664 : Nat)))
          (∃ (m : Nat),
            m < n ∧
              I m
                (sp (20 : Nat)
                  [((1 : Nat), AV.ptr (3 : Nat) (0 : Nat) [] (0 : Nat)), ((5 : Nat), AV.lst (3 : Nat) (A37.s a)),
                    ((6 : Nat), AV.lit (Value.int IntKind.i64 (↑(List.length (A37.s a)) : Int))),
                    ((7 : Nat), AV.lit (Value.int IntKind.i64 (IntKind.wrap IntKind.i64 (A37.i a + (1 : Int)))))]
                  [Obj.box (42 : Nat) (AV.agg [AV.lst (25 : Nat) (A37.l a), AV.mp (1 : Nat)]),
                    Dn.Obj.map (3 : Nat) (3 : Nat) (mkM (A37.ps a)), Dn.Obj.map (3 : Nat) (3 : Nat) (mkM (A37.qs a)),
                    Obj.box (25 : Nat) (AV.slc (5 : Nat) (0 : Nat) (List.length (A37.o a) + (1 : Nat))), Obj.dead,
                    Obj.row (3 : Nat)
                      (List.take (List.length (A37.o a)) (mkI (A37.o a)) ++
                        [AV.lit (Value.int IntKind.i64 (toInt (nth (A37.s a) (Int.toNat (A37.i a)))))])])))
        (∃ (m : Nat),
          m < n ∧
            I m
              (sp (20 : Nat)
                [((1 : Nat), AV.ptr (3 : Nat) (0 : Nat) [] (0 : Nat)), ((5 : Nat), AV.lst (3 : Nat) (A37.s a)),
                  ((6 : Nat), AV.lit (Value.int IntKind.i64 (↑(List.length (A37.s a)) : Int))),
                  ((7 : Nat), AV.lit (Value.int IntKind.i64 (IntKind.wrap IntKind.i64 (A37.i a + (1 : Int)))))]
                [Obj.box (42 : Nat) (AV.agg [AV.lst (25 : Nat) (A37.l a), AV.mp (1 : Nat)]),
                  Dn.Obj.map (3 : Nat) (3 : Nat) (mkM (A37.ps a)), Dn.Obj.map (3 : Nat) (3 : Nat) (mkM (A37.qs a)),
                  Obj.box (25 : Nat) (AV.slc (5 : Nat) (0 : Nat) (List.length (A37.o a))), Obj.dead,
                  Obj.row (3 : Nat) (mkI (A37.o a))])))))
  (K (Exit.exit (0 : Nat))
    (sp (20 : Nat) []
      [Obj.box (42 : Nat) (AV.agg [AV.lst (25 : Nat) (A37.l a), AV.mp (1 : Nat)]),
        Dn.Obj.map (3 : Nat) (3 : Nat) (mkM (A37.ps a)), Dn.Obj.map (3 : Nat) (3 : Nat) (mkM (A37.qs a)),
        Obj.box (25 : Nat) (AV.slc (5 : Nat) (0 : Nat) (List.length (A37.o a))), Obj.dead,
        Obj.row (3 : Nat) (mkI (A37.o a))]))) := by kernel_rfl


theorem lA37 : LoopOk E26a 12 37 1 (loopE 5 stA37 side37 outA37) := by
  intro rd base s K hh
  obtain ⟨rfl, rfl, a, hs, h1, h2⟩ := loopE_iff.1 hh
  refine ⟨fun n s => ∃ a, side37 a ∧ a.s.length - a.i.toNat = n ∧ ((s = stA37 a ∧ (outA37 a).run fun x => K x.1 x.2) ∨ (s = stB37 a ∧ (outB37 a).run fun x => K x.1 x.2)), _, ⟨a, h1, rfl, .inl ⟨hs, h2⟩⟩, ?_⟩
  rintro n s' ⟨⟨l, ps, qs, s, i, o⟩, ⟨⟨h1, h2, h3⟩, c, hc, h4, h5⟩, rfl, hd⟩
  simp only at h1 h2 h3 h4 h5 ⊢
  have hlen := h4.len
  have hx : ∀ hi : i < s.length, 0 ≤ toInt (nth s i.toNat) ∧ toInt (nth s i.toNat) < c := fun hi => h5 _ (by
    have := ints_dropI s h1 hi
    exact List.mem_of_mem_drop (i := i.toNat) (by rw [this]; simp))
  have hcp : ∀ hi : i < s.length, hasI o (toInt (nth s i.toNat)) = false → Cols c (o ++ [toInt (nth s i.toNat)]) := fun hi hn => by
    have := h4.put (hx hi).1 (hx hi).2
    rwa [if_neg (by rw [hn]; simp)] at this
  have hput : ∀ hi : i < s.length, hasI o (toInt (nth s i.toNat)) = false → putI o ((ints s).drop i.toNat) = putI (o ++ [toInt (nth s i.toNat)]) ((ints s).drop (i + 1).toNat) := fun hi hn => by
    rw [ints_dropI s h1 hi, putI, if_neg (by rw [hn]; simp)]
  have hsame : ∀ hi : i < s.length, hasI o (toInt (nth s i.toNat)) = true → putI o ((ints s).drop i.toNat) = putI o ((ints s).drop (i + 1).toNat) := fun hi hn => by
    rw [ints_dropI s h1 hi, putI, if_pos hn]
  have hside : ∀ (hi : i < s.length) (o' : List Int), Cols c o' → side37 ⟨l, ps, qs, s, i + 1, o'⟩ := fun hi o' hc' => ⟨⟨by simp only; omega, by simp only; omega, h3⟩, c, hc, hc', h5⟩
  have hB : ∀ n : Int, sp 20 [(1, AV.ptr 3 0 [] 0), (5, AV.lst 3 s), (6, AV.int s.length), (7, AV.int (i + 1))] [Obj.box 42 (AV.agg [AV.lst 25 l, AV.mp 1]), Dn.Obj.map 3 3 (mkM ps), Dn.Obj.map 3 3 (mkM qs), Obj.box 25 (AV.slc 5 0 (o.length + 1)), Obj.dead, Obj.row 3 (mkI o ++ [AV.int n])] = stB37 ⟨l, ps, qs, s, i + 1, o ++ [n]⟩ := fun n => by
    rw [mkI_snoc]; simp only [stB37, storB, List.length_append, List.length_singleton]
  have hw : ∀ hi : i < s.length, IntKind.wrap .i64 (i + 1) = i + 1 := fun hi => wrap_ok (by omega) (by omega)
  rcases hd with ⟨rfl, ho⟩ | ⟨rfl, ho⟩
  · refine Eq.mpr (xA37 _ _ _ K) ?_
    simp only [outA37, Out.run, brn_iff, decide_eq_true_eq, decide_eq_false_iff_not] at ho
    simp only [brn_iff, cnd_iff, decide_eq_true_eq, decide_eq_false_iff_not, Bool.and_eq_true, List.drop_zero, take_mkI, ints_mkI, len_mkI, Bool.not_eq_true', Bool.not_eq_false']
    refine ⟨fun hi => ⟨⟨h1, hi⟩, by omega, fun hn => ⟨by omega, ?_⟩, fun hn => ?_⟩, fun hi => ?_⟩
    · rw [hw hi]
      refine ⟨_, ?_, ⟨l, ps, qs, s, i + 1, o ++ [toInt (nth s i.toNat)]⟩, hside hi _ (hcp hi hn), rfl, .inr ⟨hB _, ?_⟩⟩
      · simp only; omega
      · obtain ⟨t, ht⟩ := putI_pre ((ints s).drop (i + 1).toNat) (o ++ [toInt (nth s i.toNat)])
        have hne : ¬ (putI o ((ints s).drop i.toNat)).length = o.length := by rw [hput hi hn, ht]; simp
        have := ho.2 hne
        rw [hput hi hn] at this
        exact this
    · rw [hw hi]
      refine ⟨_, ?_, ⟨l, ps, qs, s, i + 1, o⟩, hside hi _ h4, rfl, .inl ⟨rfl, ?_⟩⟩
      · simp only; omega
      · simp only [outA37, Out.run, brn_iff, decide_eq_true_eq, decide_eq_false_iff_not]
        rw [hsame hi hn] at ho
        exact ho
    · rw [ints_dropE s h1 hi, putI] at ho
      exact ho.1 rfl
  · refine Eq.mpr (xB37 _ _ _ K) ?_
    have ho' : K (.exit 0) (sp 20 [] (storB l ps qs (putI o ((ints s).drop i.toNat)))) := ho
    simp only [brn_iff, cnd_iff, decide_eq_true_eq, decide_eq_false_iff_not, Bool.and_eq_true, List.drop_zero, take_mkI, ints_mkI, len_mkI, Bool.not_eq_true', Bool.not_eq_false']
    refine ⟨fun hi => ⟨⟨h1, hi⟩, by omega, fun hn => ⟨by omega, ?_⟩, fun hn => ?_⟩, fun hi => ?_⟩
    · rw [hw hi]
      refine ⟨_, ?_, ⟨l, ps, qs, s, i + 1, o ++ [toInt (nth s i.toNat)]⟩, hside hi _ (hcp hi hn), rfl, .inr ⟨hB _, ?_⟩⟩
      · simp only; omega
      · rw [hput hi hn] at ho'; exact ho'
    · rw [hw hi]
      refine ⟨_, ?_, ⟨l, ps, qs, s, i + 1, o⟩, hside hi _ h4, rfl, .inr ⟨rfl, ?_⟩⟩
      · simp only; omega
      · rw [hsame hi hn] at ho'; exact ho'
    · rw [ints_dropE s h1 hi, putI] at ho'
      exact ho'

/-- Contracts by base. -/
def pickB (n : Nat) (a b : LoopSpec) : LoopSpec := fun rd base s K => bif Nat.beq base n then a rd base s K else b rd base s K
theorem pickB_mono {n : Nat} {a b : LoopSpec} (ha : a.Mono) (hb : b.Mono) : (pickB n a b).Mono := fun rd base s K K' hK h => by
  unfold pickB at h ⊢
  cases hn : Nat.beq base n <;> rw [hn] at h
  · exact hb _ _ _ _ _ hK h
  · exact ha _ _ _ _ _ hK h
theorem pickB_ok {E : Env} {N f k n : Nat} {a b : LoopSpec} (ha : LoopOk E N f k a) (hb : LoopOk E N f k b) : LoopOk E N f k (pickB n a b) := fun rd base s K h => by
  unfold pickB at h
  cases hn : Nat.beq base n <;> rw [hn] at h
  · exact hb _ _ _ _ h
  · exact ha _ _ _ _ h

structure A3 where
  l : List AV
  ps : List (Int × Int)
  n : Int
  o : List Int

def st3A (a : A3) : S := sp 20 [(1, .ptr 2 0 [] 0), (5, .slc 4 0 1), (6, .int 1), (7, .int 0)] [.box 42 (.agg [.lst 25 a.l, .mp 1]), .map 3 3 (mkM a.ps), .box 25 (.slc 3 0 a.o.length), .row 3 (mkI a.o), .row 3 [.int a.n]]
def st3A1 (a : A3) : S := sp 20 [(1, .ptr 2 0 [] 0), (5, .slc 4 0 1), (6, .int 1), (7, .int 1)] [.box 42 (.agg [.lst 25 a.l, .mp 1]), .map 3 3 (mkM a.ps), .box 25 (.slc 3 0 a.o.length), .row 3 (mkI a.o), .row 3 [.int a.n]]
def stor3B (a : A3) : List Dn.Obj := [.box 42 (.agg [.lst 25 a.l, .mp 1]), .map 3 3 (mkM a.ps), .box 25 (.slc 5 0 (a.o.length + 1)), .dead, .row 3 [.int a.n], .row 3 (mkI a.o ++ [.int a.n])]
def st3B (a : A3) : S := sp 20 [(1, .ptr 2 0 [] 0), (5, .slc 4 0 1), (6, .int 1), (7, .int 1)] (stor3B a)
def side3 (a : A3) : Prop := a.o.length ≤ 1000
def out3 (a : A3) : Out (Exit × S) := .brn (hasI a.o a.n) (.one (.exit 0, sp 20 [] [.box 42 (.agg [.lst 25 a.l, .mp 1]), .map 3 3 (mkM a.ps), .box 25 (.slc 3 0 a.o.length), .row 3 (mkI a.o), .row 3 [.int a.n]])) (.one (.exit 0, sp 20 [] (stor3B a)))

theorem x3A (a : A3) (I : Nat → S → Prop) (n : Nat) (K : Exit → S → Prop) : (vc E26a 12 37 none 5 (loopCode Try.prog 37 1) (st3A a) (loopK E26a 37 1 5 I n K)) = (
  cnd
  (decide
    (List.length (List.take (List.length (A3.o a)) (List.drop (0 : Nat) (mkI (A3.o a)))) ≤ (9223372036854775807 : Nat)))
  (brn (!hasI (ints (List.take (List.length (A3.o a)) (List.drop (0 : Nat) (mkI (A3.o a))))) (A3.n a))
    (cnd (decide ((List.length (A3.o a) + (1 : Nat) + (1 : Nat)) * (9 : Nat) ≤ (70368744177664 : Nat)))
      (∃ (m : Nat),
        m < n ∧
          I m
            (sp (20 : Nat)
              [((1 : Nat), AV.ptr (2 : Nat) (0 : Nat) [] (0 : Nat)), ((5 : Nat), AV.slc (4 : Nat) (0 : Nat) (1 : Nat)),
                ((6 : Nat), AV.lit (Value.int IntKind.i64 (1 : Int))),
                ((7 : Nat), AV.lit (Value.int IntKind.i64 (1 : Int)))]
              [Obj.box (42 : Nat) (AV.agg [AV.lst (25 : Nat) (A3.l a), AV.mp (1 : Nat)]),
                Dn.Obj.map (3 : Nat) (3 : Nat) (mkM (A3.ps a)),
                Obj.box (25 : Nat) (AV.slc (5 : Nat) (0 : Nat) (List.length (A3.o a) + (1 : Nat))), Obj.dead,
                Obj.row (3 : Nat) [AV.lit (Value.int IntKind.i64 (A3.n a))],
                Obj.row (3 : Nat)
                  (List.take (List.length (A3.o a)) (mkI (A3.o a)) ++ [AV.lit (Value.int IntKind.i64 (A3.n a))])])))
    (∃ (m : Nat),
      m < n ∧
        I m
          (sp (20 : Nat)
            [((1 : Nat), AV.ptr (2 : Nat) (0 : Nat) [] (0 : Nat)), ((5 : Nat), AV.slc (4 : Nat) (0 : Nat) (1 : Nat)),
              ((6 : Nat), AV.lit (Value.int IntKind.i64 (1 : Int))),
              ((7 : Nat), AV.lit (Value.int IntKind.i64 (1 : Int)))]
            [Obj.box (42 : Nat) (AV.agg [AV.lst (25 : Nat) (A3.l a), AV.mp (1 : Nat)]),
              Dn.Obj.map (3 : Nat) (3 : Nat) (mkM (A3.ps a)),
              Obj.box (25 : Nat) (AV.slc (3 : Nat) (0 : Nat) (List.length (A3.o a))), Obj.row (3 : Nat) (mkI (A3.o a)),
              Obj.row (3 : Nat) [AV.lit (Value.int IntKind.i64 (A3.n a))]])))) := by kernel_rfl


theorem x3A1 (a : A3) (I : Nat → S → Prop) (n : Nat) (K : Exit → S → Prop) : (vc E26a 12 37 none 5 (loopCode Try.prog 37 1) (st3A1 a) (loopK E26a 37 1 5 I n K)) = (
  K (Exit.exit (0 : Nat))
  (sp (20 : Nat) []
    [Obj.box (42 : Nat) (AV.agg [AV.lst (25 : Nat) (A3.l a), AV.mp (1 : Nat)]),
      Dn.Obj.map (3 : Nat) (3 : Nat) (mkM (A3.ps a)),
      Obj.box (25 : Nat) (AV.slc (3 : Nat) (0 : Nat) (List.length (A3.o a))), Obj.row (3 : Nat) (mkI (A3.o a)),
      Obj.row (3 : Nat) [AV.lit (Value.int IntKind.i64 (A3.n a))]])) := by kernel_rfl


theorem x3B (a : A3) (I : Nat → S → Prop) (n : Nat) (K : Exit → S → Prop) : (vc E26a 12 37 none 5 (loopCode Try.prog 37 1) (st3B a) (loopK E26a 37 1 5 I n K)) = (
  K (Exit.exit (0 : Nat))
  (sp (20 : Nat) []
    [Obj.box (42 : Nat) (AV.agg [AV.lst (25 : Nat) (A3.l a), AV.mp (1 : Nat)]),
      Dn.Obj.map (3 : Nat) (3 : Nat) (mkM (A3.ps a)),
      Obj.box (25 : Nat) (AV.slc (5 : Nat) (0 : Nat) (List.length (A3.o a) + (1 : Nat))), Obj.dead,
      Obj.row (3 : Nat) [AV.lit (Value.int IntKind.i64 (A3.n a))],
      Obj.row (3 : Nat) (mkI (A3.o a) ++ [AV.lit (Value.int IntKind.i64 (A3.n a))])])) := by kernel_rfl


theorem l3 : LoopOk E26a 12 37 1 (loopE 5 st3A side3 out3) := by
  intro rd base s K hh
  obtain ⟨rfl, rfl, a, hs, h2, ho⟩ := loopE_iff.1 hh
  simp only [side3] at h2
  simp only [out3, Out.run, brn_iff] at ho
  refine ⟨fun m s => (m = 1 ∧ s = st3A a) ∨ (m = 0 ∧ ((hasI a.o a.n = true ∧ s = st3A1 a) ∨ (hasI a.o a.n = false ∧ s = st3B a))), 1, .inl ⟨rfl, hs⟩, ?_⟩
  rintro m s' (⟨rfl, rfl⟩ | ⟨rfl, ⟨hn, rfl⟩ | ⟨hn, rfl⟩⟩)
  · rw [show E26a.P = Try.prog from rfl, x3A]
    simp only [brn_iff, cnd_iff, decide_eq_true_eq, List.drop_zero, take_mkI, ints_mkI, len_mkI, Bool.not_eq_true', Bool.not_eq_false']
    exact ⟨by omega, fun hn => ⟨by omega, 0, by omega, .inr ⟨rfl, .inr ⟨hn, rfl⟩⟩⟩, fun hn => ⟨0, by omega, .inr ⟨rfl, .inl ⟨hn, rfl⟩⟩⟩⟩
  · have h1 := ho.1 hn
    rw [show E26a.P = Try.prog from rfl, x3A1]
    exact h1
  · have h1 := ho.2 hn
    rw [show E26a.P = Try.prog from rfl, x3B]
    exact h1

def isSlc : AV → Bool
  | .slc _ _ _ => true
  | _ => false

noncomputable def J37 : Env := E26a.addLoop 37 1 (pickB 4 (loopE 4 st37 side37 out37) (selSp (fun s => isSlc (nth s.regs 5)) (loopE 5 st3A side3 out3) (loopE 5 stA37 side37 outA37)))
theorem j37 : EnvOK J37 := e26a.addLoop m26a (pickB_ok l37 (selSp_ok l3 lA37))
theorem jm37 : EnvMono J37 := m26a.addLoop (pickB_mono loopE_mono (selSp_mono loopE_mono loopE_mono))

structure A26b where
  l : List AV
  ps : List (Int × Int)
  qs : List (Int × Int)
  c : Int
  j : Nat
  o : List Int

def st26b (a : A26b) : S := sp 71 [(0, .ptr 0 0 [] 0), (2, .int a.c), (7, .mp 2), (10, .ptr 3 0 [] 0), (11, .clo 37 [.ptr 3 0 [] 0]), (12, .int (lookP a.qs a.j 0)), (13, .bool (hasP a.qs a.j))] (stor26 a.l a.ps a.qs a.o)
def side26b (a : A26b) : Prop := (fitB a.l = true ∧ GoodSets a.c a.l ∧ WfP a.l.length a.ps ∧ Nx a.ps (a.ps.map (·.1)) a.qs ∧ ∃ Z, Part (edgeL a.l) a.l.length a.l.length (bP a.ps) Z) ∧ a.j < a.l.length ∧ Cols a.c a.o ∧ Alike a.o (setL a.l a.j)
/-- What a chain comes to. -/
def Chain (l : List AV) (ps : List (Int × Int)) (c : Int) (j : Nat) (o o' : List Int) : Prop := (∃ t, o' = o ++ t) ∧ Cols c o' ∧ ∀ m t, Down (bP ps) l.length m t j → SrvI o' (setL l m)
def out26b (a : A26b) : Out (Exit × S) := .all (Chain a.l a.ps a.c a.j a.o) fun o => .one (.exit 2, sp 71 [(2, .int a.c), (10, .ptr 2 0 [] 0), (11, .clo 37 [.ptr 2 0 [] 0])] [.box 42 (.agg [.lst 25 a.l, .mp 1]), .map 3 3 (mkM a.ps), .box 25 (.slc 3 0 o.length), .row 3 (mkI o)])

theorem x26b (a : A26b) (I : Nat → S → Prop) (n : Nat) (K : Exit → S → Prop) : (vc J37 12 26 none 2 (loopCode Try.prog 26 10) (st26b a) (loopK J37 26 10 2 I n K)) = (
  brn (hasP (A26b.qs a) (↑(A26b.j a) : Int))
  (cnd
    (decide ((0 : Int) ≤ lookP (A26b.qs a) (↑(A26b.j a) : Int) (0 : Int)) &&
      decide (lookP (A26b.qs a) (↑(A26b.j a) : Int) (0 : Int) < (↑(List.length (A26b.l a)) : Int)))
    (loopCode (Env.P E26a) (37 : Nat) (1 : Nat) = loopCode (Env.P E26a) (37 : Nat) (1 : Nat) ∧
      ∃ (a_1 : A37),
        sp (20 : Nat)
              [((1 : Nat), AV.ptr (3 : Nat) (0 : Nat) [] (0 : Nat)),
                ((5 : Nat),
                  AV.lst (3 : Nat)
                    (toLst (nth (A26b.l a) (Int.toNat (lookP (A26b.qs a) (↑(A26b.j a) : Int) (0 : Int)))))),
                ((6 : Nat),
                  AV.lit
                    (Value.int IntKind.i64
                      (↑(List.length
                            (toLst (nth (A26b.l a) (Int.toNat (lookP (A26b.qs a) (↑(A26b.j a) : Int) (0 : Int)))))) :
                        Int))),
                ((7 : Nat), AV.lit (Value.int IntKind.i64 (0 : Int)))]
              [Obj.box (42 : Nat) (AV.agg [AV.lst (25 : Nat) (A26b.l a), AV.mp (1 : Nat)]),
                Dn.Obj.map (3 : Nat) (3 : Nat) (mkM (A26b.ps a)), Dn.Obj.map (3 : Nat) (3 : Nat) (mkM (A26b.qs a)),
                Obj.box (25 : Nat) (AV.slc (4 : Nat) (0 : Nat) (List.length (A26b.o a))),
                Obj.row (3 : Nat) (mkI (A26b.o a))] =
            sp (20 : Nat)
              [((1 : Nat), AV.ptr (3 : Nat) (0 : Nat) [] (0 : Nat)), ((5 : Nat), AV.lst (3 : Nat) (A37.s a_1)),
                ((6 : Nat), AV.lit (Value.int IntKind.i64 (↑(List.length (A37.s a_1)) : Int))),
                ((7 : Nat), AV.lit (Value.int IntKind.i64 (A37.i a_1)))]
              [Obj.box (42 : Nat) (AV.agg [AV.lst (25 : Nat) (A37.l a_1), AV.mp (1 : Nat)]),
                Dn.Obj.map (3 : Nat) (3 : Nat) (mkM (A37.ps a_1)), Dn.Obj.map (3 : Nat) (3 : Nat) (mkM (A37.qs a_1)),
                Obj.box (25 : Nat) (AV.slc (4 : Nat) (0 : Nat) (List.length (A37.o a_1))),
                Obj.row (3 : Nat) (mkI (A37.o a_1))] ∧
          (((0 : Int) ≤ A37.i a_1 ∧
                A37.i a_1 ≤ (↑(List.length (A37.s a_1)) : Int) ∧ List.length (A37.s a_1) ≤ (1000 : Nat)) ∧
              ∃ (c : Int),
                c ≤ (8 : Int) ∧
                  Cols c (A37.o a_1) ∧ ∀ (x : Int), List.Mem x (ints (A37.s a_1)) → (0 : Int) ≤ x ∧ x < c) ∧
            brn
              (decide
                (List.length (putI (A37.o a_1) (List.drop (Int.toNat (A37.i a_1)) (ints (A37.s a_1)))) =
                  List.length (A37.o a_1)))
              (∃ (m : Nat),
                m < n ∧
                  I m
                    (sp (71 : Nat)
                      [((0 : Nat), AV.ptr (0 : Nat) (0 : Nat) [] (0 : Nat)),
                        ((2 : Nat), AV.lit (Value.int IntKind.i64 (A26b.c a))), ((7 : Nat), AV.mp (2 : Nat)),
                        ((10 : Nat), AV.ptr (3 : Nat) (0 : Nat) [] (0 : Nat)),
                        ((11 : Nat), AV.clo (37 : Nat) [AV.ptr (3 : Nat) (0 : Nat) [] (0 : Nat)]),
                        ((12 : Nat),
                          AV.lit
                            (Value.int IntKind.i64
                              (toInt
                                (getK (mkM (A37.qs a_1))
                                  (Value.int IntKind.i64 (lookP (A26b.qs a) (↑(A26b.j a) : Int) (0 : Int)))
                                  (AV.lit (Value.int IntKind.i64 (0 : Int))))))),
                        ((13 : Nat),
                          AV.lit
                            (Value.bool
                              (hasK (mkM (A37.qs a_1))
                                (Value.int IntKind.i64 (lookP (A26b.qs a) (↑(A26b.j a) : Int) (0 : Int))))))]
                      [Obj.box (42 : Nat) (AV.agg [AV.lst (25 : Nat) (A37.l a_1), AV.mp (1 : Nat)]),
                        Dn.Obj.map (3 : Nat) (3 : Nat) (mkM (A37.ps a_1)),
                        Dn.Obj.map (3 : Nat) (3 : Nat) (mkM (A37.qs a_1)),
                        Obj.box (25 : Nat) (AV.slc (4 : Nat) (0 : Nat) (List.length (A37.o a_1))),
                        Obj.row (3 : Nat) (mkI (A37.o a_1))]))
              (∃ (m : Nat),
                m < n ∧
                  I m
                    (sp (71 : Nat)
                      [((0 : Nat), AV.ptr (0 : Nat) (0 : Nat) [] (0 : Nat)),
                        ((2 : Nat), AV.lit (Value.int IntKind.i64 (A26b.c a))), ((7 : Nat), AV.mp (2 : Nat)),
                        ((10 : Nat), AV.ptr (3 : Nat) (0 : Nat) [] (0 : Nat)),
                        ((11 : Nat), AV.clo (37 : Nat) [AV.ptr (3 : Nat) (0 : Nat) [] (0 : Nat)]),
                        ((12 : Nat),
                          AV.lit
                            (Value.int IntKind.i64
                              (toInt
                                (getK (mkM (A37.qs a_1))
                                  (Value.int IntKind.i64 (lookP (A26b.qs a) (↑(A26b.j a) : Int) (0 : Int)))
                                  (AV.lit (Value.int IntKind.i64 (0 : Int))))))),
                        ((13 : Nat),
                          AV.lit
                            (Value.bool
                              (hasK (mkM (A37.qs a_1))
                                (Value.int IntKind.i64 (lookP (A26b.qs a) (↑(A26b.j a) : Int) (0 : Int))))))]
                      [Obj.box (42 : Nat) (AV.agg [AV.lst (25 : Nat) (A37.l a_1), AV.mp (1 : Nat)]),
                        Dn.Obj.map (3 : Nat) (3 : Nat) (mkM (A37.ps a_1)),
                        Dn.Obj.map (3 : Nat) (3 : Nat) (mkM (A37.qs a_1)),
                        Obj.box (25 : Nat)
                          (AV.slc (4 : Nat) (0 : Nat)
                            (List.length (putI (A37.o a_1) (List.drop (Int.toNat (A37.i a_1)) (ints (A37.s a_1)))))),
                        Obj.row (3 : Nat)
                          (mkI (putI (A37.o a_1) (List.drop (Int.toNat (A37.i a_1)) (ints (A37.s a_1)))))]))))
  (K (Exit.exit (2 : Nat))
    (sp (71 : Nat)
      [((2 : Nat), AV.lit (Value.int IntKind.i64 (A26b.c a))), ((10 : Nat), AV.ptr (2 : Nat) (0 : Nat) [] (0 : Nat)),
        ((11 : Nat), AV.clo (37 : Nat) [AV.ptr (2 : Nat) (0 : Nat) [] (0 : Nat)])]
      [Obj.box (42 : Nat) (AV.agg [AV.lst (25 : Nat) (A26b.l a), AV.mp (1 : Nat)]),
        Dn.Obj.map (3 : Nat) (3 : Nat) (mkM (A26b.ps a)),
        Obj.box (25 : Nat) (AV.slc (3 : Nat) (0 : Nat) (List.length (A26b.o a))), Obj.row (3 : Nat) (mkI (A26b.o a))]))) := by kernel_rfl


theorem bP_some {ps : List (Int × Int)} {k : Nat} (h : hasP ps k = true) : bP ps k = lookP ps k 0 := by unfold bP; rw [if_pos h]
theorem hasP_of_bP {ps : List (Int × Int)} {k : Nat} (h : 0 ≤ bP ps k) : hasP ps k = true := by
  unfold bP at h
  cases hk : hasP ps (k : Int) with
  | true => rfl
  | false => rw [hk] at h; simp at h

theorem l26b : LoopOk J37 12 26 10 (loopE 2 st26b side26b out26b) := by
  refine loopE_ok (fun a => 9 - (setL a.l a.j).length) ?_
  rintro ⟨l, ps, qs, c, j, o⟩ K ⟨⟨h1, ⟨hc, h2⟩, h3, h4, Z, h5⟩, h6, h7, h8⟩ ho
  refine Eq.mpr (x26b _ _ _ K) ?_
  simp only at h1 h2 h3 h4 h5 h6 h7 h8 hc ⊢
  simp only [brn_iff, cnd_iff, hasK_mkM, getK_mkM, decide_eq_true_eq, decide_eq_false_iff_not, Bool.and_eq_true]
  refine ⟨fun hq => ?_, fun hq => ?_⟩
  · obtain ⟨g1, g2⟩ := h4.back _ hq
    have hkey := h3.keys _ (hasP_mem (z := 0) g1)
    simp only at hkey
    obtain ⟨k, hk⟩ := Int.eq_ofNat_of_zero_le hkey.1
    rw [hk] at g1 g2 hkey ⊢
    have hkl : k < l.length := by omega
    have hbk : bP ps k = j := by rw [bP_some g1, g2]
    have hE : edgeL l j k = true := by
      have := (h5.fits k hkl (by omega)).2
      rwa [hbk, Int.toNat_natCast] at this
    have hrk := edge_rank l j k hE
    have hck := h2 k hkl
    have hckl := hck.len
    have hcj := (h2 j h6).len
    rw [ints_length] at hckl hcj
    obtain ⟨t, ht⟩ := putI_pre (setL l k) o
    have hcp := putI_cols (setL l k) o h7 hck.in_
    have hal : Alike (putI o (setL l k)) (setL l k) := alike_of hcp hck (fun x hx => by
      rcases (putI_mem _ _ _).1 hx with h | h
      · exact edge_sub hE x (h8.fwd x h)
      · exact h) (fun x hx => (putI_mem _ _ _).2 (.inr hx))
    have next : ∃ m, m < 9 - (setL l j).length ∧ invOf st26b side26b out26b (fun a => 9 - (setL a.l a.j).length) K m (st26b ⟨l, ps, qs, c, k, putI o (setL l k)⟩) := by
      refine ⟨_, ?_, _, rfl, ⟨⟨h1, ⟨hc, h2⟩, h3, h4, Z, h5⟩, hkl, hcp, hal⟩, rfl, fun o' ho' => ho o' ⟨?_, ho'.2.1, fun m u hm => ?_⟩⟩
      · simp only [ints_length]; omega
      · obtain ⟨t', ht'⟩ := ho'.1
        simp only at ht'
        exact ⟨t ++ t', by rw [ht', ht, List.append_assoc]⟩
      · obtain ⟨t', ht'⟩ := ho'.1
        simp only at ht'
        cases u with
        | zero => cases hm; rw [ht', ht, List.append_assoc]; exact h8.srv
        | succ u =>
          obtain ⟨x, f1, f2, f3⟩ := hm.last u rfl
          have : x = k := h5.inj f2 hkl (by simp only at f3; omega) (by simp only at f3; rw [f3, hbk])
          subst this
          exact ho'.2.2 m u f1
    refine ⟨⟨by omega, by omega⟩, trivial, ⟨l, ps, qs, toLst (nth l k), 0, o⟩, rfl, ⟨⟨Int.le_refl _, by simp only; omega, by simp only; omega⟩, c, hc, h7, hck.in_⟩, fun hlen => ?_, fun hlen => ?_⟩
    · have he : putI o (setL l k) = o := by
        simp only [Int.toNat_zero, List.drop_zero] at hlen
        have hl2 : (putI o (setL l k)).length = o.length := hlen
        rw [ht] at hl2 ⊢
        simp at hl2
        rw [hl2, List.append_nil]
      rw [he] at next
      exact next
    · exact next
  · refine ho o ⟨⟨[], by simp⟩, h7, fun m u hm => ?_⟩
    cases u with
    | zero =>
      cases hm
      have := h8.srv (t := [])
      rwa [List.append_nil] at this
    | succ u =>
      exfalso
      obtain ⟨x, f1, f2, f3⟩ := hm.last u rfl
      simp only at f3
      have hx := hasP_of_bP (ps := ps) (k := x) (by omega)
      have := h4.met x (hasP_iff.1 hx) hx
      rw [← bP_some hx, f3, hq] at this
      cases this

noncomputable def E26b : Env := J37.addLoop 26 10 (loopE 2 st26b side26b out26b)
theorem e26b : EnvOK E26b := j37.addLoop jm37 l26b
theorem m26b : EnvMono E26b := jm37.addLoop loopE_mono

end Go.Proofs.Ytpjkphcfkpcfgaa
