import Derived.Test.YtpjkphcfkpcfgaaCvM
/-
  order: columns put one behind the other.
-/
namespace Go.Proofs.Ytpjkphcfkpcfgaa
open Go Go.Dn Go.Proofs

def mkI (xs : List Int) : List AV := xs.map AV.int
theorem ints_mkI (xs : List Int) : ints (mkI xs) = xs := by
  simp only [ints, mkI, List.map_map]; exact (List.map_congr_left fun _ _ => rfl).trans (List.map_id _)
theorem len_mkI (xs : List Int) : (mkI xs).length = xs.length := by simp [mkI]

/-- One behind the other, each once. -/
def putI : List Int → List Int → List Int
  | o, [] => o
  | o, n :: s => putI (if hasI o n then o else o ++ [n]) s

/-- Columns, each once. -/
structure Cols (c : Int) (o : List Int) : Prop where
  once : o.Nodup
  in_ : ∀ x, x ∈ o → 0 ≤ x ∧ x < c

theorem Cols.len {c : Int} {o : List Int} (h : Cols c o) : (o.length : Int) ≤ max c 0 := by
  have h1 := len_num (α := Unit) (n := c.toNat) (ps := o.map fun x => (x, ())) (by simpa [List.map_map, Function.comp_def] using h.once) (fun p hp => by
    obtain ⟨x, hx, rfl⟩ := List.mem_map.1 hp
    have := h.in_ x hx
    exact ⟨this.1, by simp only; omega⟩)
  have h2 := num_le_n (fun k => hasP (o.map fun x => (x, ())) (k : Int)) c.toNat
  simp only [List.length_map] at h1
  omega

theorem Cols.put {c : Int} {o : List Int} (h : Cols c o) {n : Int} (h0 : 0 ≤ n) (h1 : n < c) : Cols c (if hasI o n then o else o ++ [n]) := by
  by_cases hn : hasI o n = true
  · rw [if_pos hn]; exact h
  · rw [if_neg hn]
    have hm : n ∉ o := fun hm => hn (by simpa [hasI] using hm)
    refine ⟨List.nodup_append.2 ⟨h.once, by simp, fun a ha b hb e => ?_⟩, fun x hx => ?_⟩
    · simp only [List.mem_singleton] at hb
      subst hb; subst e; exact hm ha
    · rcases List.mem_append.1 hx with hx | hx
      · exact h.in_ x hx
      · simp only [List.mem_singleton] at hx; subst hx; exact ⟨h0, h1⟩

structure A37 where
  l : List AV
  ps : List (Int × Int)
  qs : List (Int × Int)
  s : List AV
  i : Int
  o : List Int

def stor26 (l : List AV) (ps qs : List (Int × Int)) (o : List Int) : List Dn.Obj :=
  [.box 42 (.agg [.lst 25 l, .mp 1]), .map 3 3 (mkM ps), .map 3 3 (mkM qs), .box 25 (.slc 4 0 o.length), .row 3 (mkI o)]
def st37 (a : A37) : S := sp 20 [(1, .ptr 3 0 [] 0), (5, .lst 3 a.s), (6, .int a.s.length), (7, .int a.i)] (stor26 a.l a.ps a.qs a.o)
def side37 (a : A37) : Prop := (0 ≤ a.i ∧ a.i ≤ a.s.length ∧ a.s.length ≤ 1000) ∧ ∃ c, c ≤ 8 ∧ Cols c a.o ∧ ∀ x, x ∈ ints a.s → 0 ≤ x ∧ x < c
def out37 (a : A37) : Out (Exit × S) := .one (.exit 0, sp 20 [] (stor26 a.l a.ps a.qs (putI a.o ((ints a.s).drop a.i.toNat))))

theorem x37 (a : A37) (I : Nat → S → Prop) (n : Nat) (K : Exit → S → Prop) : (vc E26a 12 37 none 4 (loopCode Try.prog 37 1) (st37 a) (loopK E26a 37 1 4 I n K)) = (
  brn (decide (A37.i a < (↑(List.length (A37.s a)) : Int)))
  (cnd (decide ((0 : Int) ≤ A37.i a) && decide (A37.i a < (↑(List.length (A37.s a)) : Int)))
    (cnd
      (decide
        (List.length (List.take (List.length (A37.o a)) (List.drop (0 : Nat) (mkI (A37.o a)))) ≤
          (9223372036854775807 : Nat)))
      (brn
        (!hasI (ints (List.take (List.length (A37.o a)) (List.drop (0 : Nat) (mkI (A37.o a)))))
            (toInt (nth (A37.s a) (Int.toNat (A37.i a)))))
        (cnd (decide ((List.length (A37.o a) + (1 : Nat) + (1 : Nat)) * (9 : Nat) ≤ (70368744177664 : Nat)))
          (∃ (m : Nat),
            m < n ∧
              I m
                (sp (20 : Nat)
                  [((1 : Nat), AV.ptr (3 : Nat) (0 : Nat) [] (0 : Nat)), ((5 : Nat), AV.lst (3 : Nat) (A37.s a)),
                    ((6 : Nat), AV.lit (Value.int IntKind.i64 (↑(List.length (A37.s a)) : Int))),
                    ((7 : Nat), AV.lit (Value.int IntKind.i64 (IntKind.wrap IntKind.i64 (A37.i a + (1 : Int)))))]
                  [Obj.box (42 : Nat) (AV.agg [AV.lst (25 : Nat) (A37.l a), AV.mp (1 : Nat)]),
                    Dn.Obj.map (3 : Nat) (3 : Nat) (mkM (A37.ps a)), Dn.Obj.map (3 : Nat) (3 : Nat) (mkM (A37.qs a)),
                    Obj.box (25 : Nat) (AV.slc (4 : Nat) (0 : Nat) (List.length (A37.o a) + (1 : Nat))),
                    Obj.row (3 : Nat)
                      (List.take (List.length (A37.o a)) (mkI (A37.o a)) ++
                        [AV.lit (Value.int IntKind.i64 (toInt (nth (A37.s a) (Int.toNat (A37.i a)))))])])))
        (∃ (m : Nat),
          m < n ∧
            I m
              (sp (20 : Nat)
                [((1 : Nat), AV.ptr (3 : Nat) (0 : Nat) [] (0 : Nat)), ((5 : Nat), AV.lst (3 : Nat) (A37.s a)),
                  ((6 : Nat), AV.lit (Value.int IntKind.i64 (↑(List.length (A37.s a)) : Int))),
                  ((7 : Nat), AV.lit (Value.int IntKind.i64 (IntKind.wrap IntKind.i64 (A37.i a + (1 : Int)))))]
                [Obj.box (42 : Nat) (AV.agg [AV.lst (25 : Nat) (A37.l a), AV.mp (1 : Nat)]),
                  Dn.Obj.map (3 : Nat) (3 : Nat) (mkM (A37.ps a)), Dn.Obj.map (3 : Nat) (3 : Nat) (mkM (A37.qs a)),
                  Obj.box (25 : Nat) (AV.slc (4 : Nat) (0 : Nat) (List.length (A37.o a))),
                  Obj.row (3 : Nat) (mkI (A37.o a))])))))
  (K (Exit.exit (0 : Nat))
    (sp (20 : Nat) []
      [Obj.box (42 : Nat) (AV.agg [AV.lst (25 : Nat) (A37.l a), AV.mp (1 : Nat)]),
        Dn.Obj.map (3 : Nat) (3 : Nat) (mkM (A37.ps a)), Dn.Obj.map (3 : Nat) (3 : Nat) (mkM (A37.qs a)),
        Obj.box (25 : Nat) (AV.slc (4 : Nat) (0 : Nat) (List.length (A37.o a))), Obj.row (3 : Nat) (mkI (A37.o a))]))) := by kernel_rfl


theorem take_mkI (o : List Int) : List.take o.length (mkI o) = mkI o := List.take_of_length_le (by rw [len_mkI]; exact Nat.le_refl _)
theorem mkI_snoc (o : List Int) (n : Int) : mkI o ++ [AV.int n] = mkI (o ++ [n]) := by simp [mkI]

theorem st37_next (l : List AV) (ps qs : List (Int × Int)) (s : List AV) (i : Int) (o : List Int) (n : Int) :
    sp 20 [(1, AV.ptr 3 0 [] 0), (5, AV.lst 3 s), (6, AV.int s.length), (7, AV.int i)] [Obj.box 42 (AV.agg [AV.lst 25 l, AV.mp 1]), Dn.Obj.map 3 3 (mkM ps), Dn.Obj.map 3 3 (mkM qs), Obj.box 25 (AV.slc 4 0 (o.length + 1)), Obj.row 3 (List.take o.length (mkI o) ++ [AV.int n])] = st37 ⟨l, ps, qs, s, i, o ++ [n]⟩ := by
  rw [take_mkI, mkI_snoc]
  simp only [st37, stor26, List.length_append, List.length_singleton]

theorem l37 : LoopOk E26a 12 37 1 (loopE 4 st37 side37 out37) := by
  refine loopE_ok (fun a => a.s.length - a.i.toNat) ?_
  rintro ⟨l, ps, qs, s, i, o⟩ K ⟨⟨h1, h2, h3⟩, c, hc, h4, h5⟩ ho
  refine Eq.mpr (x37 _ _ _ K) ?_
  simp only at h1 h2 h3 h4 h5 ⊢
  have ho' : K (.exit 0) (sp 20 [] (stor26 l ps qs (putI o ((ints s).drop i.toNat)))) := ho
  have hlen := h4.len
  simp only [brn_iff, cnd_iff, decide_eq_true_eq, decide_eq_false_iff_not, Bool.and_eq_true, List.drop_zero, take_mkI, ints_mkI, len_mkI, Bool.not_eq_true', Bool.not_eq_false']
  have step : ∀ (hi : i < s.length) (o' : List Int), Cols c o' → putI o ((ints s).drop i.toNat) = putI o' ((ints s).drop (i + 1).toNat) → ∃ m, m < s.length - i.toNat ∧ invOf st37 side37 out37 (fun a => a.s.length - a.i.toNat) K m (st37 ⟨l, ps, qs, s, i + 1, o'⟩) := by
    intro hi o' hc' he
    refine ⟨_, ?_, ⟨l, ps, qs, s, i + 1, o'⟩, rfl, ⟨⟨by simp only; omega, by simp only; omega, h3⟩, c, hc, hc', h5⟩, rfl, ?_⟩
    · simp only; omega
    · rw [he] at ho'; exact ho'
  refine ⟨fun hi => ⟨⟨h1, hi⟩, by omega, fun hn => ⟨by omega, ?_⟩, fun hn => ?_⟩, fun hi => ?_⟩
  · rw [wrap_ok (by omega) (by omega)]
    have hx : 0 ≤ toInt (nth s i.toNat) ∧ toInt (nth s i.toNat) < c := h5 _ (by
      have := ints_dropI s h1 hi
      exact List.mem_of_mem_drop (i := i.toNat) (by rw [this]; simp))
    have hcp := h4.put hx.1 hx.2
    rw [if_neg (by rw [hn]; simp)] at hcp
    have := step hi (o ++ [toInt (nth s i.toNat)]) hcp (by rw [ints_dropI s h1 hi, putI, if_neg (by rw [hn]; simp)])
    rw [← st37_next, take_mkI] at this
    exact this
  · rw [wrap_ok (by omega) (by omega)]
    exact step hi o h4 (by rw [ints_dropI s h1 hi, putI, if_pos hn])
  · rw [ints_dropE s h1 hi, putI] at ho'
    exact ho'

noncomputable def E37 : Env := E26a.addLoop 37 1 (loopE 4 st37 side37 out37)
theorem e37 : EnvOK E37 := e26a.addLoop m26a l37
theorem m37 : EnvMono E37 := m26a.addLoop loopE_mono

end Go.Proofs.Ytpjkphcfkpcfgaa
