import Derived.Test.YtpjkphcfkpcfgaaCvQ
/-
  shown.
-/
namespace Go.Proofs.Ytpjkphcfkpcfgaa
open Go Go.Dn Go.Proofs

theorem brn_yes {b : Bool} {p q : Prop} (h : b = true) (hp : p) : brn b p q := by subst h; exact hp

def sh1 : List AV := [.lst 3 [.int 0], .lst 3 [.int 0, .int 1], .lst 3 [.int 0, .int 1, .int 2]]
def sh2 : List AV := [.lst 3 [.int 0], .lst 3 [.int 1], .lst 3 [.int 0, .int 1]]
def sh3 : List AV := [.lst 3 [.int 1], .lst 3 [.int 1, .int 2]]

theorem sh1_w : Width sh1 1 := by
  refine ⟨⟨fun k => k == 0, fun i j hi hj h1 h2 => ?_, by decide⟩, fun q hq => ?_⟩
  · simp only [beq_iff_eq] at h1 h2; subst h1; subst h2; rfl
  · have h01 := hq 0 1 (by decide) (by decide)
    have h02 := hq 0 2 (by decide) (by decide)
    have h12 := hq 1 2 (by decide) (by decide)
    rw [show edgeL sh1 0 1 = true from rfl] at h01
    rw [show edgeL sh1 0 2 = true from rfl] at h02
    rw [show edgeL sh1 1 2 = true from rfl] at h12
    show num q 3 ≤ 1
    simp only [num]
    cases h0 : q 0 <;> cases h1 : q 1 <;> cases h2 : q 2 <;> simp [h0, h1, h2] at h01 h02 h12 ⊢

theorem sh2_w : Width sh2 2 := by
  refine ⟨⟨fun k => k == 0 || k == 1, fun i j hi hj h1 h2 => ?_, by decide⟩, fun q hq => ?_⟩
  · simp only [Bool.or_eq_true, beq_iff_eq] at h1 h2
    rcases h1 with rfl | rfl <;> rcases h2 with rfl | rfl <;> rfl
  · have h02 := hq 0 2 (by decide) (by decide)
    have h12 := hq 1 2 (by decide) (by decide)
    rw [show edgeL sh2 0 2 = true from rfl] at h02
    rw [show edgeL sh2 1 2 = true from rfl] at h12
    show num q 3 ≤ 2
    simp only [num]
    cases h0 : q 0 <;> cases h1 : q 1 <;> cases h2 : q 2 <;> simp [h0, h1, h2] at h02 h12 ⊢

theorem sh3_w : Width sh3 1 := by
  refine ⟨⟨fun k => k == 0, fun i j hi hj h1 h2 => ?_, by decide⟩, fun q hq => ?_⟩
  · simp only [beq_iff_eq] at h1 h2; subst h1; subst h2; rfl
  · have h01 := hq 0 1 (by decide) (by decide)
    rw [show edgeL sh3 0 1 = true from rfl] at h01
    show num q 2 ≤ 1
    simp only [num]
    cases h0 : q 0 <;> cases h1 : q 1 <;> simp [h0, h1] at h01 ⊢

theorem whole_len {o : List Int} (h : WholeI 3 o) : o.length = 3 := by
  have h1 := h.1.len
  have h2 : ([0, 1, 2] : List Int).length ≤ o.length := nodup_len (by decide) (fun x hx => by
    simp only [List.mem_cons, List.not_mem_nil, or_false] at hx
    rcases hx with rfl | rfl | rfl
    · exact h.2 0 (by decide) (by decide)
    · exact h.2 1 (by decide) (by decide)
    · exact h.2 2 (by decide) (by decide))
  simp at h2
  omega

theorem sh3_cover {os : List (List Int)} (h : Cover 3 sh3 os) : ∃ x y z : Int, os = [[x, y, z]] ∧ x = 1 := by
  have hl := h.len.one sh3_w
  match os, hl with
  | [o], _ =>
    have h3 := whole_len (h.whole o (by simp))
    obtain ⟨o', ho', hs⟩ := h.each 0 (by decide)
    simp only [List.mem_singleton] at ho'
    subst ho'
    match o', h3 with
    | [x, y, z], _ =>
      refine ⟨x, y, z, rfl, ?_⟩
      have := hs.2.1 x (by show x ∈ List.take 1 [x, y, z]; simp)
      simpa [setL, sh3, nth, toLst, ints, toInt] using this

theorem y9 (K : AV → List Dn.Obj → Prop) : (funA F14 12 9 [] [] K) = (
  ∃ (a : Int × List AV),
  ([AV.lit (Value.int IntKind.i64 (3 : Int)),
          AV.lst (25 : Nat)
            [AV.lst (3 : Nat) [AV.lit (Value.int IntKind.i64 (0 : Int))],
              AV.lst (3 : Nat) [AV.lit (Value.int IntKind.i64 (0 : Int)), AV.lit (Value.int IntKind.i64 (1 : Int))],
              AV.lst (3 : Nat)
                [AV.lit (Value.int IntKind.i64 (0 : Int)), AV.lit (Value.int IntKind.i64 (1 : Int)),
                  AV.lit (Value.int IntKind.i64 (2 : Int))]]],
        nilO) =
      ([AV.lit (Value.int IntKind.i64 (Prod.fst a)), AV.lst (25 : Nat) (Prod.snd a)], nilO) ∧
    fitB (Prod.snd a) = true ∧
      brn (rightI (Prod.fst a) (rows (Prod.snd a)))
        (∀ (y : Nat),
          ((∃ (q : Nat → Bool),
                (∀ (i j : Nat),
                    i < List.length (Prod.snd a) →
                      j < List.length (Prod.snd a) → q i = true → q j = true → edgeL (Prod.snd a) i j = false) ∧
                  y ≤ num q (List.length (Prod.snd a))) ∧
              ∀ (q : Nat → Bool),
                (∀ (i j : Nat),
                    i < List.length (Prod.snd a) →
                      j < List.length (Prod.snd a) → q i = true → q j = true → edgeL (Prod.snd a) i j = false) →
                  num q (List.length (Prod.snd a)) ≤ y) →
            ∃ (a : Int × List AV),
              ([AV.lit (Value.int IntKind.i64 (3 : Int)),
                      AV.lst (25 : Nat)
                        [AV.lst (3 : Nat) [AV.lit (Value.int IntKind.i64 (0 : Int))],
                          AV.lst (3 : Nat) [AV.lit (Value.int IntKind.i64 (1 : Int))],
                          AV.lst (3 : Nat)
                            [AV.lit (Value.int IntKind.i64 (0 : Int)), AV.lit (Value.int IntKind.i64 (1 : Int))]]],
                    nilO) =
                  ([AV.lit (Value.int IntKind.i64 (Prod.fst a)), AV.lst (25 : Nat) (Prod.snd a)], nilO) ∧
                fitB (Prod.snd a) = true ∧
                  brn (rightI (Prod.fst a) (rows (Prod.snd a)))
                    (∀ (y_1 : Nat),
                      ((∃ (q : Nat → Bool),
                            (∀ (i j : Nat),
                                i < List.length (Prod.snd a) →
                                  j < List.length (Prod.snd a) →
                                    q i = true → q j = true → edgeL (Prod.snd a) i j = false) ∧
                              y_1 ≤ num q (List.length (Prod.snd a))) ∧
                          ∀ (q : Nat → Bool),
                            (∀ (i j : Nat),
                                i < List.length (Prod.snd a) →
                                  j < List.length (Prod.snd a) →
                                    q i = true → q j = true → edgeL (Prod.snd a) i j = false) →
                              num q (List.length (Prod.snd a)) ≤ y_1) →
                        ∃ (a : Int × List AV),
                          ([AV.lit (Value.int IntKind.i64 (3 : Int)),
                                  AV.lst (25 : Nat)
                                    [AV.lst (3 : Nat) [AV.lit (Value.int IntKind.i64 (1 : Int))],
                                      AV.lst (3 : Nat)
                                        [AV.lit (Value.int IntKind.i64 (1 : Int)),
                                          AV.lit (Value.int IntKind.i64 (2 : Int))]]],
                                nilO) =
                              ([AV.lit (Value.int IntKind.i64 (Prod.fst a)), AV.lst (25 : Nat) (Prod.snd a)], nilO) ∧
                            (fitB (Prod.snd a) = true ∧ (0 : Nat) < List.length (Prod.snd a)) ∧
                              brn (rightI (Prod.fst a) (rows (Prod.snd a)))
                                (∀ (y_2 : List (List Int)),
                                  Cover (Prod.fst a) (Prod.snd a) y_2 →
                                    brn ((↑(max (1 : Nat) y) : Int) == (1 : Int))
                                      (brn ((↑(max (1 : Nat) y_1) : Int) == (2 : Int))
                                        (brn ((↑(List.length y_2) : Int) == (1 : Int))
                                          (cnd (true && decide ((0 : Int) < (↑(List.length y_2) : Int)))
                                            (brn ((↑(List.length (toLst (nth (mkL y_2) (0 : Nat)))) : Int) == (3 : Int))
                                              (cnd (true && decide ((0 : Int) < (↑(List.length y_2) : Int)))
                                                (cnd
                                                  (true &&
                                                    decide
                                                      ((0 : Int) <
                                                        (↑(List.length (toLst (nth (mkL y_2) (0 : Nat)))) : Int)))
                                                  (brn
                                                    (toInt (nth (toLst (nth (mkL y_2) (0 : Nat))) (0 : Nat)) ==
                                                      (1 : Int))
                                                    (K (AV.lit (Value.bool true)) [])
                                                    (K (AV.lit (Value.bool false)) []))))
                                              (K (AV.lit (Value.bool false)) [])))
                                          (K (AV.lit (Value.bool false)) []))
                                        (K (AV.lit (Value.bool false)) []))
                                      (K (AV.lit (Value.bool false)) []))
                                (K (AV.lit (Value.bool false)) []))
                    (∃ (a : Int × List AV),
                      ([AV.lit (Value.int IntKind.i64 (3 : Int)),
                              AV.lst (25 : Nat)
                                [AV.lst (3 : Nat) [AV.lit (Value.int IntKind.i64 (1 : Int))],
                                  AV.lst (3 : Nat)
                                    [AV.lit (Value.int IntKind.i64 (1 : Int)),
                                      AV.lit (Value.int IntKind.i64 (2 : Int))]]],
                            nilO) =
                          ([AV.lit (Value.int IntKind.i64 (Prod.fst a)), AV.lst (25 : Nat) (Prod.snd a)], nilO) ∧
                        (fitB (Prod.snd a) = true ∧ (0 : Nat) < List.length (Prod.snd a)) ∧
                          brn (rightI (Prod.fst a) (rows (Prod.snd a)))
                            (∀ (y : List (List Int)),
                              Cover (Prod.fst a) (Prod.snd a) y → K (AV.lit (Value.bool false)) [])
                            (K (AV.lit (Value.bool false)) [])))
        (∃ (a : Int × List AV),
          ([AV.lit (Value.int IntKind.i64 (3 : Int)),
                  AV.lst (25 : Nat)
                    [AV.lst (3 : Nat) [AV.lit (Value.int IntKind.i64 (0 : Int))],
                      AV.lst (3 : Nat) [AV.lit (Value.int IntKind.i64 (1 : Int))],
                      AV.lst (3 : Nat)
                        [AV.lit (Value.int IntKind.i64 (0 : Int)), AV.lit (Value.int IntKind.i64 (1 : Int))]]],
                nilO) =
              ([AV.lit (Value.int IntKind.i64 (Prod.fst a)), AV.lst (25 : Nat) (Prod.snd a)], nilO) ∧
            fitB (Prod.snd a) = true ∧
              brn (rightI (Prod.fst a) (rows (Prod.snd a)))
                (∀ (y : Nat),
                  ((∃ (q : Nat → Bool),
                        (∀ (i j : Nat),
                            i < List.length (Prod.snd a) →
                              j < List.length (Prod.snd a) → q i = true → q j = true → edgeL (Prod.snd a) i j = false) ∧
                          y ≤ num q (List.length (Prod.snd a))) ∧
                      ∀ (q : Nat → Bool),
                        (∀ (i j : Nat),
                            i < List.length (Prod.snd a) →
                              j < List.length (Prod.snd a) → q i = true → q j = true → edgeL (Prod.snd a) i j = false) →
                          num q (List.length (Prod.snd a)) ≤ y) →
                    ∃ (a : Int × List AV),
                      ([AV.lit (Value.int IntKind.i64 (3 : Int)),
                              AV.lst (25 : Nat)
                                [AV.lst (3 : Nat) [AV.lit (Value.int IntKind.i64 (1 : Int))],
                                  AV.lst (3 : Nat)
                                    [AV.lit (Value.int IntKind.i64 (1 : Int)),
                                      AV.lit (Value.int IntKind.i64 (2 : Int))]]],
                            nilO) =
                          ([AV.lit (Value.int IntKind.i64 (Prod.fst a)), AV.lst (25 : Nat) (Prod.snd a)], nilO) ∧
                        (fitB (Prod.snd a) = true ∧ (0 : Nat) < List.length (Prod.snd a)) ∧
                          brn (rightI (Prod.fst a) (rows (Prod.snd a)))
                            (∀ (y : List (List Int)),
                              Cover (Prod.fst a) (Prod.snd a) y → K (AV.lit (Value.bool false)) [])
                            (K (AV.lit (Value.bool false)) []))
                (∃ (a : Int × List AV),
                  ([AV.lit (Value.int IntKind.i64 (3 : Int)),
                          AV.lst (25 : Nat)
                            [AV.lst (3 : Nat) [AV.lit (Value.int IntKind.i64 (1 : Int))],
                              AV.lst (3 : Nat)
                                [AV.lit (Value.int IntKind.i64 (1 : Int)), AV.lit (Value.int IntKind.i64 (2 : Int))]]],
                        nilO) =
                      ([AV.lit (Value.int IntKind.i64 (Prod.fst a)), AV.lst (25 : Nat) (Prod.snd a)], nilO) ∧
                    (fitB (Prod.snd a) = true ∧ (0 : Nat) < List.length (Prod.snd a)) ∧
                      brn (rightI (Prod.fst a) (rows (Prod.snd a)))
                        (∀ (y : List (List Int)), Cover (Prod.fst a) (Prod.snd a) y → K (AV.lit (Value.bool false)) [])
                        (K (AV.lit (Value.bool false)) [])))) := by kernel_rfl


def g9 : List AV → Option (Bool × AV)
  | [] => some (true, .bool true)
  | _ => none

theorem p9 : PureOk F14 12 9 g9 := by
  intro args x h
  unfold g9 at h
  split at h
  · simp only [Option.some.injEq, Prod.mk.injEq, true_and] at h
    subst h
    refine ⟨_, rfl, rfl, ?_⟩
    rw [y9]
    refine ⟨(3, sh1), rfl, rfl, brn_yes rfl fun w1 hw1 => ⟨(3, sh2), rfl, rfl, brn_yes rfl fun w2 hw2 => ⟨(3, sh3), rfl, ⟨rfl, by decide⟩, brn_yes rfl fun os hos => ?_⟩⟩⟩
    obtain rfl := Width.one (l := sh1) hw1 sh1_w
    obtain rfl := Width.one (l := sh2) hw2 sh2_w
    obtain ⟨x, y, z, rfl, rfl⟩ := sh3_cover hos
    rfl
  · cases h

noncomputable def F9 : Env := F14.addPure 9 g9
theorem eF9 : EnvOK F9 := eF14.addPure mF14 p9
theorem mF9 : EnvMono F9 := mF14.addPure

end Go.Proofs.Ytpjkphcfkpcfgaa
