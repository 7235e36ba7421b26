import Derived.Test.YtidmfjdechhnmaaDoorDsF3
import Derived.Test.YtidmfjdechhnmaaDoorDsM5
import Derived.Test.YtidmfjdechhnmaaDoorTie
import Derived.Test.YtidmfjdechhnmaaDoorCards
/-
  What is proved: whatever rule, text and numbers are handed in, the law DsafeMore answers true, and its arguments read as before; the program's two listed variables hold what the text lays.
-/
namespace Go.Proofs.YtidmfjdechhnmaaDoor
open Go Go.Dn Go.Rl Go.Proofs Go.ChangeShapes Go.WideShapes Go.ChangeAt Go.RowKit

theorem good_str {a : AV} (h : good Tryd.prog a 9) : ∃ s, a = .lit (.string s) ∧ s.size ≤ maxLen := by
  cases a <;> simp only [good, Tryd.underlying9] at h
  · exact h.imp fun s hs => ⟨by rw [hs.1], hs.2⟩
  · obtain ⟨h1, _⟩ := h
    cases h1
  · obtain ⟨fs, ⟨h1, _⟩, _⟩ := h
    cases h1

theorem good_int {a : AV} (h : good Tryd.prog a 3) : ∃ n, a = .int n := by
  cases a <;> simp only [good, Tryd.underlying3] at h
  · obtain ⟨n, rfl, _⟩ := h
    exact ⟨n, rfl⟩
  · obtain ⟨h1, _⟩ := h
    cases h1
  · obtain ⟨fs, ⟨h1, _⟩, _⟩ := h
    cases h1

theorem good_terms {a : AV} (h : good Tryd.prog a 24) : ∃ l, a = .lst 28 l ∧ l.length ≤ maxLen := by
  cases a <;> simp only [good, Tryd.underlying24] at h
  · obtain ⟨h1, h2, _⟩ := h
    cases h1
    exact ⟨_, rfl, h2⟩
  · obtain ⟨fs, ⟨h1, _⟩, _⟩ := h
    cases h1

theorem good_lits {a : AV} (h : good Tryd.prog a 33) : ∃ l, a = .lst 48 l ∧ l.length ≤ maxLen := by
  cases a <;> simp only [good, Tryd.underlying33] at h
  · obtain ⟨h1, h2, _⟩ := h
    cases h1
    exact ⟨_, rfl, h2⟩
  · obtain ⟨fs, ⟨h1, _⟩, _⟩ := h
    cases h1

theorem good_ints {a : AV} (h : good Tryd.prog a 29) : ∃ l, a = .lst 3 l ∧ l.length ≤ maxLen := by
  cases a <;> simp only [good, Tryd.underlying29] at h
  · obtain ⟨h1, h2, _⟩ := h
    cases h1
    exact ⟨_, rfl, h2⟩
  · obtain ⟨fs, ⟨h1, _⟩, _⟩ := h
    cases h1

theorem good_atom {a : AV} (h : good Tryd.prog a 26) : ∃ r l, a = .agg [.lit (.string r), .lst 28 l] := by
  cases a <;> simp only [good, Tryd.underlying26] at h
  · obtain ⟨h1, _⟩ := h
    cases h1
  · rename_i l
    obtain ⟨fs, ⟨h1, _⟩, h2⟩ := h
    cases h1
    match l, h2 with
    | [x, y], h2 =>
      simp only [goodF] at h2
      obtain ⟨r, rfl, _⟩ := good_str h2.1
      obtain ⟨l, rfl, _⟩ := good_terms h2.2.1
      exact ⟨r, l, rfl⟩

theorem good_rule {a : AV} (h : good Tryd.prog a 35) : ∃ b : A45, a = rl45 b := by
  cases a <;> simp only [good, Tryd.underlying35] at h
  · obtain ⟨h1, _⟩ := h
    cases h1
  · rename_i l
    obtain ⟨fs, ⟨h1, _⟩, h2⟩ := h
    cases h1
    match l, h2 with
    | [x, y, z], h2 =>
      simp only [goodF] at h2
      obtain ⟨r, hl, rfl⟩ := good_atom h2.1
      obtain ⟨bl, rfl, _⟩ := good_lits h2.2.1
      obtain ⟨n, rfl⟩ := good_int h2.2.2.1
      exact ⟨⟨[], [], r, hl, bl, n, 0⟩, rfl⟩

theorem simL5 (κ : Kp) (al : List AV) (h : goodAs Tryd.prog Tryd.f5.params.toList al) : SimCall (Pr κ) 5 al [] fun r _ => r = .bool true := by
  have h' : goodAs Tryd.prog [35, 9, 29] al := h
  match al, h' with
  | [a, s, l], h' =>
    simp only [goodAs] at h'
    obtain ⟨b, rfl⟩ := good_rule h'.1
    obtain ⟨t, rfl, _⟩ := good_str h'.2.1
    obtain ⟨ns, rfl, _⟩ := good_ints h'.2.2.1
    exact simM κ b t ns

def argTys5 : List TypeId := [9, 3, 2, 28, 24, 26, 48, 33, 35, 29]
theorem args_ok5 : tyOK Tryd.prog argTys5 = true := by kernel_rfl

set_option maxRecDepth 100000 in
theorem lifted5 (os : Os) (started : os.Started) (H : Type) (enc : TypeId × Value → H) (F : Stop.Interp) :
    ReturnsInHanded {} Tryd.checked os 5 .any ((OpenSpec.ofChange Rows.dsafeMoreSpec).preRow enc Tryd.prog Tryd.f5 Rows.dsafeMoreRow.domain false Rows.dsafeMoreRow.laid) (((OpenSpec.ofChange Rows.dsafeMoreSpec).at F).post enc Tryd.prog Tryd.f5 false true false false) := by
  refine returnsInHanded_of_row (C := Tryd.checked) (s := OpenSpec.ofChange Rows.dsafeMoreSpec) own started (by kernel_rfl) Tryd.func5
    (witness_row_at (enc := enc) (C := Tryd.checked) false (laidWorld os) #[.agg #[.string ⟨#[]⟩, .slice none 0 0, .slice none 0 0, .int .i64 0], .string ⟨#[]⟩, .slice none 0 0] rfl (by kernel_rfl) (by kernel_rfl) (by kernel_rfl)
      (OpenSpec.preRow_of_cond 8 (x := ([.agg [.agg [.lit (.string []), .nil], .nil, .lit (.int .i64 0)], .lit (.string []), .nil], [], [])) (by kernel_rfl) (by kernel_rfl) (fun k hk => by cases hk) (by kernel_rfl) (laid_met os _))) ?_
  intro W base args ds gs before hval hW _ _ _ hL _ _
  obtain ⟨κ, hκ⟩ := kept_of_laid hL
  exact law_contract prog_fine.lay laid_out args_ok5 rfl (by kernel_rfl) (by kernel_rfl) rfl hval hW (fun d hd => by match d, hd with | [_, _, _], _ => rfl) hκ (fun al h _ => simL5 κ al h)

theorem dsafeMore_row : Rows.DsafeMoreSaid :=
  OpenClaim.holds_of_cond 5 Tryd.f5 rfl rfl rfl rfl rfl rfl rfl ⟨rfl, rfl, rfl, rfl, rfl⟩ rfl rfl rfl rfl rfl (by kernel_rfl) Tryd.func5 (by kernel_rfl)
    (of_decide_eq_true (by kernel_rfl)) (by unfold Func.isWrapper; first | (rw [if_pos (by decide +kernel)]; kernel_rfl) | (rw [if_neg (by decide +kernel)]; exact ⟨rfl, rfl⟩))
    (fun os started H enc _ F => by rw [OpenClaim.pre_eq_preRow]; exact lifted5 os started H enc F)

theorem dsafeMore_holds : Rows.DsafeMoreCardSaid :=
  Claim7.holds_tied_plain_at .later [] [.sentinel, .sentinel] true (true, "fb0a08e6ae2bef83aac2a5c4afc7b69f958c6408d071225722c42d2575e454ae") true
    dsafeMore_row (fun _ h => by cases h) (by kernel_rfl) (fun _ h => by cases h) dsafeMore_row_tie rfl ⟨rfl, rfl⟩ (by kernel_rfl) rfl
    (fun f fn hf hfn => by
      obtain rfl : f = 5 := Option.some.inj ((show Tryd.prog.funcNamed "sorites/soriteslaw06.DsafeMore" = some 5 by kernel_rfl).symm.trans hf) |>.symm
      obtain rfl : fn = Tryd.f5 := (Option.some.inj (Tryd.func5.symm.trans hfn)).symm
      exact ⟨by kernel_rfl, fun j t ht => by
        have hall : ((List.range 8).all fun j => match Tryd.f5.params[j]? with | some t => !Tryd.prog.wantsStandIn t | none => true) = true := by kernel_rfl
        have hsz : Tryd.f5.params.size ≤ 8 := of_decide_eq_true (by kernel_rfl)
        have hj : j < 8 := Nat.lt_of_lt_of_le (Array.getElem?_eq_some_iff.1 ht).1 hsz
        have := List.all_eq_true.1 hall j (List.mem_range.2 hj)
        rw [ht] at this
        have hw : Tryd.prog.wantsStandIn t = false := by simpa using this
        exact hw⟩)
    (by kernel_rfl)
#print axioms dsafeMore_holds
end Go.Proofs.YtidmfjdechhnmaaDoor
