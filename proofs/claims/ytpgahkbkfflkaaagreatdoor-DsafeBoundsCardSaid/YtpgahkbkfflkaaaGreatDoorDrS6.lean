/-
  What is proved: whatever rule is handed in, the law DsafeBounds answers true, and its arguments read as before; the program's two listed variables hold what the text lays.
-/
import Derived.Test.YtpgahkbkfflkaaaGreatDoorDrM8
import Derived.Test.YtpgahkbkfflkaaaGreatDoorDrM5
import Derived.Test.YtpgahkbkfflkaaaGreatDoorTie
import Derived.Test.YtpgahkbkfflkaaaGreatDoorCards
namespace Go.Proofs.YtpgahkbkfflkaaaGreatDoor
open Go Go.Dn Go.Rl Go.Proofs Go.ChangeShapes Go.WideShapes Go.ChangeAt Go.RowKit
theorem good_str {a : AV} (h : good Tryz.prog a 9) : ∃ s, a = .lit (.string s) ∧ s.size ≤ maxLen := by
  cases a <;> simp only [good, Tryz.underlying9] at h
  · exact h.imp fun s hs => ⟨by rw [hs.1], hs.2⟩
  · obtain ⟨h1, _⟩ := h
    cases h1
  · obtain ⟨fs, ⟨h1, _⟩, _⟩ := h
    cases h1
theorem good_int {a : AV} (h : good Tryz.prog a 3) : ∃ n, a = .int n := by
  cases a <;> simp only [good, Tryz.underlying3] at h
  · obtain ⟨n, rfl, _⟩ := h
    exact ⟨n, rfl⟩
  · obtain ⟨h1, _⟩ := h
    cases h1
  · obtain ⟨fs, ⟨h1, _⟩, _⟩ := h
    cases h1
theorem good_terms {a : AV} (h : good Tryz.prog a 22) : ∃ l, a = .lst 43 l ∧ l.length ≤ maxLen := by
  cases a <;> simp only [good, Tryz.underlying22] at h
  · obtain ⟨h1, h2, _⟩ := h
    cases h1
    exact ⟨_, rfl, h2⟩
  · obtain ⟨fs, ⟨h1, _⟩, _⟩ := h
    cases h1
theorem good_lits {a : AV} (h : good Tryz.prog a 25) : ∃ l, a = .lst 46 l ∧ l.length ≤ maxLen := by
  cases a <;> simp only [good, Tryz.underlying25] at h
  · obtain ⟨h1, h2, _⟩ := h
    cases h1
    exact ⟨_, rfl, h2⟩
  · obtain ⟨fs, ⟨h1, _⟩, _⟩ := h
    cases h1
theorem good_atom {a : AV} (h : good Tryz.prog a 24) : ∃ r l, a = .agg [.lit (.string r), .lst 43 l] := by
  cases a <;> simp only [good, Tryz.underlying24] at h
  · obtain ⟨h1, _⟩ := h
    cases h1
  · rename_i l
    obtain ⟨fs, ⟨h1, _⟩, h2⟩ := h
    cases h1
    match l, h2 with
    | [x, y], h2 =>
      simp only [goodF] at h2
      obtain ⟨r, rfl, _⟩ := good_str h2.1
      obtain ⟨l, rfl, _⟩ := good_terms h2.2.1
      exact ⟨r, l, rfl⟩
theorem good_rule {a : AV} (h : good Tryz.prog a 27) : ∃ b : A45, a = rl45 b := by
  cases a <;> simp only [good, Tryz.underlying27] at h
  · obtain ⟨h1, _⟩ := h
    cases h1
  · rename_i l
    obtain ⟨fs, ⟨h1, _⟩, h2⟩ := h
    cases h1
    match l, h2 with
    | [x, y, z], h2 =>
      simp only [goodF] at h2
      obtain ⟨r, hl, rfl⟩ := good_atom h2.1
      obtain ⟨bl, rfl, _⟩ := good_lits h2.2.1
      obtain ⟨n, rfl⟩ := good_int h2.2.2.1
      exact ⟨⟨[], [], r, hl, bl, n, 0⟩, rfl⟩
theorem simL4 (κ : Kp) (al : List AV) (h : goodAs Tryz.prog Tryz.f4.params.toList al) : SimCall (Pr κ) 4 al [] fun r _ => r = .bool true := by
  have h' : goodAs Tryz.prog [27, 3] al := h
  match al, h' with
  | [a, k], h' =>
    simp only [goodAs] at h'
    obtain ⟨b, rfl⟩ := good_rule h'.1
    obtain ⟨n, rfl⟩ := good_int h'.2.1
    exact simL2 κ b n
def argTys4 : List TypeId := [9, 3, 2, 43, 22, 24, 46, 25, 27]
theorem args_ok4 : tyOK Tryz.prog argTys4 = true := by kernel_rfl
set_option maxRecDepth 100000 in
theorem lifted4 (os : Os) (started : os.Started) (H : Type) (enc : TypeId × Value → H) (F : Stop.Interp) :
    ReturnsInHanded {} Tryz.checked os 4 .any ((OpenSpec.ofChange Rows.dsafeBoundsSpec).preRow enc Tryz.prog Tryz.f4 Rows.dsafeBoundsRow.domain false Rows.dsafeBoundsRow.laid) (((OpenSpec.ofChange Rows.dsafeBoundsSpec).at F).post enc Tryz.prog Tryz.f4 false true false false) := by
  refine returnsInHanded_of_row (C := Tryz.checked) (s := OpenSpec.ofChange Rows.dsafeBoundsSpec) own started (by kernel_rfl) Tryz.func4
    (witness_row_at (enc := enc) (C := Tryz.checked) false (laidWorld os) #[.agg #[.string ⟨#[]⟩, .slice none 0 0, .slice none 0 0, .int .i64 0], .int .i64 0] rfl (by kernel_rfl) (by kernel_rfl) (by kernel_rfl)
      (OpenSpec.preRow_of_cond 8 (x := ([.agg [.agg [.lit (.string []), .nil], .nil, .lit (.int .i64 0)], .lit (.int .i64 0)], [], [])) (by kernel_rfl) (by kernel_rfl) (fun k hk => by cases hk) (by kernel_rfl) (laid_met os _))) ?_
  intro W base args ds gs before hval hW _ _ _ hL _ _
  obtain ⟨κ, hκ⟩ := kept_of_laid hL
  exact law_contract prog_fine.lay laid_out args_ok4 rfl (by kernel_rfl) (by kernel_rfl) rfl hval hW (fun d hd => by match d, hd with | [_, _], _ => rfl) hκ (fun al h _ => simL4 κ al h)
theorem dsafeBounds_row : Rows.DsafeBoundsSaid :=
  OpenClaim.holds_of_cond 4 Tryz.f4 rfl rfl rfl rfl rfl rfl rfl ⟨rfl, rfl, rfl, rfl, rfl⟩ rfl rfl rfl rfl rfl (by kernel_rfl) Tryz.func4 (by kernel_rfl)
    (of_decide_eq_true (by kernel_rfl)) (by unfold Func.isWrapper; first | (rw [if_pos (by decide +kernel)]; kernel_rfl) | (rw [if_neg (by decide +kernel)]; exact ⟨rfl, rfl⟩))
    (fun os started H enc _ F => by rw [OpenClaim.pre_eq_preRow]; exact lifted4 os started H enc F)
theorem dsafeBounds_holds : Rows.DsafeBoundsCardSaid :=
  Claim7.holds_tied_plain_at .later [] [.sentinel, .sentinel] true (true, "de19e371f6aceef0362cee7ea436029b2036fb4d81c8f802d05eb9285f7a5ecd") true
    dsafeBounds_row (fun _ h => by cases h) (by kernel_rfl) (fun _ h => by cases h) dsafeBounds_row_tie rfl ⟨rfl, rfl⟩ (by kernel_rfl) rfl
    (fun f fn hf hfn => by
      obtain rfl : f = 4 := Option.some.inj ((show Tryz.prog.funcNamed "sorites/soriteslaw06.DsafeBounds" = some 4 by kernel_rfl).symm.trans hf) |>.symm
      obtain rfl : fn = Tryz.f4 := (Option.some.inj (Tryz.func4.symm.trans hfn)).symm
      exact ⟨by kernel_rfl, fun j t ht => by
        have hall : ((List.range 8).all fun j => match Tryz.f4.params[j]? with | some t => !Tryz.prog.wantsStandIn t | none => true) = true := by kernel_rfl
        have hsz : Tryz.f4.params.size ≤ 8 := of_decide_eq_true (by kernel_rfl)
        have hj : j < 8 := Nat.lt_of_lt_of_le (Array.getElem?_eq_some_iff.1 ht).1 hsz
        have := List.all_eq_true.1 hall j (List.mem_range.2 hj)
        rw [ht] at this
        have hw : Tryz.prog.wantsStandIn t = false := by simpa using this
        exact hw⟩)
    (by kernel_rfl)
#print axioms dsafeBounds_holds
end Go.Proofs.YtpgahkbkfflkaaaGreatDoor
