import Derived.Test.YtidmfjdechhnmaaDoorDsF1
import Derived.Test.YtidmfjdechhnmaaDoorDsM5
import Derived.Test.YtidmfjdechhnmaaDoorTie
import Derived.Test.YtidmfjdechhnmaaDoorCards
/-
  What is proved: whatever name and numbers are handed in, the law DsafeFacts answers true, and its arguments read as before; the program's two listed variables hold what the text lays.
-/
namespace Go.Proofs.YtidmfjdechhnmaaDoor
open Go Go.Dn Go.Rl Go.Proofs Go.ChangeShapes Go.WideShapes Go.ChangeAt Go.RowKit

theorem good_str {a : AV} (h : good Tryd.prog a 9) : ∃ s, a = .lit (.string s) ∧ s.size ≤ maxLen := by
  cases a <;> simp only [good, Tryd.underlying9] at h
  · exact h.imp fun s hs => ⟨by rw [hs.1], hs.2⟩
  · obtain ⟨h1, _⟩ := h
    cases h1
  · obtain ⟨fs, ⟨h1, _⟩, _⟩ := h
    cases h1

theorem good_i64s {a : AV} (h : good Tryd.prog a 22) : ∃ l, a = .lst 2 l ∧ l.length ≤ maxLen := by
  cases a <;> simp only [good, Tryd.underlying22] at h
  · obtain ⟨h1, h2, _⟩ := h
    cases h1
    exact ⟨_, rfl, h2⟩
  · obtain ⟨fs, ⟨h1, _⟩, _⟩ := h
    cases h1

theorem simL3 (κ : Kp) (al : List AV) (h : goodAs Tryd.prog Tryd.f3.params.toList al) : SimCall (Pr κ) 3 al [] fun r _ => r = .bool true := by
  have h' : goodAs Tryd.prog [9, 22] al := h
  match al, h' with
  | [a, b], h' =>
    simp only [goodAs] at h'
    obtain ⟨rel, rfl, _⟩ := good_str h'.1
    obtain ⟨ns, rfl, _⟩ := good_i64s h'.2.1
    exact simF κ rel ns

def argTys3 : List TypeId := [9, 2, 22]
theorem args_ok3 : tyOK Tryd.prog argTys3 = true := by kernel_rfl

set_option maxRecDepth 100000 in
theorem lifted3 (os : Os) (started : os.Started) (H : Type) (enc : TypeId × Value → H) (F : Stop.Interp) :
    ReturnsInHanded {} Tryd.checked os 3 .any ((OpenSpec.ofChange Rows.dsafeFactsSpec).preRow enc Tryd.prog Tryd.f3 Rows.dsafeFactsRow.domain false Rows.dsafeFactsRow.laid) (((OpenSpec.ofChange Rows.dsafeFactsSpec).at F).post enc Tryd.prog Tryd.f3 false true false false) := by
  refine returnsInHanded_of_row (C := Tryd.checked) (s := OpenSpec.ofChange Rows.dsafeFactsSpec) own started (by kernel_rfl) Tryd.func3
    (witness_row_at (enc := enc) (C := Tryd.checked) false (laidWorld os) #[.string ⟨#[]⟩, .slice none 0 0] rfl (by kernel_rfl) (by kernel_rfl) (by kernel_rfl)
      (OpenSpec.preRow_of_cond 8 (x := ([.lit (.string []), .nil], [], [])) (by kernel_rfl) (by kernel_rfl) (fun k hk => by cases hk) (by kernel_rfl) (laid_met os _))) ?_
  intro W base args ds gs before hval hW _ _ _ hL _ _
  obtain ⟨κ, hκ⟩ := kept_of_laid hL
  exact law_contract prog_fine.lay laid_out args_ok3 rfl (by kernel_rfl) (by kernel_rfl) rfl hval hW (fun d hd => by match d, hd with | [_, _], _ => rfl) hκ (fun al h _ => simL3 κ al h)

theorem dsafeFacts_row : Rows.DsafeFactsSaid :=
  OpenClaim.holds_of_cond 3 Tryd.f3 rfl rfl rfl rfl rfl rfl rfl ⟨rfl, rfl, rfl, rfl, rfl⟩ rfl rfl rfl rfl rfl (by kernel_rfl) Tryd.func3 (by kernel_rfl)
    (of_decide_eq_true (by kernel_rfl)) (by unfold Func.isWrapper; first | (rw [if_pos (by decide +kernel)]; kernel_rfl) | (rw [if_neg (by decide +kernel)]; exact ⟨rfl, rfl⟩))
    (fun os started H enc _ F => by rw [OpenClaim.pre_eq_preRow]; exact lifted3 os started H enc F)

theorem dsafeFacts_holds : Rows.DsafeFactsCardSaid :=
  Claim7.holds_tied_plain_at .later [] [.sentinel, .sentinel] true (true, "fb0a08e6ae2bef83aac2a5c4afc7b69f958c6408d071225722c42d2575e454ae") true
    dsafeFacts_row (fun _ h => by cases h) (by kernel_rfl) (fun _ h => by cases h) dsafeFacts_row_tie rfl ⟨rfl, rfl⟩ (by kernel_rfl) rfl
    (fun f fn hf hfn => by
      obtain rfl : f = 3 := Option.some.inj ((show Tryd.prog.funcNamed "sorites/soriteslaw06.DsafeFacts" = some 3 by kernel_rfl).symm.trans hf) |>.symm
      obtain rfl : fn = Tryd.f3 := (Option.some.inj (Tryd.func3.symm.trans hfn)).symm
      exact ⟨by kernel_rfl, fun j t ht => by
        have hall : ((List.range 8).all fun j => match Tryd.f3.params[j]? with | some t => !Tryd.prog.wantsStandIn t | none => true) = true := by kernel_rfl
        have hsz : Tryd.f3.params.size ≤ 8 := of_decide_eq_true (by kernel_rfl)
        have hj : j < 8 := Nat.lt_of_lt_of_le (Array.getElem?_eq_some_iff.1 ht).1 hsz
        have := List.all_eq_true.1 hall j (List.mem_range.2 hj)
        rw [ht] at this
        have hw : Tryd.prog.wantsStandIn t = false := by simpa using this
        exact hw⟩)
    (by kernel_rfl)
#print axioms dsafeFacts_holds
end Go.Proofs.YtidmfjdechhnmaaDoor
