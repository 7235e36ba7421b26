/-
  What is proved: whatever text is handed in, the law GolexLexes answers true, and its argument reads as before; the program's eleven listed variables hold what the text lays.
-/
import Derived.Test.YtbppdpbagmbmpaaGreatDoorDxGM
import Derived.Test.YtbppdpbagmbmpaaGreatDoorDxGX
import Derived.Test.YtbppdpbagmbmpaaGreatDoorTie
import Derived.Test.YtbppdpbagmbmpaaGreatDoorCards
import Derived.Deep.DeepWitnessRowRef
namespace Go.Proofs.YtbppdpbagmbmpaaGreatDoor
open Go Go.Dn Go.Proofs Go.ChangeShapes Go.WideShapes Go.ChangeAt Go.RowKit
theorem good_str {a : AV} (h : good Tryz.prog a 9) : ∃ s, a = .lit (.string s) := by
  cases a <;> simp only [good, Tryz.underlying9] at h
  · obtain ⟨n, rfl, _⟩ := h
    exact ⟨n, rfl⟩
  · obtain ⟨h1, _⟩ := h
    cases h1
  · obtain ⟨fs, ⟨h1, _⟩, _⟩ := h
    cases h1
theorem simL (κ : Kp) (al : List AV) (h : goodAs Tryz.prog Tryz.f3.params.toList al) : SimCall (Pr κ) 3 al [] fun r _ => r = .bool true := by
  have h' : goodAs Tryz.prog [9] al := h
  match al, h' with
  | [a], h' =>
    simp only [goodAs] at h'
    obtain ⟨s0, rfl⟩ := good_str h'.1
    exact simLs6 κ s0
def argTys : List TypeId := [9]
theorem args_ok : tyOK Tryz.prog argTys = true := by kernel_rfl
set_option maxRecDepth 100000 in
theorem lifted (os : Os) (started : os.Started) (H : Type) (enc : TypeId × Value → H) (F : Stop.Interp) :
    ReturnsInHanded {} Tryz.checked os 3 .any ((OpenSpec.ofChange Rows.golexLexesSpec).preRow enc Tryz.prog Tryz.f3 Rows.golexLexesRow.domain false Rows.golexLexesRow.laid) (((OpenSpec.ofChange Rows.golexLexesSpec).at F).post enc Tryz.prog Tryz.f3 false true false false) := by
  refine returnsInHanded_of_row (C := Tryz.checked) (s := OpenSpec.ofChange Rows.golexLexesSpec) own started (by kernel_rfl) Tryz.func3
    (witness_row_atRef (enc := enc) (C := Tryz.checked) false (laidWorld os) #[.string ⟨#[]⟩] (laid_os os) (by kernel_rfl) (by kernel_rfl) (by kernel_rfl)
      (OpenSpec.preRow_of_cond 8 (x := ([.lit (.string [])], [], [])) (by kernel_rfl) (by kernel_rfl) (fun k hk => by cases hk) (by kernel_rfl) (laid_met os _))) ?_
  intro W base args ds gs before hval hW _ _ _ hL _ _
  obtain ⟨κ, hκ⟩ := kept_of_laid hL
  exact law_contract prog_fine.lay laid_out args_ok rfl (by kernel_rfl) (by kernel_rfl) rfl hval hW (fun d hd => by match d, hd with | [_], _ => rfl) hκ (fun al h _ => simL κ al h)
theorem golexLexes_row : Rows.GolexLexesSaid :=
  OpenClaim.holds_of_cond 3 Tryz.f3 rfl rfl rfl rfl rfl rfl rfl ⟨rfl, rfl, rfl, rfl, rfl⟩ rfl rfl rfl rfl rfl (by kernel_rfl) Tryz.func3 (by kernel_rfl)
    (of_decide_eq_true (by kernel_rfl)) (by unfold Func.isWrapper; first | (rw [if_pos (by decide +kernel)]; kernel_rfl) | (rw [if_neg (by decide +kernel)]; exact ⟨rfl, rfl⟩))
    (fun os started H enc _ F => by rw [OpenClaim.pre_eq_preRow]; exact lifted os started H enc F)
theorem golexLexes_holds : Rows.GolexLexesCardSaid :=
  Claim7.holds_tied_plain_at .later [] [.data, .data, .data, .data, .handle, .sentinel, .sentinel, .listed, .data, .sentinel, .pinned] true (true, "29e8cc66e42b59ccd17a24dfff35f25127b5383c3762732651ea0d0856ef8688") true
    golexLexes_row (fun _ h => by cases h) (by kernel_rfl) (fun _ h => by cases h) golexLexes_row_tie rfl ⟨rfl, rfl⟩ (by kernel_rfl) rfl
    (fun f fn hf hfn => by
      obtain rfl : f = 3 := Option.some.inj ((show Tryz.prog.funcNamed "sorites/soriteslaw16.GolexLexes" = some 3 by kernel_rfl).symm.trans hf) |>.symm
      obtain rfl : fn = Tryz.f3 := (Option.some.inj (Tryz.func3.symm.trans hfn)).symm
      exact ⟨by kernel_rfl, fun j t ht => by
        have hall : ((List.range 8).all fun j => match Tryz.f3.params[j]? with | some t => !Tryz.prog.wantsStandIn t | none => true) = true := by kernel_rfl
        have hsz : Tryz.f3.params.size ≤ 8 := of_decide_eq_true (by kernel_rfl)
        have hj : j < 8 := Nat.lt_of_lt_of_le (Array.getElem?_eq_some_iff.1 ht).1 hsz
        have := List.all_eq_true.1 hall j (List.mem_range.2 hj)
        rw [ht] at this
        have hw : Tryz.prog.wantsStandIn t = false := by simpa using this
        exact hw⟩)
    (by kernel_rfl)
#print axioms golexLexes_holds
end Go.Proofs.YtbppdpbagmbmpaaGreatDoor
