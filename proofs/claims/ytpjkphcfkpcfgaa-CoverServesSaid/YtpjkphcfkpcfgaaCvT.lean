/-
  What is proved: whatever orders and set are handed in, the law CoverServes answers true, and its arguments read as before; no condition.
-/
import Derived.Test.YtpjkphcfkpcfgaaCvS
import Derived.Test.YtpjkphcfkpcfgaaDoG
import Derived.Test.YtpjkphcfkpcfgaaRows
import Derived.ProofKit
import Derived.Deep.DeepHandedRow
namespace Go.Proofs.Ytpjkphcfkpcfgaa
open Go Go.Dn Go.Proofs Go.ChangeShapes Go.WideShapes Go.ChangeAt Go.RowKit

theorem own : ownKnob Try.prog.godebug = none := by kernel_rfl
theorem laid_out : laidOutB Try.prog = true := by kernel_rfl
def argTys : List TypeId := [3, 25, 22]
theorem args_ok : tyOK Try.prog argTys = true := by kernel_rfl
theorem under3 : Try.prog.underlying 3 = some (.int .i64) := by kernel_rfl
theorem under25 : Try.prog.underlying 25 = some (.slice 3) := by kernel_rfl
theorem under22 : Try.prog.underlying 22 = some (.slice 25) := by kernel_rfl

theorem good_ints {a : AV} (h : good Try.prog a 25) : ∃ l, a = .lst 3 l ∧ l.length ≤ maxI := by
  cases a <;> simp only [good, under25] at h
  · obtain ⟨h1, h2, _⟩ := h
    cases h1
    exact ⟨_, rfl, h2⟩
  · obtain ⟨fs, ⟨h1, _⟩, _⟩ := h
    cases h1

theorem goodL_fit : ∀ {l : List AV}, goodL Try.prog l 25 → ∀ x, x ∈ l → (toLst x).length ≤ maxI
  | [], _, x, hx => by simp at hx
  | a :: l, h, x, hx => by
    simp only [goodL] at h
    rcases List.mem_cons.1 hx with rfl | hx
    · obtain ⟨m, rfl, hm⟩ := good_ints h.1
      exact hm
    · exact goodL_fit h.2 x hx

theorem good_rows {a : AV} (h : good Try.prog a 22) : ∃ l, a = .lst 25 l ∧ fitB l = true := by
  cases a <;> simp only [good, under22] at h
  · obtain ⟨h1, h2, h3⟩ := h
    cases h1
    refine ⟨_, rfl, ?_⟩
    simp only [fitB, Bool.and_eq_true, decide_eq_true_eq, List.all_eq_true]
    exact ⟨h2, goodL_fit h3⟩
  · obtain ⟨fs, ⟨h1, _⟩, _⟩ := h
    cases h1

theorem simL7 (al : List AV) (h : goodAs Try.prog Try.f7.params.toList al) : SimCall Try.prog 7 al [] fun r _ => r = .bool true := by
  have h' : goodAs Try.prog [22, 25] al := h
  match al, h' with
  | [a, b], h' =>
    simp only [goodAs] at h'
    obtain ⟨l, rfl, h1⟩ := good_rows h'.1
    obtain ⟨s, rfl, h2⟩ := good_ints h'.2.1
    exact sim7 l s h1 h2

theorem lifted7 (os : Os) (started : os.Started) (H : Type) (enc : TypeId × Value → H) (F : Stop.Interp) :
    ReturnsInHanded {} Try.checked os 7 .any ((OpenSpec.ofChange Rows.coverServesSpec).preRow enc Try.prog Try.f7 Rows.coverServesRow.domain false Rows.coverServesRow.laid) (((OpenSpec.ofChange Rows.coverServesSpec).at F).post enc Try.prog Try.f7 false true false false) := by
  refine returnsInHanded_of_row (C := Try.checked) (s := OpenSpec.ofChange Rows.coverServesSpec) own started (by kernel_rfl) Try.func7
    (witness_row_at (enc := enc) (C := Try.checked) false (World.holding Try.prog os ⟨#[], #[.slice none 0 0, .slice none 0 0], []⟩) #[.slice none 0 0, .slice none 0 0] rfl (by kernel_rfl) (by kernel_rfl) (by kernel_rfl)
      (OpenSpec.preRow_of_cond 8 (x := ([.nil, .nil], [], [])) (by kernel_rfl) (by kernel_rfl) (fun k hk => by cases hk) (by kernel_rfl) (laidMetH_nil _ _))) ?_
  intro W base args ds gs before hval hW _ _ _ hL _ _
  exact law_contract prog_fine.lay laid_out args_ok rfl (by kernel_rfl) (by kernel_rfl) rfl hval hW (fun d hd => by match d, hd with | [_, _], _ => rfl) (fun al h _ => simL7 al h)

theorem coverServes_holds : Rows.CoverServesSaid :=
  OpenClaim.holds_of_cond 7 Try.f7 rfl rfl rfl rfl rfl rfl rfl ⟨rfl, rfl, rfl, rfl, rfl⟩ rfl rfl rfl rfl rfl (by kernel_rfl) Try.func7 (by kernel_rfl)
    (of_decide_eq_true (by kernel_rfl)) (by unfold Func.isWrapper; first | (rw [if_pos (by decide +kernel)]; kernel_rfl) | (rw [if_neg (by decide +kernel)]; exact ⟨rfl, rfl⟩))
    (fun os started H enc _ F => by rw [OpenClaim.pre_eq_preRow]; exact lifted7 os started H enc F)
#print axioms coverServes_holds
end Go.Proofs.Ytpjkphcfkpcfgaa
