import Derived.Test.YtpjkphcfkpcfgaaCvH
/-
  cut.
-/
namespace Go.Proofs.Ytpjkphcfkpcfgaa
open Go Go.Dn Go.Proofs

def pre10 : List AV → Prop
  | [.lst 25 _] => True
  | _ => False
noncomputable def out10 : List AV → Out AV
  | [.lst 25 l] => .one (.lst 25 (l.take 70))
  | _ => .all (fun _ : Nat => False) fun _ => .one .junk

theorem y10 (l : List AV) (K : AV → List Dn.Obj → Prop) : (funA F17 8 10 [.lst 25 l] [] K) = (
  cnd
  (true &&
      decide ((0 : Int) ≤ if (70 : Int) < (↑(List.length l) : Int) then (70 : Int) else (↑(List.length l) : Int)) &&
    decide
      ((if (70 : Int) < (↑(List.length l) : Int) then (70 : Int) else (↑(List.length l) : Int)) ≤
        (↑(List.length l) : Int)))
  (K
    (AV.lst (25 : Nat)
      (List.drop (0 : Nat)
        (List.take (Int.toNat (if (70 : Int) < (↑(List.length l) : Int) then (70 : Int) else (↑(List.length l) : Int)))
          l)))
    [])) := by kernel_rfl


theorem c10 : CallOk F17 8 10 (callSp pre10 out10) := by
  intro args st K h
  cases st with
  | cons _ _ => exact h.elim
  | nil =>
    obtain ⟨h1, h2⟩ := h
    unfold pre10 at h1
    split at h1
    · rename_i l
      have h2' : K (.lst 25 (l.take 70)) [] := h2
      rw [y10]
      simp only [cnd_iff, Bool.and_eq_true, decide_eq_true_eq, List.drop_zero]
      by_cases hl : (70 : Int) < l.length
      · rw [if_pos hl]
        exact ⟨⟨⟨trivial, by omega⟩, by omega⟩, h2'⟩
      · rw [if_neg hl]
        refine ⟨⟨⟨trivial, by omega⟩, by omega⟩, ?_⟩
        rw [Int.toNat_natCast, List.take_of_length_le (Nat.le_refl _)]
        rw [List.take_of_length_le (by omega)] at h2'
        exact h2'
    · exact h1.elim

noncomputable def F10 : Env := F17.addCall 10 (callSp pre10 out10)
theorem eF10 : EnvOK F10 := eF17.addCall mF17 c10
theorem mF10 : EnvMono F10 := mF17.addCall callSp_mono
end Go.Proofs.Ytpjkphcfkpcfgaa
