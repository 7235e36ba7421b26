/-
  What is proved: whatever program is handed in, the law DsafeChecks answers true, and its arguments read as before; the program's five listed variables hold what the text lays.
-/
import Derived.Test.YtdpmikfheebicaaGreatDoorDqMB
import Derived.Test.YtdpmikfheebicaaGreatDoorTie
import Derived.Test.YtdpmikfheebicaaGreatDoorCards
namespace Go.Proofs.YtdpmikfheebicaaGreatDoor
open Go Go.Dn Go.Rl Go.Proofs Go.ChangeShapes Go.WideShapes Go.ChangeAt Go.RowKit
theorem tu {a : AV} {T E : TypeId} (hu : Tryz.prog.underlying T = some (.slice E)) (h : gJ Tryz.prog a T) : ∃ l, a = .ae E l ∧ l.length ≤ maxLen ∧ nu Tryz.prog l E := by
 cases a <;> simp only [gJ, hu] at h
 ·obtain ⟨h1, h2, h3⟩ := h
  cases h1
  exact ⟨_, rfl, h2, h3⟩
 ·obtain ⟨fs, ⟨h1, _⟩, _⟩ := h
  cases h1
theorem zD {E : TypeId} : ∀ {l : List AV}, nu Tryz.prog l E → ∀ a, a ∈ l → gJ Tryz.prog a E
 | [], _, _, h => nomatch h
 | b :: l, h, a, ha => by
  simp only [nu] at h
  rcases List.mem_cons.1 ha with rfl | ha
  ·exact h.1
  ·exact zD h.2 a ha
theorem Gg {a : AV} (h : gJ Tryz.prog a 62) : (ah (ad a 1)).length ≤ maxLen := by
 cases a <;> simp only [gJ, Tryz.underlying62] at h
 ·obtain ⟨h1, _⟩ := h
  cases h1
 ·rename_i l
  obtain ⟨fs, ⟨h1, _⟩, h2⟩ := h
  cases h1
  match l, h2 with
  | [_, y, _, _, _, _], h2 =>
   simp only [mH] at h2
   obtain ⟨ns, rfl, h3, _⟩ := tu Tryz.underlying60 h2.2.1
   exact h3
theorem F5 {a : AV} (h : gJ Tryz.prog a 25) : ∃ ds rs, a = JK ds rs ∧ ds.length ≤ maxLen ∧ ∀ d, d ∈ ds → (ah (ad d 1)).length ≤ maxLen := by
 cases a <;> simp only [gJ, Tryz.underlying25] at h
 ·obtain ⟨h1, _⟩ := h
  cases h1
 ·rename_i l
  obtain ⟨fs, ⟨h1, _⟩, h2⟩ := h
  cases h1
  match l, h2 with
  | [x, y], h2 =>
   simp only [mH] at h2
   obtain ⟨ds, rfl, h3, h4⟩ := tu Tryz.underlying22 h2.1
   obtain ⟨rs, rfl, _⟩ := tu Tryz.underlying23 h2.2.1
   exact ⟨ds, rs, rfl, h3, fun d hd => Gg (zD h4 d hd)⟩
theorem wH : maxLen ≤ aI := by decide
theorem PV (κ : Kp) (al : List AV) (h : nH Tryz.prog Tryz.f3.params.toList al) : dz (Pr κ) 3 al [] fun r _ => r = .bool true := by
 have h' : nH Tryz.prog [25] al := h
 match al, h' with
 | [a], h' =>
  simp only [nH] at h'
  obtain ⟨ds, rs, rfl, h1, h2⟩ := F5 h'.1
  exact Ot κ ds rs (Nat.le_trans h1 wH) fun d hd => Nat.le_trans (h2 d hd) wH
def KM : List TypeId := [9, 3, 2, 4, 52, 36, 38, 55, 39, 41, 23, 60, 48, 62, 22, 25]
theorem HQ : JW Tryz.prog KM = true := by kernel_rfl
set_option maxRecDepth 100000 in
theorem KC (os : Os) (started : os.Started) (H : Type) (enc : TypeId × Value → H) (F : Stop.Interp) :
  ReturnsInHanded {} Tryz.checked os 3 .any ((OpenSpec.ofChange Rows.dsafeChecksSpec).preRow enc Tryz.prog Tryz.f3 Rows.dsafeChecksRow.domain false Rows.dsafeChecksRow.laid) (((OpenSpec.ofChange Rows.dsafeChecksSpec).at F).post enc Tryz.prog Tryz.f3 false true false false) := by
 refine returnsInHanded_of_row (C := Tryz.checked) (s := OpenSpec.ofChange Rows.dsafeChecksSpec) own started (by kernel_rfl) Tryz.func3
  (witness_row_at (enc := enc) (C := Tryz.checked) false (wB os) #[.agg #[.slice none 0 0, .slice none 0 0]] rfl (by kernel_rfl) (by kernel_rfl) (by kernel_rfl)
   (OpenSpec.preRow_of_cond 8 (x := ([.agg [.nil, .nil]], [], [])) (by kernel_rfl) (by kernel_rfl) (fun k hk => by cases hk) (by kernel_rfl) (Hy os _))) ?_
 intro W base args ds gs before hval hW _ _ _ hL _ _
 obtain ⟨κ, hκ⟩ := za hL
 exact x7 wq.lay Jg HQ rfl (by kernel_rfl) (by kernel_rfl) rfl hval hW (fun d hd => by match d, hd with | [_], _ => rfl) hκ (fun al h _ => PV κ al h)
theorem sI : Rows.DsafeChecksSaid :=
 OpenClaim.holds_of_cond 3 Tryz.f3 rfl rfl rfl rfl rfl rfl rfl ⟨rfl, rfl, rfl, rfl, rfl⟩ rfl rfl rfl rfl rfl (by kernel_rfl) Tryz.func3 (by kernel_rfl)
  (of_decide_eq_true (by kernel_rfl)) (by unfold Func.isWrapper; first | (rw [if_pos (by decide +kernel)]; kernel_rfl) | (rw [if_neg (by decide +kernel)]; exact ⟨rfl, rfl⟩))
  (fun os started H enc _ F => by rw [OpenClaim.pre_eq_preRow]; exact KC os started H enc F)
theorem dsafeChecks_holds : Rows.DsafeChecksCardSaid :=
 Claim7.holds_tied_plain_at .later [] [.sentinel, .sentinel, .sentinel, .sentinel, .sentinel] true (true, "c7597f691d6eeb578c5ebf1d2c93fadf273ec73c9a08dec48f5a64364dbd39b2") true
  sI (fun _ h => by cases h) (by kernel_rfl) (fun _ h => by cases h) dsafeChecks_row_tie rfl ⟨rfl, rfl⟩ (by kernel_rfl) rfl
  (fun f fn hf hfn => by
   obtain rfl : f = 3 := Option.some.inj ((show Tryz.prog.funcNamed "sorites/soriteslaw06.DsafeChecks" = some 3 by kernel_rfl).symm.trans hf) |>.symm
   obtain rfl : fn = Tryz.f3 := (Option.some.inj (Tryz.func3.symm.trans hfn)).symm
   exact ⟨by kernel_rfl, fun j t ht => by
    have hall : ((List.range 8).all fun j => match Tryz.f3.params[j]? with | some t => !Tryz.prog.wantsStandIn t | none => true) = true := by kernel_rfl
    have hsz : Tryz.f3.params.size ≤ 8 := of_decide_eq_true (by kernel_rfl)
    have hj : j < 8 := Nat.lt_of_lt_of_le (Array.getElem?_eq_some_iff.1 ht).1 hsz
    have := List.all_eq_true.1 hall j (List.mem_range.2 hj)
    rw [ht] at this
    have hw : Tryz.prog.wantsStandIn t = false := by simpa using this
    exact hw⟩)
  (by kernel_rfl)
#print axioms dsafeChecks_holds
end Go.Proofs.YtdpmikfheebicaaGreatDoor
