import Derived.Test.YtbppdpbagmbmpaaGreatDoorDxGL
namespace Go.Proofs.YtbppdpbagmbmpaaGreatDoor
open Go Go.Dn Go.Proofs
attribute [local irreducible] funA vc
set_option maxRecDepth 20000
theorem sfx_zero (s : ByteArray) : sfx s 0 = s := by
  apply bl_inj
  rw [sfx_bl, List.drop_zero]
def stL2c (s : ByteArray) : List AV × List Dn.Obj := ([.lit (.string s)], [])
def sideL2c (s : ByteArray) : Prop := s.size ≤ 10000 ∧ plAll (bl s) = true
def tk1s (s : ByteArray) : List TK := ((lnG (s.size + 1) s).getD []).map (atL 1)
def outL2c (s : ByteArray) : Out (AV × List Dn.Obj) := .brn (lnG (s.size + 1) s).isSome (.one (.tup [.slc 0 0 ((tk1s s).map avT).length, .int 0, .int 0], [.row 31 ((tk1s s).map avT)])) (.one (.tup [.nil, .int 1, .int 20], []))
theorem cL2 (κ : Kp) : CallOk (BL2l κ).E 12 16 (callE stL2c sideL2c outL2c) := by
  refine callE_ok ?_
  rintro s K ⟨h1, h2⟩ ho
  have ho : brn (lnG (s.size + 1) s).isSome (K (.tup [.slc 0 0 ((tk1s s).map avT).length, .int 0, .int 0]) [.row 31 ((tk1s s).map avT)]) (K (.tup [.nil, .int 1, .int 20]) []) := ho
  refine Eq.mpr (yL2 κ s K) ?_
  have hsp := spL_le (bl s)
  rw [bl_len] at hsp
  have hz : spL ((bl s).drop (spL (bl s))) = 0 := by
    have : ∀ l : List UInt8, spL (l.drop (spL l)) = 0 := fun l => by
      induction l with
      | nil => rfl
      | cons b l ih =>
        rw [spL]
        cases e : b == 32 with
        | true => exact ih
        | false => rw [cond_false, List.drop_zero, spL, e]; rfl
    exact this _
  have hr : resL2 ⟨s, [], spL (bl s)⟩ = lnG (s.size + 1) s := by
    unfold resL2
    dsimp only
    have h3 := lnG_tr h2 (s.size + 1) 0
    rw [List.drop_zero, Nat.zero_add, sfx_zero] at h3
    rw [← h3]
    exact lnG_fuel (s.size - spL (bl s) + 1) _ _ (by rw [sfx_size]; omega) (by rw [sfx_size]; omega)
  refine brn_iff.2 ⟨fun e => absurd (of_decide_eq_true e) (by omega), fun _ => ⟨⟨s, 0⟩, rfl, ⟨by simp only; omega, Nat.zero_le _, h2⟩, rfl, ⟨s, [], spL (bl s)⟩, ?_, ⟨h1, hsp, h2, hz, by simp only [List.length_nil]; omega⟩, ?_⟩⟩
  · simp only [List.drop_zero, Nat.zero_add]; rfl
  · rw [hr]
    simp only [List.nil_append]
    exact ho
noncomputable def BL2 (κ : Kp) : EB := (BL2l κ).call (cL2 κ)
theorem xGs (κ : Kp) (s : ByteArray) (i : Int) (I : Nat → S → Prop) (N : Nat) (K : Exit → S → Prop) : (vc (BL2 κ).E 12 7 none 0 (loopCode (Pr κ).toProgram 7 4) (sp 100 [(0, .lit (.string s)), (3, .bool true), (4, .int i)] []) (loopK (BL2 κ).E 7 4 0 I N K)) = (
  brn (decide (i < (↑(ByteArray.size s) : Int))) (cnd (decide ((0 : Int) ≤ i) && decide (i < (↑(ByteArray.size s) : Int))) (brn (decide ((↑(byteAt s i.toNat) :
  Int) ≥ (97 : Int))) (brn (decide ((↑(byteAt s i.toNat) : Int) ≤ (122 : Int))) (∃ (m : Nat), m < N ∧ I m (sp 100 [(0, AV.str s), (3, AV.bool true), (4, AV.int
  (IntKind.wrap IntKind.i64 (i + (1 : Int))))] [])) (brn (decide ((↑(byteAt s i.toNat) : Int) ≥ (65 : Int))) (brn (decide ((↑(byteAt s i.toNat) : Int) ≤ (90 :
  Int))) (∃ (m : Nat), m < N ∧ I m (sp 100 [(0, AV.str s), (3, AV.bool true), (4, AV.int (IntKind.wrap IntKind.i64 (i + (1 : Int))))] [])) (brn (decide
  ((↑(byteAt s i.toNat) : Int) ≥ (48 : Int))) (brn (decide ((↑(byteAt s i.toNat) : Int) ≤ (57 : Int))) (∃ (m : Nat), m < N ∧ I m (sp 100 [(0, AV.str s), (3,
  AV.bool true), (4, AV.int (IntKind.wrap IntKind.i64 (i + (1 : Int))))] [])) (brn ((↑(byteAt s i.toNat) : Int) == (32 : Int)) (∃ (m : Nat), m < N ∧ I m (sp 100
  [(0, AV.str s), (3, AV.bool true), (4, AV.int (IntKind.wrap IntKind.i64 (i + (1 : Int))))] [])) (brn ((↑(byteAt s i.toNat) : Int) == (40 : Int)) (∃ (m : Nat),
  m < N ∧ I m (sp 100 [(0, AV.str s), (3, AV.bool true), (4, AV.int (IntKind.wrap IntKind.i64 (i + (1 : Int))))] [])) (brn ((↑(byteAt s i.toNat) : Int) == (41 :
  Int)) (∃ (m : Nat), m < N ∧ I m (sp 100 [(0, AV.str s), (3, AV.bool true), (4, AV.int (IntKind.wrap IntKind.i64 (i + (1 : Int))))] [])) (brn ((↑(byteAt s
  i.toNat) : Int) == (44 : Int)) (∃ (m : Nat), m < N ∧ I m (sp 100 [(0, AV.str s), (3, AV.bool true), (4, AV.int (IntKind.wrap IntKind.i64 (i + (1 : Int))))]
  [])) (brn (!(↑(byteAt s i.toNat) : Int) == (43 : Int)) (K Exit.ret (sp 100 [(2, AV.bool true)] [])) (∃ (m : Nat), m < N ∧ I m (sp 100 [(0, AV.str s), (3,
  AV.bool true), (4, AV.int (IntKind.wrap IntKind.i64 (i + (1 : Int))))] [])))))))) (brn ((↑(byteAt s i.toNat) : Int) == (32 : Int)) (∃ (m : Nat), m < N ∧ I m
  (sp 100 [(0, AV.str s), (3, AV.bool true), (4, AV.int (IntKind.wrap IntKind.i64 (i + (1 : Int))))] [])) (brn ((↑(byteAt s i.toNat) : Int) == (40 : Int)) (∃ (m
  : Nat), m < N ∧ I m (sp 100 [(0, AV.str s), (3, AV.bool true), (4, AV.int (IntKind.wrap IntKind.i64 (i + (1 : Int))))] [])) (brn ((↑(byteAt s i.toNat) : Int)
  == (41 : Int)) (∃ (m : Nat), m < N ∧ I m (sp 100 [(0, AV.str s), (3, AV.bool true), (4, AV.int (IntKind.wrap IntKind.i64 (i + (1 : Int))))] [])) (brn
  ((↑(byteAt s i.toNat) : Int) == (44 : Int)) (∃ (m : Nat), m < N ∧ I m (sp 100 [(0, AV.str s), (3, AV.bool true), (4, AV.int (IntKind.wrap IntKind.i64 (i + (1 :
  Int))))] [])) (brn (!(↑(byteAt s i.toNat) : Int) == (43 : Int)) (K Exit.ret (sp 100 [(2, AV.bool true)] [])) (∃ (m : Nat), m < N ∧ I m (sp 100 [(0, AV.str s),
  (3, AV.bool true), (4, AV.int (IntKind.wrap IntKind.i64 (i + (1 : Int))))] []))))))))) (brn (decide ((↑(byteAt s i.toNat) : Int) ≥ (48 : Int))) (brn (decide
  ((↑(byteAt s i.toNat) : Int) ≤ (57 : Int))) (∃ (m : Nat), m < N ∧ I m (sp 100 [(0, AV.str s), (3, AV.bool true), (4, AV.int (IntKind.wrap IntKind.i64 (i + (1 :
  Int))))] [])) (brn ((↑(byteAt s i.toNat) : Int) == (32 : Int)) (∃ (m : Nat), m < N ∧ I m (sp 100 [(0, AV.str s), (3, AV.bool true), (4, AV.int (IntKind.wrap
  IntKind.i64 (i + (1 : Int))))] [])) (brn ((↑(byteAt s i.toNat) : Int) == (40 : Int)) (∃ (m : Nat), m < N ∧ I m (sp 100 [(0, AV.str s), (3, AV.bool true), (4,
  AV.int (IntKind.wrap IntKind.i64 (i + (1 : Int))))] [])) (brn ((↑(byteAt s i.toNat) : Int) == (41 : Int)) (∃ (m : Nat), m < N ∧ I m (sp 100 [(0, AV.str s), (3,
  AV.bool true), (4, AV.int (IntKind.wrap IntKind.i64 (i + (1 : Int))))] [])) (brn ((↑(byteAt s i.toNat) : Int) == (44 : Int)) (∃ (m : Nat), m < N ∧ I m (sp 100
  [(0, AV.str s), (3, AV.bool true), (4, AV.int (IntKind.wrap IntKind.i64 (i + (1 : Int))))] [])) (brn (!(↑(byteAt s i.toNat) : Int) == (43 : Int)) (K Exit.ret
  (sp 100 [(2, AV.bool true)] [])) (∃ (m : Nat), m < N ∧ I m (sp 100 [(0, AV.str s), (3, AV.bool true), (4, AV.int (IntKind.wrap IntKind.i64 (i + (1 : Int))))]
  [])))))))) (brn ((↑(byteAt s i.toNat) : Int) == (32 : Int)) (∃ (m : Nat), m < N ∧ I m (sp 100 [(0, AV.str s), (3, AV.bool true), (4, AV.int (IntKind.wrap
  IntKind.i64 (i + (1 : Int))))] [])) (brn ((↑(byteAt s i.toNat) : Int) == (40 : Int)) (∃ (m : Nat), m < N ∧ I m (sp 100 [(0, AV.str s), (3, AV.bool true), (4,
  AV.int (IntKind.wrap IntKind.i64 (i + (1 : Int))))] [])) (brn ((↑(byteAt s i.toNat) : Int) == (41 : Int)) (∃ (m : Nat), m < N ∧ I m (sp 100 [(0, AV.str s), (3,
  AV.bool true), (4, AV.int (IntKind.wrap IntKind.i64 (i + (1 : Int))))] [])) (brn ((↑(byteAt s i.toNat) : Int) == (44 : Int)) (∃ (m : Nat), m < N ∧ I m (sp 100
  [(0, AV.str s), (3, AV.bool true), (4, AV.int (IntKind.wrap IntKind.i64 (i + (1 : Int))))] [])) (brn (!(↑(byteAt s i.toNat) : Int) == (43 : Int)) (K Exit.ret
  (sp 100 [(2, AV.bool true)] [])) (∃ (m : Nat), m < N ∧ I m (sp 100 [(0, AV.str s), (3, AV.bool true), (4, AV.int (IntKind.wrap IntKind.i64 (i + (1 : Int))))]
  [])))))))))) (brn (decide ((↑(byteAt s i.toNat) : Int) ≥ (65 : Int))) (brn (decide ((↑(byteAt s i.toNat) : Int) ≤ (90 : Int))) (∃ (m : Nat), m < N ∧ I m (sp
  100 [(0, AV.str s), (3, AV.bool true), (4, AV.int (IntKind.wrap IntKind.i64 (i + (1 : Int))))] [])) (brn (decide ((↑(byteAt s i.toNat) : Int) ≥ (48 : Int)))
  (brn (decide ((↑(byteAt s i.toNat) : Int) ≤ (57 : Int))) (∃ (m : Nat), m < N ∧ I m (sp 100 [(0, AV.str s), (3, AV.bool true), (4, AV.int (IntKind.wrap
  IntKind.i64 (i + (1 : Int))))] [])) (brn ((↑(byteAt s i.toNat) : Int) == (32 : Int)) (∃ (m : Nat), m < N ∧ I m (sp 100 [(0, AV.str s), (3, AV.bool true), (4,
  AV.int (IntKind.wrap IntKind.i64 (i + (1 : Int))))] [])) (brn ((↑(byteAt s i.toNat) : Int) == (40 : Int)) (∃ (m : Nat), m < N ∧ I m (sp 100 [(0, AV.str s), (3,
  AV.bool true), (4, AV.int (IntKind.wrap IntKind.i64 (i + (1 : Int))))] [])) (brn ((↑(byteAt s i.toNat) : Int) == (41 : Int)) (∃ (m : Nat), m < N ∧ I m (sp 100
  [(0, AV.str s), (3, AV.bool true), (4, AV.int (IntKind.wrap IntKind.i64 (i + (1 : Int))))] [])) (brn ((↑(byteAt s i.toNat) : Int) == (44 : Int)) (∃ (m : Nat),
  m < N ∧ I m (sp 100 [(0, AV.str s), (3, AV.bool true), (4, AV.int (IntKind.wrap IntKind.i64 (i + (1 : Int))))] [])) (brn (!(↑(byteAt s i.toNat) : Int) == (43 :
  Int)) (K Exit.ret (sp 100 [(2, AV.bool true)] [])) (∃ (m : Nat), m < N ∧ I m (sp 100 [(0, AV.str s), (3, AV.bool true), (4, AV.int (IntKind.wrap IntKind.i64 (i
  + (1 : Int))))] [])))))))) (brn ((↑(byteAt s i.toNat) : Int) == (32 : Int)) (∃ (m : Nat), m < N ∧ I m (sp 100 [(0, AV.str s), (3, AV.bool true), (4, AV.int
  (IntKind.wrap IntKind.i64 (i + (1 : Int))))] [])) (brn ((↑(byteAt s i.toNat) : Int) == (40 : Int)) (∃ (m : Nat), m < N ∧ I m (sp 100 [(0, AV.str s), (3,
  AV.bool true), (4, AV.int (IntKind.wrap IntKind.i64 (i + (1 : Int))))] [])) (brn ((↑(byteAt s i.toNat) : Int) == (41 : Int)) (∃ (m : Nat), m < N ∧ I m (sp 100
  [(0, AV.str s), (3, AV.bool true), (4, AV.int (IntKind.wrap IntKind.i64 (i + (1 : Int))))] [])) (brn ((↑(byteAt s i.toNat) : Int) == (44 : Int)) (∃ (m : Nat),
  m < N ∧ I m (sp 100 [(0, AV.str s), (3, AV.bool true), (4, AV.int (IntKind.wrap IntKind.i64 (i + (1 : Int))))] [])) (brn (!(↑(byteAt s i.toNat) : Int) == (43 :
  Int)) (K Exit.ret (sp 100 [(2, AV.bool true)] [])) (∃ (m : Nat), m < N ∧ I m (sp 100 [(0, AV.str s), (3, AV.bool true), (4, AV.int (IntKind.wrap IntKind.i64 (i
  + (1 : Int))))] []))))))))) (brn (decide ((↑(byteAt s i.toNat) : Int) ≥ (48 : Int))) (brn (decide ((↑(byteAt s i.toNat) : Int) ≤ (57 : Int))) (∃ (m : Nat), m <
  N ∧ I m (sp 100 [(0, AV.str s), (3, AV.bool true), (4, AV.int (IntKind.wrap IntKind.i64 (i + (1 : Int))))] [])) (brn ((↑(byteAt s i.toNat) : Int) == (32 :
  Int)) (∃ (m : Nat), m < N ∧ I m (sp 100 [(0, AV.str s), (3, AV.bool true), (4, AV.int (IntKind.wrap IntKind.i64 (i + (1 : Int))))] [])) (brn ((↑(byteAt s
  i.toNat) : Int) == (40 : Int)) (∃ (m : Nat), m < N ∧ I m (sp 100 [(0, AV.str s), (3, AV.bool true), (4, AV.int (IntKind.wrap IntKind.i64 (i + (1 : Int))))]
  [])) (brn ((↑(byteAt s i.toNat) : Int) == (41 : Int)) (∃ (m : Nat), m < N ∧ I m (sp 100 [(0, AV.str s), (3, AV.bool true), (4, AV.int (IntKind.wrap IntKind.i64
  (i + (1 : Int))))] [])) (brn ((↑(byteAt s i.toNat) : Int) == (44 : Int)) (∃ (m : Nat), m < N ∧ I m (sp 100 [(0, AV.str s), (3, AV.bool true), (4, AV.int
  (IntKind.wrap IntKind.i64 (i + (1 : Int))))] [])) (brn (!(↑(byteAt s i.toNat) : Int) == (43 : Int)) (K Exit.ret (sp 100 [(2, AV.bool true)] [])) (∃ (m : Nat),
  m < N ∧ I m (sp 100 [(0, AV.str s), (3, AV.bool true), (4, AV.int (IntKind.wrap IntKind.i64 (i + (1 : Int))))] [])))))))) (brn ((↑(byteAt s i.toNat) : Int) ==
  (32 : Int)) (∃ (m : Nat), m < N ∧ I m (sp 100 [(0, AV.str s), (3, AV.bool true), (4, AV.int (IntKind.wrap IntKind.i64 (i + (1 : Int))))] [])) (brn ((↑(byteAt s
  i.toNat) : Int) == (40 : Int)) (∃ (m : Nat), m < N ∧ I m (sp 100 [(0, AV.str s), (3, AV.bool true), (4, AV.int (IntKind.wrap IntKind.i64 (i + (1 : Int))))]
  [])) (brn ((↑(byteAt s i.toNat) : Int) == (41 : Int)) (∃ (m : Nat), m < N ∧ I m (sp 100 [(0, AV.str s), (3, AV.bool true), (4, AV.int (IntKind.wrap IntKind.i64
  (i + (1 : Int))))] [])) (brn ((↑(byteAt s i.toNat) : Int) == (44 : Int)) (∃ (m : Nat), m < N ∧ I m (sp 100 [(0, AV.str s), (3, AV.bool true), (4, AV.int
  (IntKind.wrap IntKind.i64 (i + (1 : Int))))] [])) (brn (!(↑(byteAt s i.toNat) : Int) == (43 : Int)) (K Exit.ret (sp 100 [(2, AV.bool true)] [])) (∃ (m : Nat),
  m < N ∧ I m (sp 100 [(0, AV.str s), (3, AV.bool true), (4, AV.int (IntKind.wrap IntKind.i64 (i + (1 : Int))))] []))))))))))) (K (Exit.exit 0) (sp 100 [(0,
  AV.str s), (3, AV.bool true)] []))) := by kernel_rfl
abbrev stGs (x : ByteArray × Nat) : S := sp 100 [(0, .lit (.string x.1)), (3, .bool true), (4, .int x.2)] []
def outGs (x : ByteArray × Nat) : Out (Exit × S) := .brn (plAll ((bl x.1).drop x.2)) (.one (.exit 0, sp 100 [(0, .lit (.string x.1)), (3, .bool true)] [])) (.one (.ret, sp 100 [(2, .bool true)] []))
theorem lGs (κ : Kp) : LoopOk (BL2 κ).E 12 7 4 (loopE 0 stGs sideRu outGs) := by
  refine loopE_ok (fun x => x.1.size - x.2) ?_
  rintro ⟨s, i⟩ K ⟨h1, h2⟩ ho
  simp only at h1 h2
  rw [show (BL2 κ).E.P = Pr κ from rfl]
  refine Eq.mpr (xGs κ s i _ _ K) ?_
  have ho : brn (plAll ((bl s).drop i)) (K (.exit 0) (sp 100 [(0, .lit (.string s)), (3, .bool true)] [])) (K .ret (sp 100 [(2, .bool true)] [])) := ho
  rw [Int.toNat_natCast, brn_iff]
  refine ⟨fun h => ?_, fun h => ?_⟩
  · have hi : i < s.size := by have := of_decide_eq_true h; omega
    obtain ⟨c, hd, hb⟩ := bl_at hi
    have hc : (decide ((0 : Int) ≤ (i : Int)) && decide ((i : Int) < (s.size : Int))) = true := by simp; omega
    have w4 : IntKind.wrap .i64 ((i : Int) + 1) = ((i + 1 : Nat) : Int) := by rw [wrap_ok (by omega) (by omega)]; rfl
    rw [hd] at ho
    unfold plAll at ho
    rw [List.all_cons] at ho
    rw [hb, w4]
    have next : plP c.toNat → ∃ m, m < s.size - i ∧ invOf stGs sideRu outGs (fun x => x.1.size - x.2) K m (sp 100 [(0, .lit (.string s)), (3, .bool true), (4, .int ((i + 1 : Nat) : Int))] []) := fun e => by
      rw [decide_eq_true e, Bool.true_and] at ho
      exact ⟨s.size - (i + 1), by omega, ⟨s, i + 1⟩, rfl, ⟨h1, hi⟩, rfl, ho⟩
    have stop : ¬ plP c.toNat → K .ret (sp 100 [(2, .bool true)] []) := fun e => by
      rw [decide_eq_false e, Bool.false_and] at ho
      exact (brn_iff.1 ho).2 rfl
    unfold plP at next stop
    generalize c.toNat = n at *
    refine cnd_iff.2 ⟨hc, ?_⟩
    simp only [brn_iff, decide_eq_true_eq, decide_eq_false_iff_not, Bool.not_eq_true', Bool.not_eq_false', beq_iff_eq, beq_eq_false_iff_ne]
    repeat' (first | exact fun h => next (by omega) | exact fun h => stop (by omega) | refine ⟨?_, ?_⟩ | intro _)
    all_goals first | exact next (by omega) | exact stop (by omega)
  · have hi : i = s.size := by have := of_decide_eq_false h; omega
    rw [List.drop_eq_nil_of_le (by rw [bl_len]; omega)] at ho
    exact ho
noncomputable def BGsl (κ : Kp) : EB := (BL2 κ).loop (lGs κ)
theorem yGs (κ : Kp) (s : ByteArray) (K : AV → List Dn.Obj → Prop) : (funA (BGsl κ).E 12 7 [.lit (.string s)] [] K) = (
  cnd (true && decide ((0 : Int) ≤ if (1000 : Int) < (↑(ByteArray.size s) : Int) then (1000 : Int) else (↑(ByteArray.size s) : Int)) && decide ((if (1000 : Int) <
  (↑(ByteArray.size s) : Int) then (1000 : Int) else (↑(ByteArray.size s) : Int)) ≤ (↑(ByteArray.size s) : Int))) (loopCode (Pg.toProgram (Env.P (EB.E (BL2 κ))))
  7 4 = loopCode (Pg.toProgram (Env.P (EB.E (BL2 κ)))) 7 4 ∧ ∃ (a : ByteArray × Nat), sp 100 [(0, AV.lit (Value.string (ByteArray.extract s 0 (Int.toNat (if
  (1000 : Int) < (↑(ByteArray.size s) : Int) then (1000 : Int) else (↑(ByteArray.size s) : Int)))))), (3, AV.bool true), (4, AV.int 0)] [] = stGs a ∧ sideRu a ∧
  brn (plAll (List.drop a.2 (bl a.1))) (cnd (Nat.ble (ByteArray.size a.1 + 2) 9223372036854775807) (∃ (a_1 : ByteArray), ([AV.str (a.1 ++
  { data := #[OfNat.ofNat 32, OfNat.ofNat 43] })], []) = stLx a_1 ∧ sideLx a_1 ∧ brn (Option.isNone (Prod.snd (Prod.snd (lexA a_1)))) (cnd (Nat.ble
  (ByteArray.size a.1 + 2) 9223372036854775807) (∃ (a_2 : ByteArray), ([AV.lit (Value.string (a.1 ++ { data := #[OfNat.ofNat 32, OfNat.ofNat 43] }))], []) =
  stL2c a_2 ∧ sideL2c a_2 ∧ brn (Option.isSome (lnG (ByteArray.size a_2 + 1) a_2)) (cnd (decide (List.length (List.take (List.length (List.map avT (Prod.fst
  (lexA a_1)))) (List.drop 0 (List.map avT (Prod.fst (lexA a_1))))) ≤ 1000000000)) (K (AV.lit (Value.bool (decide (List.map keyS (List.take (List.length
  (List.map avT (Prod.fst (lexA a_1)))) (List.drop 0 (List.map avT (Prod.fst (lexA a_1))))) = List.map keyS (List.take (List.length (List.map avT (tk1s a_2)))
  (List.drop 0 (List.map avT (tk1s a_2)))))))) [])) (K (AV.bool false) []))) (cnd (Nat.ble (ByteArray.size a.1 + 2) 9223372036854775807) (∃ (a_2 : ByteArray),
  ([AV.lit (Value.string (a.1 ++ { data := #[OfNat.ofNat 32, OfNat.ofNat 43] }))], []) = stL2c a_2 ∧ sideL2c a_2 ∧ brn (Option.isSome (lnG (ByteArray.size a_2 +
  1) a_2)) (brn ((Option.getD (Prod.snd (Prod.snd (lexA a_1))) (0 : Int) == (0 : Int)) == true) (K (AV.lit (Value.bool (decide ([] = List.map keyS (List.take
  (List.length (List.map avT (tk1s a_2))) (List.drop 0 (List.map avT (tk1s a_2)))))))) []) (K (AV.bool false) [])) (brn ((Option.getD (Prod.snd (Prod.snd (lexA
  a_1))) (0 : Int) == (0 : Int)) == false) (K (AV.bool true) []) (K (AV.bool false) [])))))) (K (AV.bool true) []))) := by kernel_rfl
end Go.Proofs.YtbppdpbagmbmpaaGreatDoor
namespace Go.Proofs.YtbppdpbagmbmpaaGreatDoor
open Go Go.Dn Go.Proofs
attribute [local irreducible] funA vc
set_option maxRecDepth 20000
theorem linL_no : ∀ l : List UInt8, (∀ b ∈ l, b ≠ 10) → linL l = [l]
  | [], _ => rfl
  | b :: l, h => by
    have hb : (b == 10) = false := beq_eq_false_iff_ne.2 (h b (List.mem_cons_self ..))
    rw [linL, hb, linL_no l fun x hx => h x (List.mem_cons_of_mem _ hx)]; rfl
def plusX : TX := (4, ⟨#[43]⟩)
def PE (l : List UInt8) : Prop := ∃ u, l = u ++ [43] ∧ (u = [] ∨ ∃ v, u = v ++ [32])
theorem spL_end : ∀ (u r : List UInt8), spL (u ++ 43 :: r) ≤ u.length
  | [], r => Nat.le_refl _
  | b :: u, r => by
    have := spL_end u r
    rw [List.cons_append, spL]
    cases b == 32 with
    | true => simp only [cond_true, List.length_cons]; omega
    | false => exact Nat.zero_le _
theorem wrd_end : ∀ (u r : List UInt8), wrdL (u ++ 32 :: r) ≤ u.length
  | [], r => Nat.le_refl _
  | b :: u, r => by
    have := wrd_end u r
    rw [List.cons_append, wrdL]
    cases isWb b with
    | true => simp only [cond_true, List.length_cons]; omega
    | false => exact Nat.zero_le _
theorem PE_drop {u : List UInt8} {k : Nat} (hu : u = [] ∨ ∃ v, u = v ++ [32]) (hk : k ≤ u.length) : PE ((u ++ [43]).drop k) := by
  rw [List.drop_append_of_le_length hk]
  refine ⟨u.drop k, rfl, ?_⟩
  rcases hu with rfl | ⟨v, rfl⟩
  · exact .inl (by simp)
  · rcases Nat.lt_or_ge v.length k with h | h
    · refine .inl (List.drop_eq_nil_of_le ?_)
      rw [List.length_append, List.length_singleton]; omega
    · exact .inr ⟨v.drop k, by rw [List.drop_append_of_le_length h]⟩
theorem tk_n {t : ByteArray} {c : UInt8} {r : List UInt8} (h : bl t = c :: r) (hp : plP c.toNat) (h32 : c ≠ 32) : (tk1 t).2.2 = 0 ∨ (tk1 t).2.2 = wdN t ∨ (onP c.toNat ∧ tk1 t = (4, t.extract 0 1, 1)) := by
  have hb := (byte_hd h).1
  have h3 : c.toNat ≠ 32 := fun e => h32 (UInt8.toNat_inj.1 e)
  unfold tk1
  rw [hb]
  cases e1 : isLe (c.toNat : Nat) with
  | true => cases decide ((wdN t : Int) > 40) <;> simp
  | false =>
  cases e2 : isDi (c.toNat : Nat) with
  | true => cases numB (t.extract 0 (wdN t)) <;> cases hasP (t.extract (wdN t) t.size) dotB <;> simp
  | false =>
    have hon : onP c.toNat := by
      unfold isLe at e1
      unfold isDi at e2
      simp only [Bool.or_eq_false_iff, Bool.and_eq_false_iff, decide_eq_false_iff_not, beq_eq_false_iff_ne] at e1 e2
      unfold plP at hp
      unfold onP
      omega
    have k34 : (((c.toNat : Nat) : Int) == 34) = false := beq_eq_false_iff_ne.2 (by unfold onP at hon; omega)
    rw [k34, sgn_one h hon]
    exact .inr (.inr ⟨hon, rfl⟩)
theorem spL_spL : ∀ l : List UInt8, spL (l.drop (spL l)) = 0
  | [] => rfl
  | b :: l => by
    rw [spL]
    cases e : b == 32 with
    | true => exact spL_spL l
    | false => rw [cond_false, List.drop_zero, spL, e]; rfl
theorem lnG_nil (k : Nat) {t : ByteArray} (h : bl t = []) : lnG k t = some [] := by
  cases k with
  | zero => rfl
  | succ k =>
    have : bl (trB t) = [] := by rw [tr_bl, h]; rfl
    have hz : (trB t).size = 0 := by rw [← bl_len, this]; rfl
    rw [lnG, empty_iff, decide_eq_true hz]; rfl
theorem last_plus : ∀ (k : Nat) (t : ByteArray) (l : List TX), t.size < k → plAll (bl t) = true → PE (bl t) → lnG k t = some l → ∃ l', l = l' ++ [plusX]
  | 0, _, _, h, _, _, _ => by omega
  | k + 1, t, l, hk, hp, ⟨u, hu, hv⟩, h => by
    have htr : bl (trB t) = (bl t).drop (spL (bl t)) := by rw [tr_bl, trim_pl _ hp]
    have hsp := spL_end u []
    rw [← hu] at hsp
    have hpe : PE (bl (trB t)) := by rw [htr, hu]; rw [hu] at hsp; exact PE_drop hv hsp
    have hz : spL (bl (trB t)) = 0 := by rw [htr]; exact spL_spL _
    have hpl : plAll (bl (trB t)) = true := by rw [htr]; exact pl_drop hp _
    have hle := trB_le t
    rw [lnG] at h
    generalize trB t = w at *
    obtain ⟨u, hu, hv⟩ := hpe
    have e1 : (w.toList == (ByteArray.mk #[]).toList) = false := by
      rw [empty_iff, decide_eq_false_iff_not, ← bl_len, hu]; simp
    obtain ⟨c, r, hcr⟩ : ∃ c r, bl w = c :: r := by
      rw [hu]
      cases u with
      | nil => exact ⟨_, _, rfl⟩
      | cons c u => exact ⟨_, _, rfl⟩
    have hpc := pl_mem hpl (b := c) (by rw [hcr]; exact List.mem_cons_self ..)
    have hc32 : c ≠ 32 := fun e => by
      rw [hcr, spL, e] at hz
      cases hz
    have e2 : hasP w slB = false := by
      rw [Bool.eq_false_iff]
      intro e
      have := hasP_hd hcr (by decide) e
      rw [← this] at hpc
      exact absurd hpc (by decide)
    rw [e1, e2] at h
    simp only [cond_false] at h
    cases e3 : (tk1 w).2.2 == 0 with
    | true => rw [e3] at h; cases h
    | false =>
      rw [e3] at h
      simp only [cond_false, Option.map_eq_some_iff] at h
      obtain ⟨l', h1, rfl⟩ := h
      have hn0 : (tk1 w).2.2 ≠ 0 := fun e => by rw [e] at e3; cases e3
      have hts := tk_pos (s := w) (by rw [← bl_len, hcr]; simp) e3
      have hrest : bl (w.extract (tk1 w).2.2.toNat w.size) = (bl w).drop (tk1 w).2.2.toNat := rest_bl _ _
      have hrs : (w.extract (tk1 w).2.2.toNat w.size).size < k := by rw [exs]; omega
      rcases hv with rfl | ⟨v, rfl⟩
      · rw [List.nil_append] at hu
        have hc : c = 43 := by rw [hcr] at hu; exact (List.cons.inj hu).1
        have hon : onP c.toNat := by rw [hc]; decide
        have hn : (tk1 w) = (4, w.extract 0 1, 1) := by
          rcases tk_n hcr hpc hc32 with h | h | h
          · exact absurd h hn0
          · exfalso
            have : wdN w = 0 := by
              unfold wdN
              rw [hu]; rfl
            rw [this] at h
            exact hn0 h
          · exact h.2
        rw [hn] at h1 hrest ⊢
        have hnil : bl (w.extract (1 : Int).toNat w.size) = [] := by rw [hrest, hu]; rfl
        rw [lnG_nil k hnil] at h1
        cases h1
        refine ⟨[], ?_⟩
        have : w.extract 0 1 = ⟨#[43]⟩ := by
          apply bl_inj
          rw [bl_ext, hu]; rfl
        simp only [List.nil_append, plusX, this]
      · have hv0 : v ≠ [] := fun e => by
          subst e
          rw [hcr] at hu
          exact hc32 (List.cons.inj hu).1
        have hvl : 1 ≤ v.length := List.length_pos_iff.2 hv0
        have hnl : (tk1 w).2.2.toNat ≤ v.length := by
          rcases tk_n hcr hpc hc32 with h | h | h
          · exact absurd h hn0
          · rw [h, Int.toNat_natCast]
            unfold wdN
            rw [hu, List.append_assoc]
            exact wrd_end v [43]
          · rw [h.2]; exact hvl
        obtain ⟨l2, rfl⟩ := last_plus k _ l' hrs (by rw [hrest]; exact pl_drop hpl _) (by
          rw [hrest, hu]
          exact PE_drop (.inr ⟨v, rfl⟩) (by rw [List.length_append]; omega)) h1
        exact ⟨_ :: l2, rfl⟩
theorem lex_plain {a : ByteArray} (ha : a.size ≤ 1000) (hp : plAll (bl a) = true) : plAll (bl (a ++ ⟨#[32, 43]⟩)) = true ∧ (a ++ (ByteArray.mk #[32, 43])).size ≤ 1002 ∧
    (∀ l, lnG ((a ++ (ByteArray.mk #[32, 43])).size + 1) (a ++ ⟨#[32, 43]⟩) = some l → lexA (a ++ ⟨#[32, 43]⟩) = (l.map (atL 1), 1, none)) ∧ (lnG ((a ++ (ByteArray.mk #[32, 43])).size + 1) (a ++ ⟨#[32, 43]⟩) = none → ∃ x y, lexA (a ++ ⟨#[32, 43]⟩) = (x, y, some 160)) := by
  have hb : bl (a ++ ⟨#[32, 43]⟩) = bl a ++ [32, 43] := bl_app _ _
  have hz : (a ++ (ByteArray.mk #[32, 43])).size ≤ 1002 := by
    rw [ByteArray.size_append, show (ByteArray.mk #[32, 43]).size = 2 from rfl]; omega
  have hpl : plAll (bl (a ++ ⟨#[32, 43]⟩)) = true := by
    rw [hb]
    unfold plAll at hp ⊢
    rw [List.all_append, hp]; rfl
  have hpe : PE (bl (a ++ ⟨#[32, 43]⟩)) := ⟨bl a ++ [32], by rw [hb, List.append_assoc]; rfl, .inr ⟨bl a, rfl⟩⟩
  generalize a ++ (ByteArray.mk #[32, 43]) = z at *
  have hl : linL (bl z) = [bl z] := linL_no _ fun b hb e => by
    have := pl_mem hpl hb
    rw [e] at this
    exact absurd this (by decide)
  obtain ⟨q1, q2⟩ := lexA_eq (s := z) (by omega)
  have hlb : linB z = [z] := by unfold linB; rw [hl, List.map_singleton, mkB_bl]
  rw [hlb] at q1 q2
  rw [hl] at q1
  refine ⟨hpl, hz, fun l h => ?_, fun h => ?_⟩
  · obtain ⟨l', rfl⟩ := last_plus _ _ _ (Nat.lt_succ_self _) hpl hpe h
    have hg : lexG [z] 0 = some ((l' ++ [plusX]).map (atL 1)) := by
      have h0 : lastG (l' ++ [plusX]) = false := by
        unfold lastG
        rw [List.getLast?_append]
        show endT 4 ⟨#[43]⟩ = false
        decide +kernel
      rw [lexG, lineG, h, Option.map_some, h0]
      simp only [cond_false, lexG, Option.map_some, List.append_nil]; rfl
    exact q1 _ hg
  · have hg : lexG [z] 0 = none := by rw [lexG, lineG, h]; rfl
    obtain ⟨x, hx⟩ := q2 hg
    exact ⟨x, _, hx⟩
theorem key_same (l : List AV) : decide (l.map keyS = l.map keyS) = true := decide_eq_true rfl
theorem simGs (κ : Kp) (s : ByteArray) : SimCall (Pr κ) 7 [.lit (.string s)] [] fun r _ => r = .bool true :=
  fun_sound (BGsl κ).ok (BGsl κ).mono (Eq.mpr (yGs κ s _) (by
    have hm : (if (1000 : Int) < (s.size : Int) then (1000 : Int) else (s.size : Int)) = ((min s.size 1000 : Nat) : Int) := by split <;> omega
    rw [hm, Int.toNat_natCast]
    refine cnd_iff.2 ⟨by simp; omega, ?_⟩
    have ha : (s.extract 0 (min s.size 1000)).size ≤ 1000 := by rw [ByteArray.size_extract]; omega
    generalize s.extract 0 (min s.size 1000) = a at ha ⊢
    refine ⟨rfl, ⟨a, 0⟩, rfl, ⟨by simp only; omega, Nat.zero_le _⟩, ?_⟩
    simp only [List.drop_zero]
    refine brn_iff.2 ⟨fun hp => cnd_iff.2 ⟨nble (by omega), _, rfl, trivial, ?_⟩, fun _ => trivial⟩
    obtain ⟨hpl, hz, h1, h2⟩ := lex_plain ha hp
    generalize hzz : a ++ (ByteArray.mk #[32, 43]) = z at *
    have hcl : sideL2c z := ⟨by omega, hpl⟩
    have hst : ([AV.lit (.string z)], ([] : List Dn.Obj)) = stL2c z := rfl
    cases e : lnG (z.size + 1) z with
    | none =>
      obtain ⟨x, y, hx⟩ := h2 e
      rw [hx]
      refine brn_iff.2 ⟨fun e => (by cases e), fun _ => cnd_iff.2 ⟨nble (by omega), z, hst, hcl, ?_⟩⟩
      rw [e]
      exact brn_iff.2 ⟨fun e => (by cases e), fun _ => brn_iff.2 ⟨fun _ => trivial, fun e => (by cases e)⟩⟩
    | some l =>
      rw [h1 l e]
      refine brn_iff.2 ⟨fun _ => cnd_iff.2 ⟨nble (by omega), z, hst, hcl, ?_⟩, fun e => (by cases e)⟩
      have ht : tk1s z = l.map (atL 1) := by unfold tk1s; rw [e]; rfl
      rw [e, ht]
      have hlen := lnG_len _ _ _ e
      refine brn_iff.2 ⟨fun _ => cnd_iff.2 ⟨?_, ?_⟩, fun e => (by cases e)⟩
      · rw [decide_eq_true_eq, List.length_take]
        simp only [List.length_map]
        omega
      · rw [key_same]))
end Go.Proofs.YtbppdpbagmbmpaaGreatDoor
