import Derived.Test.YtbppdpbagmbmpaaGreatDoorDxGJ
namespace Go.Proofs.YtbppdpbagmbmpaaGreatDoor
open Go Go.Dn Go.Proofs
attribute [local irreducible] funA vc
set_option maxRecDepth 20000
def EB.inline (b : EB) (l : List Nat) : EB := ⟨{ b.E with inl := fun f => memN f l || b.E.inl f }, ⟨b.ok.prog, b.ok.pcall, b.ok.call, b.ok.rng, b.ok.loop⟩, ⟨b.mono.call, b.mono.loop, b.mono.rng⟩⟩
noncomputable def BHs (κ : Kp) : EB := EB.inline (EB.hush (BSa κ) [36, 37, 71, 38, 47, 48, 67, 83]) [44, 45]
def plP (c : Nat) : Prop := (97 ≤ c ∧ c ≤ 122) ∨ (65 ≤ c ∧ c ≤ 90) ∨ (48 ≤ c ∧ c ≤ 57) ∨ c = 32 ∨ c = 40 ∨ c = 41 ∨ c = 44 ∨ c = 43
instance (c : Nat) : Decidable (plP c) := by unfold plP; exact inferInstance
def plAll (l : List UInt8) : Bool := l.all fun b => decide (plP b.toNat)
theorem xSm (κ : Kp) (s : ByteArray) (i : Int) (I : Nat → S → Prop) (N : Nat) (K : Exit → S → Prop) : (vc (BHs κ).E 12 47 none 0 (loopCode (Pr κ).toProgram 47 1) (sp 24 [(0, .lit (.string s)), (1, .int i)] []) (loopK (BHs κ).E 47 1 0 I N K)) = (
  brn (decide (i < (↑(ByteArray.size s) : Int))) (cnd (decide ((0 : Int) ≤ i) && decide (i < (↑(ByteArray.size s) : Int))) (brn (decide ((↑(byteAt s i.toNat) :
  Int) ≥ (97 : Int))) (cnd (decide ((0 : Int) ≤ i) && decide (i < (↑(ByteArray.size s) : Int))) (brn (decide ((↑(byteAt s i.toNat) : Int) ≤ (122 : Int))) (∃ (m :
  Nat), m < N ∧ I m (sp 24 [(0, AV.str s), (1, AV.int (IntKind.wrap IntKind.i64 (i + (1 : Int))))] [])) (K (Exit.exit 0) (sp 24 [(1, AV.int i)] [])))) (K
  (Exit.exit 0) (sp 24 [(1, AV.int i)] [])))) (K (Exit.exit 0) (sp 24 [(1, AV.int i)] []))) := by kernel_rfl
def smaL : List UInt8 → Nat
  | [] => 0
  | b :: l => bif decide (b.toNat ≥ 97) && decide (b.toNat ≤ 122) then smaL l + 1 else 0
abbrev stSm (x : ByteArray × Nat) : S := sp 24 [(0, .lit (.string x.1)), (1, .int x.2)] []
def outSm (x : ByteArray × Nat) : Out (Exit × S) := .one (.exit 0, sp 24 [(1, .int ((x.2 + smaL ((bl x.1).drop x.2) : Nat) : Int))] [])
theorem lSm (κ : Kp) : LoopOk (BHs κ).E 12 47 1 (loopE 0 stSm sideRu outSm) := by
  refine loopE_ok (fun x => x.1.size - x.2) ?_
  rintro ⟨s, i⟩ K ⟨h1, h2⟩ ho
  simp only at h1 h2
  rw [show (BHs κ).E.P = Pr κ from rfl]
  refine Eq.mpr (xSm κ s i _ _ K) ?_
  have ho : K (.exit 0) (sp 24 [(1, .int ((i + smaL ((bl s).drop i) : Nat) : Int))] []) := ho
  rw [Int.toNat_natCast, brn_iff]
  refine ⟨fun h => ?_, fun h => ?_⟩
  · have hi : i < s.size := by have := of_decide_eq_true h; omega
    obtain ⟨c, hd, hb⟩ := bl_at hi
    have hc : (decide ((0 : Int) ≤ (i : Int)) && decide ((i : Int) < (s.size : Int))) = true := by simp; omega
    have w4 : IntKind.wrap .i64 ((i : Int) + 1) = ((i + 1 : Nat) : Int) := by rw [wrap_ok (by omega) (by omega)]; rfl
    rw [hd, smaL] at ho
    rw [hb, w4]
    refine cnd_iff.2 ⟨hc, brn_iff.2 ⟨fun e => cnd_iff.2 ⟨hc, brn_iff.2 ⟨fun e2 => ?_, fun e2 => ?_⟩⟩, fun e => ?_⟩⟩
    · have e := of_decide_eq_true e
      have e2 := of_decide_eq_true e2
      rw [decide_eq_true (by omega), decide_eq_true (by omega)] at ho
      refine ⟨s.size - (i + 1), by simp only; omega, ⟨s, i + 1⟩, rfl, ⟨h1, hi⟩, rfl, ?_⟩
      show K (.exit 0) (sp 24 [(1, .int ((i + 1 + smaL ((bl s).drop (i + 1)) : Nat) : Int))] [])
      rw [show i + 1 + smaL ((bl s).drop (i + 1)) = i + (smaL ((bl s).drop (i + 1)) + 1) by omega]
      exact ho
    · have e2 := of_decide_eq_false e2
      rw [decide_eq_false (show ¬ c.toNat ≤ 122 by omega), Bool.and_false] at ho
      exact ho
    · have e := of_decide_eq_false e
      rw [decide_eq_false (show ¬ c.toNat ≥ 97 by omega), Bool.false_and] at ho
      exact ho
  · have hi : i = s.size := by have := of_decide_eq_false h; omega
    rw [List.drop_eq_nil_of_le (by rw [bl_len]; omega)] at ho
    exact ho
noncomputable def BSml (κ : Kp) : EB := (BHs κ).loop (lSm κ)
theorem ySm (κ : Kp) (s : ByteArray) (i : Int) (K : AV → List Dn.Obj → Prop) : (funA (BSml κ).E 12 47 [.lit (.string s), .int i] [] K) = (
  loopCode (Pg.toProgram (Env.P (EB.E (BHs κ)))) 47 1 = loopCode (Pg.toProgram (Env.P (EB.E (BHs κ)))) 47 1 ∧ ∃ (a : ByteArray × Nat), sp 24 [(0, AV.str s), (1,
  AV.int i)] [] = stSm a ∧ sideRu a ∧ K (AV.int (↑(a.2 + smaL (List.drop a.2 (bl a.1))) : Int)) []) := by kernel_rfl
def gSm : List AV → Option (Bool × AV)
  | [.lit (.string s), .lit (.int .i64 i)] => some (decide (0 ≤ i ∧ i ≤ s.size ∧ s.size ≤ 1000000000), .int ((i.toNat + smaL ((bl s).drop i.toNat) : Nat) : Int))
  | _ => none
theorem pSm (κ : Kp) : PureOk (BSml κ).E 12 47 gSm := by
  intro args x hh
  unfold gSm at hh
  split at hh
  · rename_i s i
    simp only [Option.some.injEq, Prod.mk.injEq, decide_eq_true_eq] at hh
    obtain ⟨⟨h0, h1, h2⟩, rfl⟩ := hh
    obtain ⟨k, rfl⟩ : ∃ k : Nat, i = k := ⟨i.toNat, by omega⟩
    exact ⟨_, rfl, rfl, Eq.mpr (ySm κ s k _) ⟨rfl, ⟨s, k⟩, rfl, ⟨h2, by simp only; omega⟩, rfl⟩⟩
  · cases hh
noncomputable def BSm (κ : Kp) : EB := (BSml κ).pure (pSm κ)
theorem xSk (κ : Kp) (s : ByteArray) (i n : Int) (I : Nat → S → Prop) (N : Nat) (K : Exit → S → Prop) : (vc (BSm κ).E 12 25 none 0 (loopCode (Pr κ).toProgram 25 2) (sp 62 [(0, .lit (.string s)), (1, .int i), (6, .int n)] []) (loopK (BSm κ).E 25 2 0 I N K)) = (
  brn (decide (i < (↑(ByteArray.size s) : Int))) (cnd (decide ((0 : Int) ≤ i) && decide (i < (↑(ByteArray.size s) : Int))) (brn ((↑(byteAt s i.toNat) : Int) == (32
  : Int)) (cnd (decide ((0 : Int) ≤ i) && decide (i < (↑(ByteArray.size s) : Int))) (brn ((↑(byteAt s i.toNat) : Int) == (10 : Int)) (∃ (m : Nat), m < N ∧ I m
  (sp 62 [(0, AV.str s), (1, AV.int (IntKind.wrap IntKind.i64 (i + (1 : Int)))), (6, AV.int (IntKind.wrap IntKind.i64 (n + (1 : Int))))] [])) (∃ (m : Nat), m < N
  ∧ I m (sp 62 [(0, AV.str s), (1, AV.int (IntKind.wrap IntKind.i64 (i + (1 : Int)))), (6, AV.int n)] [])))) (cnd (decide ((0 : Int) ≤ i) && decide (i <
  (↑(ByteArray.size s) : Int))) (brn ((↑(byteAt s i.toNat) : Int) == (9 : Int)) (cnd (decide ((0 : Int) ≤ i) && decide (i < (↑(ByteArray.size s) : Int))) (brn
  ((↑(byteAt s i.toNat) : Int) == (10 : Int)) (∃ (m : Nat), m < N ∧ I m (sp 62 [(0, AV.str s), (1, AV.int (IntKind.wrap IntKind.i64 (i + (1 : Int)))), (6, AV.int
  (IntKind.wrap IntKind.i64 (n + (1 : Int))))] [])) (∃ (m : Nat), m < N ∧ I m (sp 62 [(0, AV.str s), (1, AV.int (IntKind.wrap IntKind.i64 (i + (1 : Int)))), (6,
  AV.int n)] [])))) (cnd (decide ((0 : Int) ≤ i) && decide (i < (↑(ByteArray.size s) : Int))) (brn ((↑(byteAt s i.toNat) : Int) == (10 : Int)) (cnd (decide ((0 :
  Int) ≤ i) && decide (i < (↑(ByteArray.size s) : Int))) (brn ((↑(byteAt s i.toNat) : Int) == (10 : Int)) (∃ (m : Nat), m < N ∧ I m (sp 62 [(0, AV.str s), (1,
  AV.int (IntKind.wrap IntKind.i64 (i + (1 : Int)))), (6, AV.int (IntKind.wrap IntKind.i64 (n + (1 : Int))))] [])) (∃ (m : Nat), m < N ∧ I m (sp 62 [(0, AV.str
  s), (1, AV.int (IntKind.wrap IntKind.i64 (i + (1 : Int)))), (6, AV.int n)] [])))) (brn (decide (IntKind.wrap IntKind.i64 (i + (1 : Int)) ≥ (↑(ByteArray.size s)
  : Int))) (K (Exit.exit 0) (sp 62 [(1, AV.int i), (6, AV.int n)] [])) (cnd (decide ((0 : Int) ≤ i) && decide (i ≤ IntKind.wrap IntKind.i64 (i + (2 : Int))) &&
  decide (IntKind.wrap IntKind.i64 (i + (2 : Int)) ≤ (↑(ByteArray.size s) : Int))) (cnd (!ByteArray.toList (ByteArray.extract s i.toNat (Int.toNat (IntKind.wrap
  IntKind.i64 (i + (2 : Int))))) == ByteArray.toList { data := #[OfNat.ofNat 47, OfNat.ofNat 47] }) (K (Exit.exit 0) (sp 62 [(1, AV.int i), (6, AV.int n)]
  []))))))))))) (K (Exit.exit 0) (sp 62 [(1, AV.int i), (6, AV.int n)] []))) := by kernel_rfl
def spL : List UInt8 → Nat
  | [] => 0
  | b :: l => bif b == 32 then spL l + 1 else 0
theorem spL_le : ∀ l : List UInt8, spL l ≤ l.length
  | [] => Nat.le_refl _
  | b :: l => by
    have := spL_le l
    rw [spL]
    cases b == 32 with
    | true => simp only [cond_true, List.length_cons]; omega
    | false => exact Nat.zero_le _
abbrev stSk (x : ByteArray × Nat) : S := sp 62 [(0, .lit (.string x.1)), (1, .int x.2), (6, .int 0)] []
def sideSk (x : ByteArray × Nat) : Prop := x.1.size ≤ 1000000000 ∧ x.2 ≤ x.1.size ∧ plAll (bl x.1) = true
def outSk (x : ByteArray × Nat) : Out (Exit × S) := .one (.exit 0, sp 62 [(1, .int ((x.2 + spL ((bl x.1).drop x.2) : Nat) : Int)), (6, .int 0)] [])
theorem pl_at {s : ByteArray} (h : plAll (bl s) = true) {i : Nat} {c : UInt8} {r : List UInt8} (hd : (bl s).drop i = c :: r) : plP c.toNat := by
  have hm : c ∈ bl s := List.mem_of_mem_drop (hd ▸ List.mem_cons_self ..)
  exact of_decide_eq_true (List.all_eq_true.1 h c hm)
theorem lSk (κ : Kp) : LoopOk (BSm κ).E 12 25 2 (loopE 0 stSk sideSk outSk) := by
  refine loopE_ok (fun x => x.1.size - x.2) ?_
  rintro ⟨s, i⟩ K ⟨h1, h2, h3⟩ ho
  simp only at h1 h2 h3
  rw [show (BSm κ).E.P = Pr κ from rfl]
  refine Eq.mpr (xSk κ s i 0 _ _ K) ?_
  have ho : K (.exit 0) (sp 62 [(1, .int ((i + spL ((bl s).drop i) : Nat) : Int)), (6, .int 0)] []) := ho
  rw [Int.toNat_natCast, brn_iff]
  refine ⟨fun h => ?_, fun h => ?_⟩
  · have hi : i < s.size := by have := of_decide_eq_true h; omega
    obtain ⟨c, hd, hb⟩ := bl_at hi
    have hp := pl_at h3 hd
    have hc : (decide ((0 : Int) ≤ (i : Int)) && decide ((i : Int) < (s.size : Int))) = true := by simp; omega
    have w4 : IntKind.wrap .i64 ((i : Int) + 1) = ((i + 1 : Nat) : Int) := by rw [wrap_ok (by omega) (by omega)]; rfl
    have w5 : IntKind.wrap .i64 ((i : Int) + 2) = ((i + 2 : Nat) : Int) := by rw [wrap_ok (by omega) (by omega)]; rfl
    rw [hd, spL] at ho
    rw [hb, w4, w5]
    unfold plP at hp
    have k9 : (((c.toNat : Nat) : Int) == 9) = false := beq_eq_false_iff_ne.2 (by omega)
    have k10 : (((c.toNat : Nat) : Int) == 10) = false := beq_eq_false_iff_ne.2 (by omega)
    rw [k9, k10]
    refine cnd_iff.2 ⟨hc, brn_iff.2 ⟨fun e => cnd_iff.2 ⟨hc, brn_iff.2 ⟨fun e => (by cases e), fun _ => ?_⟩⟩, fun e => cnd_iff.2 ⟨hc, brn_iff.2 ⟨fun e => (by cases e), fun _ => cnd_iff.2 ⟨hc, brn_iff.2 ⟨fun e => (by cases e), fun _ => ?_⟩⟩⟩⟩⟩⟩
    · have e : c = 32 := UInt8.toNat_inj.1 (by have := beq_iff_eq.1 e; show c.toNat = 32; omega)
      rw [e] at ho
      refine ⟨s.size - (i + 1), by simp only; omega, ⟨s, i + 1⟩, rfl, ⟨h1, hi, h3⟩, rfl, ?_⟩
      show K (.exit 0) (sp 62 [(1, .int ((i + 1 + spL ((bl s).drop (i + 1)) : Nat) : Int)), (6, .int 0)] [])
      rw [show i + 1 + spL ((bl s).drop (i + 1)) = i + (spL ((bl s).drop (i + 1)) + 1) by omega]
      exact ho
    · have e : (c == 32) = false := beq_eq_false_iff_ne.2 fun e2 => by
        rw [e2] at e; exact absurd e (by decide)
      rw [e] at ho
      refine brn_iff.2 ⟨fun _ => ho, fun e5 => cnd_iff.2 ⟨?_, brn_iff.2 ⟨fun _ => ho, fun e6 => ?_⟩⟩⟩
      · have := of_decide_eq_false e5
        simp; omega
      · exfalso
        rw [Bool.not_eq_false', beq_iff_eq, Int.toNat_natCast, bl_toList, bl_toList, bl_ext, hd, show i + 2 - i = 1 + 1 by omega, List.take_succ_cons] at e6
        have : c = 47 := (List.cons.inj e6).1
        rw [this] at hp
        revert hp
        decide
  · have hi : i = s.size := by have := of_decide_eq_false h; omega
    rw [List.drop_eq_nil_of_le (by rw [bl_len]; omega)] at ho
    exact ho
noncomputable def BSkl (κ : Kp) : EB := (BSm κ).loop (lSk κ)
theorem ySk (κ : Kp) (s : ByteArray) (i : Int) (K : AV → List Dn.Obj → Prop) : (funA (BSkl κ).E 12 25 [.lit (.string s), .int i] [] K) = (
  loopCode (Pg.toProgram (Env.P (EB.E (BSm κ)))) 25 2 = loopCode (Pg.toProgram (Env.P (EB.E (BSm κ)))) 25 2 ∧ ∃ (a : ByteArray × Nat), sp 62 [(0, AV.str s), (1,
  AV.int i), (6, AV.int 0)] [] = stSk a ∧ sideSk a ∧ K (AV.tup [AV.int (↑(a.2 + spL (List.drop a.2 (bl a.1))) : Int), AV.int 0]) []) := by kernel_rfl
def stSkc (x : ByteArray × Nat) : List AV × List Dn.Obj := ([.lit (.string x.1), .int x.2], [])
def outSkc (x : ByteArray × Nat) : Out (AV × List Dn.Obj) := .one (.tup [.int ((x.2 + spL ((bl x.1).drop x.2) : Nat) : Int), .int 0], [])
theorem cSk (κ : Kp) : CallOk (BSkl κ).E 12 25 (callE stSkc sideSk outSkc) := by
  refine callE_ok ?_
  rintro ⟨s, i⟩ K hs ho
  exact Eq.mpr (ySk κ s i K) ⟨rfl, ⟨s, i⟩, rfl, hs, ho⟩
noncomputable def BSk (κ : Kp) : EB := (BSkl κ).call (cSk κ)
theorem ySg (κ : Kp) (s : ByteArray) (i : Int) (K : AV → List Dn.Obj → Prop) : (funA (BSk κ).E 12 48 [.lit (.string s), .int i] [] K) = (
  cnd (decide ((0 : Int) ≤ i) && decide (i ≤ if IntKind.wrap IntKind.i64 (i + (2 : Int)) < (↑(ByteArray.size s) : Int) then IntKind.wrap IntKind.i64 (i + (2 :
  Int)) else (↑(ByteArray.size s) : Int)) && decide ((if IntKind.wrap IntKind.i64 (i + (2 : Int)) < (↑(ByteArray.size s) : Int) then IntKind.wrap IntKind.i64 (i
  + (2 : Int)) else (↑(ByteArray.size s) : Int)) ≤ (↑(ByteArray.size s) : Int))) (brn (ByteArray.toList (ByteArray.extract s i.toNat (Int.toNat (if IntKind.wrap
  IntKind.i64 (i + (2 : Int)) < (↑(ByteArray.size s) : Int) then IntKind.wrap IntKind.i64 (i + (2 : Int)) else (↑(ByteArray.size s) : Int)))) == ByteArray.toList
  { data := #[OfNat.ofNat 58, OfNat.ofNat 45] }) (K (AV.int 2) []) (brn (ByteArray.toList (ByteArray.extract s i.toNat (Int.toNat (if IntKind.wrap IntKind.i64 (i
  + (2 : Int)) < (↑(ByteArray.size s) : Int) then IntKind.wrap IntKind.i64 (i + (2 : Int)) else (↑(ByteArray.size s) : Int)))) == ByteArray.toList
  { data := #[OfNat.ofNat 33, OfNat.ofNat 61] }) (K (AV.int 2) []) (brn (ByteArray.toList (ByteArray.extract s i.toNat (Int.toNat (if IntKind.wrap IntKind.i64 (i
  + (2 : Int)) < (↑(ByteArray.size s) : Int) then IntKind.wrap IntKind.i64 (i + (2 : Int)) else (↑(ByteArray.size s) : Int)))) == ByteArray.toList
  { data := #[OfNat.ofNat 60, OfNat.ofNat 61] }) (K (AV.int 2) []) (brn (ByteArray.toList (ByteArray.extract s i.toNat (Int.toNat (if IntKind.wrap IntKind.i64 (i
  + (2 : Int)) < (↑(ByteArray.size s) : Int) then IntKind.wrap IntKind.i64 (i + (2 : Int)) else (↑(ByteArray.size s) : Int)))) == ByteArray.toList
  { data := #[OfNat.ofNat 62, OfNat.ofNat 61] }) (K (AV.int 2) []) (cnd (decide ((0 : Int) ≤ i) && decide (i < (↑(ByteArray.size s) : Int))) (brn ((↑(byteAt s
  i.toNat) : Int) == (40 : Int)) (K (AV.int 1) []) (brn ((↑(byteAt s i.toNat) : Int) == (41 : Int)) (K (AV.int 1) []) (brn ((↑(byteAt s i.toNat) : Int) == (123 :
  Int)) (K (AV.int 1) []) (brn ((↑(byteAt s i.toNat) : Int) == (125 : Int)) (K (AV.int 1) []) (brn ((↑(byteAt s i.toNat) : Int) == (44 : Int)) (K (AV.int 1) [])
  (brn ((↑(byteAt s i.toNat) : Int) == (46 : Int)) (K (AV.int 1) []) (brn ((↑(byteAt s i.toNat) : Int) == (58 : Int)) (K (AV.int 1) []) (brn ((↑(byteAt s
  i.toNat) : Int) == (33 : Int)) (K (AV.int 1) []) (brn ((↑(byteAt s i.toNat) : Int) == (61 : Int)) (K (AV.int 1) []) (brn ((↑(byteAt s i.toNat) : Int) == (60 :
  Int)) (K (AV.int 1) []) (brn ((↑(byteAt s i.toNat) : Int) == (62 : Int)) (K (AV.int 1) []) (brn ((↑(byteAt s i.toNat) : Int) == (43 : Int)) (K (AV.int 1) [])
  (brn ((↑(byteAt s i.toNat) : Int) == (45 : Int)) (K (AV.int 1) []) (brn ((↑(byteAt s i.toNat) : Int) == (42 : Int)) (K (AV.int 1) []) (K (AV.int 0)
  []))))))))))))))))))))) := by kernel_rfl
def onP (c : Nat) : Prop := c = 40 ∨ c = 41 ∨ c = 44 ∨ c = 43
instance (c : Nat) : Decidable (onP c) := by unfold onP; exact inferInstance
def gS2 : List AV → Option (Bool × AV)
  | [.lit (.string s), .lit (.int .i64 i)] => some (decide (0 ≤ i ∧ i < s.size ∧ s.size ≤ 1000000000 ∧ onP (byteAt s i.toNat)), .int 1)
  | _ => none
theorem two_ne {s : ByteArray} {i k : Nat} {c : UInt8} {r : List UInt8} (hd : (bl s).drop i = c :: r) (hk : i < k) (x y : UInt8) (hc : c ≠ x) : ((s.extract i k).toList == (ByteArray.mk #[x, y]).toList) = false := by
  rw [beq_eq_false_iff_ne, bl_toList, bl_toList, bl_ext, hd]
  intro e
  obtain ⟨m, hm⟩ : ∃ m, k - i = m + 1 := ⟨k - i - 1, by omega⟩
  rw [hm, List.take_succ_cons] at e
  exact hc (List.cons.inj e).1
theorem pS2 (κ : Kp) : PureOk (BSk κ).E 12 48 gS2 := by
  intro args x hh
  unfold gS2 at hh
  split at hh
  · rename_i s i
    simp only [Option.some.injEq, Prod.mk.injEq, decide_eq_true_eq] at hh
    obtain ⟨⟨h0, h1, h2, h3⟩, rfl⟩ := hh
    obtain ⟨k, rfl⟩ : ∃ k : Nat, i = k := ⟨i.toNat, by omega⟩
    have hi : k < s.size := by omega
    obtain ⟨c, hd, hb⟩ := bl_at hi
    rw [Int.toNat_natCast, hb] at h3
    refine ⟨_, rfl, rfl, Eq.mpr (ySg κ s k _) ?_⟩
    have w5 : IntKind.wrap .i64 ((k : Int) + 2) = ((k + 2 : Nat) : Int) := by rw [wrap_ok (by omega) (by omega)]; rfl
    have hm : (if ((k + 2 : Nat) : Int) < (s.size : Int) then ((k + 2 : Nat) : Int) else (s.size : Int)) = ((min (k + 2) s.size : Nat) : Int) := by split <;> omega
    have ne : ∀ x y, c ≠ x → ((s.extract k (min (k + 2) s.size)).toList == (ByteArray.mk #[x, y]).toList) = false := fun x y hx => two_ne hd (by omega) x y hx
    unfold onP at h3
    have nx : ∀ x : UInt8, ¬ onP x.toNat → c ≠ x := fun x hx e => hx (by rw [← e]; exact h3)
    rw [w5, hm, Int.toNat_natCast, Int.toNat_natCast, hb]
    have hc : (decide ((0 : Int) ≤ (k : Int)) && decide ((k : Int) < (s.size : Int))) = true := by simp; omega
    refine cnd_iff.2 ⟨by simp; omega, ?_⟩
    refine brn_iff.2 ⟨fun e => absurd ((ne 58 45 (nx 58 (by decide))).symm.trans e) (by decide), fun _ => ?_⟩
    refine brn_iff.2 ⟨fun e => absurd ((ne 33 61 (nx 33 (by decide))).symm.trans e) (by decide), fun _ => ?_⟩
    refine brn_iff.2 ⟨fun e => absurd ((ne 60 61 (nx 60 (by decide))).symm.trans e) (by decide), fun _ => ?_⟩
    refine brn_iff.2 ⟨fun e => absurd ((ne 62 61 (nx 62 (by decide))).symm.trans e) (by decide), fun _ => ?_⟩
    refine cnd_iff.2 ⟨hc, ?_⟩
    rcases h3 with h3 | h3 | h3 | h3 <;> rw [h3] <;> exact rfl
  · cases hh
noncomputable def BS2 (κ : Kp) : EB := (BSk κ).pure (pS2 κ)
theorem yO2 (κ : Kp) (s : ByteArray) (i : Int) (K : AV → List Dn.Obj → Prop) : (funA (BS2 κ).E 12 26 [.lit (.string s), .int i] [] K) = (
  cnd (decide ((0 : Int) ≤ i) && decide (i < (↑(ByteArray.size s) : Int))) (brn (isLe (↑(byteAt s i.toNat) : Int)) (cnd (decide ((0 : Int) ≤ i ∧ i ≤
  (↑(ByteArray.size s) : Int) ∧ ByteArray.size s ≤ 1000000000)) (brn (decide (IntKind.wrap IntKind.i64 ((↑(i.toNat + wrdL (List.drop i.toNat (bl s))) : Int) - i)
  > (40 : Int))) (K (AV.tup [AV.agg [AV.int 0, AV.str { data := #[] }, AV.int 0], AV.int 0]) []) (cnd (decide ((0 : Int) ≤ i) && decide (i ≤ (↑(i.toNat + wrdL
  (List.drop i.toNat (bl s))) : Int)) && decide ((↑(i.toNat + wrdL (List.drop i.toNat (bl s))) : Int) ≤ (↑(ByteArray.size s) : Int))) (K (AV.tup [AV.agg [AV.int
  1, AV.lit (Value.string (ByteArray.extract s i.toNat (Int.toNat (↑(i.toNat + wrdL (List.drop i.toNat (bl s))) : Int)))), AV.int 0], AV.int (↑(i.toNat + wrdL
  (List.drop i.toNat (bl s))) : Int)]) [])))) (brn (isDi (↑(byteAt s i.toNat) : Int)) (cnd (decide ((0 : Int) ≤ i ∧ i ≤ (↑(ByteArray.size s) : Int) ∧
  ByteArray.size s ≤ 1000000000)) (cnd (decide ((0 : Int) ≤ i) && decide (i ≤ (↑(i.toNat + wrdL (List.drop i.toNat (bl s))) : Int)) && decide ((↑(i.toNat + wrdL
  (List.drop i.toNat (bl s))) : Int) ≤ (↑(ByteArray.size s) : Int))) (∃ (a : ByteArray), ([AV.lit (Value.string (ByteArray.extract s i.toNat (Int.toNat
  (↑(i.toNat + wrdL (List.drop i.toNat (bl s))) : Int))))], []) = stRp a ∧ sideRp a ∧ brn (rnB a) (cnd (decide ((0 : Int) ≤ i) && decide (i ≤ (↑(i.toNat + wrdL
  (List.drop i.toNat (bl s))) : Int)) && decide ((↑(i.toNat + wrdL (List.drop i.toNat (bl s))) : Int) ≤ (↑(ByteArray.size s) : Int))) (K (AV.tup [AV.agg [AV.int
  2, AV.lit (Value.string (ByteArray.extract s i.toNat (Int.toNat (↑(i.toNat + wrdL (List.drop i.toNat (bl s))) : Int)))), AV.int 0], AV.lit (Value.int
  IntKind.i64 (↑(i.toNat + wrdL (List.drop i.toNat (bl s))) : Int))]) [])) (K (AV.tup [AV.agg [AV.int 0, AV.str { data := #[] }, AV.int 0], AV.int 0]) []))))
  (brn ((↑(byteAt s i.toNat) : Int) == (34 : Int)) False (cnd (decide ((0 : Int) ≤ IntKind.wrap IntKind.i64 (i + (1 : Int)) ∧ IntKind.wrap IntKind.i64 (i + (1 :
  Int)) ≤ (↑(ByteArray.size s) : Int) ∧ ByteArray.size s ≤ 1000000000)) (brn ((↑(byteAt s i.toNat) : Int) == (46 : Int)) (brn (decide ((↑(Int.toNat (IntKind.wrap
  IntKind.i64 (i + (1 : Int))) + smaL (List.drop (Int.toNat (IntKind.wrap IntKind.i64 (i + (1 : Int)))) (bl s))) : Int) > IntKind.wrap IntKind.i64 (i + (1 :
  Int)))) (cnd (decide ((0 : Int) ≤ i) && decide (i ≤ (↑(Int.toNat (IntKind.wrap IntKind.i64 (i + (1 : Int))) + smaL (List.drop (Int.toNat (IntKind.wrap
  IntKind.i64 (i + (1 : Int)))) (bl s))) : Int)) && decide ((↑(Int.toNat (IntKind.wrap IntKind.i64 (i + (1 : Int))) + smaL (List.drop (Int.toNat (IntKind.wrap
  IntKind.i64 (i + (1 : Int)))) (bl s))) : Int) ≤ (↑(ByteArray.size s) : Int))) (brn (!ByteArray.toList (ByteArray.extract s i.toNat (Int.toNat (↑(Int.toNat
  (IntKind.wrap IntKind.i64 (i + (1 : Int))) + smaL (List.drop (Int.toNat (IntKind.wrap IntKind.i64 (i + (1 : Int)))) (bl s))) : Int))) == ByteArray.toList
  { data := #[OfNat.ofNat 46, OfNat.ofNat 100, OfNat.ofNat 101, OfNat.ofNat 99, OfNat.ofNat 108] }) (brn (!ByteArray.toList (ByteArray.extract s i.toNat
  (Int.toNat (↑(Int.toNat (IntKind.wrap IntKind.i64 (i + (1 : Int))) + smaL (List.drop (Int.toNat (IntKind.wrap IntKind.i64 (i + (1 : Int)))) (bl s))) : Int)))
  == ByteArray.toList { data := #[OfNat.ofNat 46, OfNat.ofNat 105, OfNat.ofNat 110, OfNat.ofNat 112, OfNat.ofNat 117, OfNat.ofNat 116] }) (brn (!ByteArray.toList
  (ByteArray.extract s i.toNat (Int.toNat (↑(Int.toNat (IntKind.wrap IntKind.i64 (i + (1 : Int))) + smaL (List.drop (Int.toNat (IntKind.wrap IntKind.i64 (i + (1
  : Int)))) (bl s))) : Int))) == ByteArray.toList
  { data := #[OfNat.ofNat 46, OfNat.ofNat 111, OfNat.ofNat 117, OfNat.ofNat 116, OfNat.ofNat 112, OfNat.ofNat 117, OfNat.ofNat 116] }) (K (AV.tup [AV.agg [AV.int
  0, AV.str { data := #[] }, AV.int 0], AV.int 0]) []) (K (AV.tup [AV.agg [AV.int 5, AV.lit (Value.string (ByteArray.extract s i.toNat (Int.toNat (↑(Int.toNat
  (IntKind.wrap IntKind.i64 (i + (1 : Int))) + smaL (List.drop (Int.toNat (IntKind.wrap IntKind.i64 (i + (1 : Int)))) (bl s))) : Int)))), AV.int 0], AV.lit
  (Value.int IntKind.i64 (↑(Int.toNat (IntKind.wrap IntKind.i64 (i + (1 : Int))) + smaL (List.drop (Int.toNat (IntKind.wrap IntKind.i64 (i + (1 : Int)))) (bl
  s))) : Int))]) [])) (K (AV.tup [AV.agg [AV.int 5, AV.lit (Value.string (ByteArray.extract s i.toNat (Int.toNat (↑(Int.toNat (IntKind.wrap IntKind.i64 (i + (1 :
  Int))) + smaL (List.drop (Int.toNat (IntKind.wrap IntKind.i64 (i + (1 : Int)))) (bl s))) : Int)))), AV.int 0], AV.lit (Value.int IntKind.i64 (↑(Int.toNat
  (IntKind.wrap IntKind.i64 (i + (1 : Int))) + smaL (List.drop (Int.toNat (IntKind.wrap IntKind.i64 (i + (1 : Int)))) (bl s))) : Int))]) [])) (K (AV.tup [AV.agg
  [AV.int 5, AV.lit (Value.string (ByteArray.extract s i.toNat (Int.toNat (↑(Int.toNat (IntKind.wrap IntKind.i64 (i + (1 : Int))) + smaL (List.drop (Int.toNat
  (IntKind.wrap IntKind.i64 (i + (1 : Int)))) (bl s))) : Int)))), AV.int 0], AV.lit (Value.int IntKind.i64 (↑(Int.toNat (IntKind.wrap IntKind.i64 (i + (1 :
  Int))) + smaL (List.drop (Int.toNat (IntKind.wrap IntKind.i64 (i + (1 : Int)))) (bl s))) : Int))]) []))) (cnd (decide ((0 : Int) ≤ i ∧ i < (↑(ByteArray.size s)
  : Int) ∧ ByteArray.size s ≤ 1000000000 ∧ onP (byteAt s i.toNat))) (cnd (decide ((0 : Int) ≤ i) && decide (i ≤ IntKind.wrap IntKind.i64 (i + (1 : Int))) &&
  decide (IntKind.wrap IntKind.i64 (i + (1 : Int)) ≤ (↑(ByteArray.size s) : Int))) (K (AV.tup [AV.agg [AV.int 4, AV.lit (Value.string (ByteArray.extract s
  i.toNat (Int.toNat (IntKind.wrap IntKind.i64 (i + (1 : Int)))))), AV.int 0], AV.int (IntKind.wrap IntKind.i64 (i + (1 : Int)))]) [])))) (cnd (decide ((0 : Int)
  ≤ i ∧ i < (↑(ByteArray.size s) : Int) ∧ ByteArray.size s ≤ 1000000000 ∧ onP (byteAt s i.toNat))) (cnd (decide ((0 : Int) ≤ i) && decide (i ≤ IntKind.wrap
  IntKind.i64 (i + (1 : Int))) && decide (IntKind.wrap IntKind.i64 (i + (1 : Int)) ≤ (↑(ByteArray.size s) : Int))) (K (AV.tup [AV.agg [AV.int 4, AV.lit
  (Value.string (ByteArray.extract s i.toNat (Int.toNat (IntKind.wrap IntKind.i64 (i + (1 : Int)))))), AV.int 0], AV.int (IntKind.wrap IntKind.i64 (i + (1 :
  Int)))]) []))))))))) := by kernel_rfl
end Go.Proofs.YtbppdpbagmbmpaaGreatDoor
namespace Go.Proofs.YtbppdpbagmbmpaaGreatDoor
open Go Go.Dn Go.Proofs
attribute [local irreducible] funA vc
set_option maxRecDepth 20000
def sfx (s : ByteArray) (i : Nat) : ByteArray := s.extract i s.size
theorem sfx_bl (s : ByteArray) (i : Nat) : bl (sfx s i) = (bl s).drop i := rest_bl s i
theorem sfx_size (s : ByteArray) (i : Nat) : (sfx s i).size = s.size - i := exs s i
theorem sfx_ext (s : ByteArray) (i n : Nat) : (sfx s i).extract 0 n = s.extract i (i + n) := by
  apply bl_inj
  rw [bl_ext, sfx_bl, bl_ext, List.drop_zero, Nat.sub_zero, show i + n - i = n by omega]
theorem sfx_sfx (s : ByteArray) (i n : Nat) : sfx (sfx s i) n = sfx s (i + n) := by
  apply bl_inj
  rw [sfx_bl, sfx_bl, sfx_bl, List.drop_drop]
theorem byte_hd {s : ByteArray} {c : UInt8} {r : List UInt8} (h : bl s = c :: r) : byteAt s 0 = c.toNat ∧ 0 < s.size := by
  have h0 : 0 < s.size := by rw [← bl_len, h]; simp
  obtain ⟨b, hd, hb⟩ := bl_at h0
  rw [List.drop_zero, h] at hd
  rw [hb, (List.cons.inj hd).1]
  exact ⟨rfl, h0⟩
theorem si_first : (fldA siB).all (fun t => decide (0 < t.size ∧ ¬ onP (byteAt t 0))) = true := by decide +kernel
theorem ones_onP : ∀ c : Fin 256, onP c.val → decide (Lib.indexByte (bl onesB) (c.val).toUInt8 < 0) = false := by decide +kernel
theorem hasP_hd {s t : ByteArray} {c : UInt8} {r : List UInt8} (h : bl s = c :: r) (ht : 0 < t.size) (hp : hasP s t = true) : byteAt t 0 = c.toNat := by
  unfold hasP at hp
  rw [Bool.and_eq_true, decide_eq_true_eq, beq_iff_eq, bl_toList, bl_toList, bl_ext, h, List.drop_zero, Nat.sub_zero] at hp
  obtain ⟨m, hm⟩ : ∃ m, t.size = m + 1 := ⟨t.size - 1, by omega⟩
  rw [hm, List.take_succ_cons] at hp
  exact (byte_hd hp.2.symm).1
theorem sgn_one {t : ByteArray} {c : UInt8} {r : List UInt8} (h : bl t = c :: r) (hc : onP c.toNat) : sgnN t = 1 := by
  unfold sgnN
  have h1 : (fldA siB).any (hasP t) = false := by
    rw [Bool.eq_false_iff]
    intro e
    obtain ⟨u, hu, hp⟩ := List.any_eq_true.1 e
    have := of_decide_eq_true (List.all_eq_true.1 si_first u hu)
    exact this.2 (by rw [hasP_hd h this.1 hp]; exact hc)
  have h2 := ones_onP ⟨c.toNat, c.toNat_lt⟩ hc
  rw [h1, cond_false, (byte_hd h).1]
  rw [h2]; rfl
theorem wrd_pos {c : UInt8} {r : List UInt8} (h : (isLe (c.toNat : Nat) || isDi (c.toNat : Nat)) = true) : 1 ≤ wrdL (c :: r) := by
  rw [wrdL, isWb, h]; simp
theorem wrd_next : ∀ (l : List UInt8), (∀ b ∈ l, b ≠ 46) → ((l.drop (wrdL l)).take 1 == [46]) = false
  | [], _ => rfl
  | b :: l, h => by
    rw [wrdL]
    cases isWb b with
    | true =>
      simp only [cond_true, List.drop_succ_cons]
      exact wrd_next l fun x hx => h x (List.mem_cons_of_mem _ hx)
    | false =>
      rw [cond_false, List.drop_zero, List.take_succ_cons, List.take_zero]
      rw [beq_eq_false_iff_ne]
      intro e
      exact h b (List.mem_cons_self ..) (List.cons.inj e).1
theorem pl_mem {l : List UInt8} (h : plAll l = true) {b : UInt8} (hb : b ∈ l) : plP b.toNat := of_decide_eq_true (List.all_eq_true.1 h b hb)
def stO2 (x : ByteArray × Nat) : List AV × List Dn.Obj := ([.lit (.string x.1), .int x.2], [])
def sideO2 (x : ByteArray × Nat) : Prop := x.1.size ≤ 1000000000 ∧ x.2 < x.1.size ∧ plAll (bl x.1) = true ∧ byteAt x.1 x.2 ≠ 32
def endO (x : ByteArray × Nat) : Int := bif (tk1 (sfx x.1 x.2)).2.2 == 0 then 0 else x.2 + (tk1 (sfx x.1 x.2)).2.2
def outO2 (x : ByteArray × Nat) : Out (AV × List Dn.Obj) := .one (.tup [tkA (tk1 (sfx x.1 x.2)).1 (tk1 (sfx x.1 x.2)).2.1 0, .int (endO x)], [])
theorem cO2 (κ : Kp) : CallOk (BS2 κ).E 12 26 (callE stO2 sideO2 outO2) := by
  refine callE_ok ?_
  rintro ⟨s, i⟩ K ⟨h1, h2, h3, h4⟩ ho
  simp only at h1 h2 h3 h4
  have ho : K (.tup [tkA (tk1 (sfx s i)).1 (tk1 (sfx s i)).2.1 0, .int (endO (s, i))]) [] := ho
  unfold endO at ho
  refine Eq.mpr (yO2 κ s i K) ?_
  obtain ⟨c, hd, hb⟩ := bl_at h2
  have hp := pl_at h3 hd
  have hbl : bl (sfx s i) = c :: (bl s).drop (i + 1) := by rw [sfx_bl, hd]
  have hb0 := (byte_hd hbl).1
  have hw : wdN (sfx s i) = wrdL ((bl s).drop i) := by unfold wdN; rw [sfx_bl]
  have hwl : wrdL ((bl s).drop i) ≤ s.size - i := by
    have := wrdL_le ((bl s).drop i)
    rwa [List.length_drop, bl_len] at this
  have hwp : (isLe (c.toNat : Nat) || isDi (c.toNat : Nat)) = true → 1 ≤ wrdL ((bl s).drop i) := fun e => by rw [hd]; exact wrd_pos e
  have q : ∀ r, tk1 (sfx s i) = r → K (.tup [tkA r.1 r.2.1 0, .int (bif r.2.2 == 0 then 0 else (i : Int) + r.2.2)]) [] := fun r e => e ▸ ho
  unfold tk1 at q
  rw [hw, hb0, sfx_ext, sfx_ext, sfx_ext] at q
  have hc : (decide ((0 : Int) ≤ (i : Int)) && decide ((i : Int) < (s.size : Int))) = true := by simp; omega
  have hc2 : decide ((0 : Int) ≤ (i : Int) ∧ (i : Int) ≤ (s.size : Int) ∧ s.size ≤ 1000000000) = true := decide_eq_true (by omega)
  have w1 : IntKind.wrap .i64 (((i + wrdL ((bl s).drop i) : Nat) : Int) - (i : Int)) = ((wrdL ((bl s).drop i) : Nat) : Int) := by rw [wrap_ok (by omega) (by omega)]; omega
  have w3 : IntKind.wrap .i64 ((i : Int) + 1) = ((i + 1 : Nat) : Int) := by rw [wrap_ok (by omega) (by omega)]; rfl
  rw [w3, Int.toNat_natCast, w1, hb]
  have hx : (decide ((0 : Int) ≤ (i : Int)) && decide ((i : Int) ≤ ((i + wrdL ((bl s).drop i) : Nat) : Int)) && decide (((i + wrdL ((bl s).drop i) : Nat) : Int) ≤ (s.size : Int))) = true := by simp; omega
  generalize hW : wrdL ((bl s).drop i) = W at *
  refine cnd_iff.2 ⟨hc, brn_iff.2 ⟨fun e1 => cnd_iff.2 ⟨hc2, ?_⟩, fun e1 => brn_iff.2 ⟨fun e2 => cnd_iff.2 ⟨hc2, cnd_iff.2 ⟨hx, ?_⟩⟩, fun e2 => ?_⟩⟩⟩
  · rw [e1] at q hwp
    have hwp := hwp rfl
    refine brn_iff.2 ⟨fun e2 => ?_, fun e2 => cnd_iff.2 ⟨hx, ?_⟩⟩
    · exact q (0, ⟨#[]⟩, 0) (by rw [e2]; rfl)
    · have := q (1, s.extract i (i + W), (W : Int)) (by rw [e2]; rfl)
      simp only [show ((W : Int) == 0) = false from beq_eq_false_iff_ne.2 (by omega), cond_false] at this
      exact this
  · rw [e1, e2] at q hwp
    have hwp := hwp rfl
    have hz : (s.extract i (i + W)).size = W := by rw [ByteArray.size_extract]; omega
    have hz0 : bl (s.extract i (i + W)) = c :: ((bl s).drop (i + 1)).take (W - 1) := by
      rw [bl_ext, hd, show i + W - i = W - 1 + 1 by omega, List.take_succ_cons]
    have hne : byteAt (s.extract i (i + W)) 0 ≠ 45 := by
      rw [(byte_hd hz0).1]
      unfold isDi at e2
      rw [Bool.and_eq_true, decide_eq_true_eq, decide_eq_true_eq] at e2
      omega
    have hdot : hasP ((sfx s i).extract W (sfx s i).size) dotB = false := by
      have hn := wrd_next ((bl s).drop i) (fun b hb e => by
        have := pl_mem h3 (List.mem_of_mem_drop hb)
        rw [e] at this; exact absurd this (by decide))
      rw [hW] at hn
      unfold hasP
      rw [bl_toList, bl_toList dotB, bl_ext, rest_bl, sfx_bl, List.drop_zero, Nat.sub_zero]
      show (_ && (List.take 1 _ == [46])) = false
      rw [hn, Bool.and_false]
    refine ⟨s.extract i (i + W), rfl, ⟨by omega, by omega, hne⟩, ?_⟩
    rw [num_same (by omega) hne, hdot] at q
    refine brn_iff.2 ⟨fun e3 => cnd_iff.2 ⟨hx, ?_⟩, fun e3 => ?_⟩
    · have := q (2, s.extract i (i + W), (W : Int)) (by rw [e3]; rfl)
      simp only [show ((W : Int) == 0) = false from beq_eq_false_iff_ne.2 (by omega), cond_false] at this
      exact this
    · exact q (0, ⟨#[]⟩, 0) (by rw [e3]; rfl)
  · have hon : onP c.toNat := by
      unfold isLe at e1
      unfold isDi at e2
      simp only [Bool.or_eq_false_iff, Bool.and_eq_false_iff, decide_eq_false_iff_not, beq_eq_false_iff_ne] at e1 e2
      unfold plP at hp
      unfold onP
      rw [hb] at h4
      omega
    have k34 : (((c.toNat : Nat) : Int) == 34) = false := beq_eq_false_iff_ne.2 (by unfold onP at hon; omega)
    have k46 : (((c.toNat : Nat) : Int) == 46) = false := beq_eq_false_iff_ne.2 (by unfold onP at hon; omega)
    have hs := sgn_one hbl hon
    rw [e1, e2, k34, hs] at q
    rw [k34, k46]
    have hc3 : decide ((0 : Int) ≤ ((i + 1 : Nat) : Int) ∧ ((i + 1 : Nat) : Int) ≤ (s.size : Int) ∧ s.size ≤ 1000000000) = true := decide_eq_true (by omega)
    have hc4 : decide ((0 : Int) ≤ (i : Int) ∧ (i : Int) < (s.size : Int) ∧ s.size ≤ 1000000000 ∧ onP c.toNat) = true := decide_eq_true ⟨by omega, by omega, h1, hon⟩
    have := q (4, s.extract i (i + 1), 1) rfl
    exact cnd_iff.2 ⟨hc3, cnd_iff.2 ⟨hc4, cnd_iff.2 ⟨by simp; omega, this⟩⟩⟩
noncomputable def BO2 (κ : Kp) : EB := (BS2 κ).call (cO2 κ)
abbrev stL2 (s : ByteArray) (toks : List AV) (i : Int) : S := sp 58 [(0, .lit (.string s)), (5, .slc 0 0 toks.length), (6, .int 1), (7, .int i)] [.row 31 toks]
theorem xL2 (κ : Kp) (s : ByteArray) (toks : List AV) (i : Int) (I : Nat → S → Prop) (N : Nat) (K : Exit → S → Prop) : (vc (BO2 κ).E 12 16 none 0 (loopCode (Pr κ).toProgram 16 7) (stL2 s toks i) (loopK (BO2 κ).E 16 7 0 I N K)) = (
  brn (decide (i < (↑(ByteArray.size s) : Int))) (∃ (a : ByteArray × Nat), ([AV.str s, AV.int i], []) = stO2 a ∧ sideO2 a ∧ brn (endO a == (0 : Int)) (K Exit.ret
  (sp 58 [(2, AV.nil), (3, AV.int 1), (4, AV.int 20)] [])) (brn ((↑(toks.length) : Int) == (20000 : Int)) (K Exit.ret (sp 58 [(2, AV.nil), (3, AV.int 1), (4,
  AV.int 21)] [])) (cnd (decide ((toks.length + 1 + 1) * 33 ≤ 70368744177664)) (∃ (a_1 : ByteArray × Nat), ([AV.str s, AV.int (endO a)], []) = stSkc a_1 ∧ sideSk
  a_1 ∧ ∃ (m : Nat), m < N ∧ I m (sp 58 [(0, AV.str s), (5, AV.slc 0 0 (toks.length + 1)), (6, AV.int 1), (7, AV.int (↑(a_1.2 + spL (List.drop a_1.2 (bl a_1.1)))
  : Int))] [Obj.row 31 (List.take toks.length toks ++ [AV.agg [AV.int (Prod.fst (tk1 (sfx a.1 a.2))), AV.str (Prod.fst (Prod.snd (tk1 (sfx a.1 a.2)))), AV.int
  1]])]))))) (K (Exit.exit 0) (sp 58 [(5, AV.slc 0 0 toks.length)] [Obj.row 31 toks]))) := by kernel_rfl
theorem lnG_fuel : ∀ (k k' : Nat) (t : ByteArray), t.size < k → t.size < k' → lnG k t = lnG k' t
  | 0, _, _, h, _ => by omega
  | _, 0, _, _, h => by omega
  | k + 1, k' + 1, t, h, h' => by
    rw [lnG, lnG]
    cases e1 : (trB t).toList == (ByteArray.mk #[]).toList with
    | true => rfl
    | false =>
    cases hasP (trB t) slB with
    | true => rfl
    | false =>
    cases e3 : (tk1 (trB t)).2.2 == 0 with
    | true => rfl
    | false =>
      have := rest_le e1 e3
      simp only [cond_false]
      rw [lnG_fuel k k' _ (by omega) (by omega)]
theorem trim_pl : ∀ l : List UInt8, plAll l = true → Lib.trimLeftS l (bl wsB) = l.drop (spL l)
  | [], _ => rfl
  | b :: l, h => by
    have h2 : plAll l = true := by
      unfold plAll at h ⊢
      rw [List.all_cons, Bool.and_eq_true] at h
      exact h.2
    have hb := pl_mem h (List.mem_cons_self ..)
    have ih := trim_pl l h2
    unfold Lib.trimLeftS at ih ⊢
    rw [List.dropWhile_cons, spL]
    cases e : b == 32 with
    | true =>
      obtain rfl := beq_iff_eq.1 e
      rw [if_pos (by decide)]
      exact ih
    | false =>
      rw [if_neg]
      · rfl
      · intro e2
        have : b = 32 ∨ b = 9 := by simpa [wsB, bl] using e2
        rcases this with rfl | rfl
        · cases e
        · exact absurd hb (by decide)
theorem pl_drop {l : List UInt8} (h : plAll l = true) (i : Nat) : plAll (l.drop i) = true :=
  List.all_eq_true.2 fun b hb => List.all_eq_true.1 h b (List.mem_of_mem_drop hb)
theorem tr_sfx {s : ByteArray} (h : plAll (bl s) = true) (i : Nat) : trB (sfx s i) = sfx s (i + spL ((bl s).drop i)) := by
  apply bl_inj
  rw [tr_bl, sfx_bl, sfx_bl, trim_pl _ (pl_drop h i), List.drop_drop]
theorem tr_tr {s : ByteArray} (h : plAll (bl s) = true) (i : Nat) : trB (sfx s (i + spL ((bl s).drop i))) = trB (sfx s i) := by
  have : ∀ l : List UInt8, spL (l.drop (spL l)) = 0 := fun l => by
    induction l with
    | nil => rfl
    | cons b l ih =>
      rw [spL]
      cases e : b == 32 with
      | true => exact ih
      | false => rw [cond_false, List.drop_zero, spL, e]; rfl
  rw [tr_sfx h, tr_sfx h, ← List.drop_drop, this, Nat.add_zero]
theorem lnG_tr {s : ByteArray} (h : plAll (bl s) = true) (k i : Nat) : lnG k (sfx s (i + spL ((bl s).drop i))) = lnG k (sfx s i) := by
  cases k with
  | zero => rfl
  | succ k => rw [lnG, lnG, tr_tr h]
structure AL2 where
  s : ByteArray
  toks : List TK
  i : Nat
def stL2' (x : AL2) : S := stL2 x.s (x.toks.map avT) x.i
def sideL2 (x : AL2) : Prop := x.s.size ≤ 10000 ∧ x.i ≤ x.s.size ∧ plAll (bl x.s) = true ∧ spL ((bl x.s).drop x.i) = 0 ∧ x.toks.length + (x.s.size - x.i) ≤ 15000
def resL2 (x : AL2) : Option (List TX) := lnG (x.s.size - x.i + 1) (sfx x.s x.i)
def outL2 (x : AL2) : Out (Exit × S) := .brn (resL2 x).isSome
  (.one (.exit 0, sp 58 [(5, .slc 0 0 ((x.toks ++ ((resL2 x).getD []).map (atL 1)).map avT).length)] [.row 31 ((x.toks ++ ((resL2 x).getD []).map (atL 1)).map avT)]))
  (.one (.ret, sp 58 [(2, .nil), (3, .int 1), (4, .int 20)] []))
theorem lL2 (κ : Kp) : LoopOk (BO2 κ).E 12 16 7 (loopE 0 stL2' sideL2 outL2) := by
  refine loopE_ok (fun x => x.s.size - x.i) ?_
  rintro ⟨s, toks, i⟩ K ⟨h1, h2, h3, h4, h5⟩ ho
  simp only at h1 h2 h3 h4 h5
  rw [show (BO2 κ).E.P = Pr κ from rfl]
  refine Eq.mpr (xL2 κ s (toks.map avT) i _ _ K) ?_
  have ho : brn (resL2 ⟨s, toks, i⟩).isSome (K (.exit 0) (sp 58 [(5, .slc 0 0 ((toks ++ ((resL2 ⟨s, toks, i⟩).getD []).map (atL 1)).map avT).length)] [.row 31 ((toks ++ ((resL2 ⟨s, toks, i⟩).getD []).map (atL 1)).map avT)])) (K .ret (sp 58 [(2, .nil), (3, .int 1), (4, .int 20)] [])) := ho
  have htr : trB (sfx s i) = sfx s i := by rw [tr_sfx h3, h4, Nat.add_zero]
  rw [brn_iff]
  refine ⟨fun h => ?_, fun h => ?_⟩
  · have hi : i < s.size := by have := of_decide_eq_true h; omega
    obtain ⟨c, hd, hb⟩ := bl_at hi
    have hc32 : c ≠ 32 := fun e => by
      rw [hd, spL, e] at h4
      cases h4
    have hbl : bl (sfx s i) = c :: (bl s).drop (i + 1) := by rw [sfx_bl, hd]
    have e1 : ((sfx s i).toList == (ByteArray.mk #[]).toList) = false := by
      rw [empty_iff, decide_eq_false_iff_not, sfx_size]; omega
    have e2 : hasP (sfx s i) slB = false := by
      rw [Bool.eq_false_iff]
      intro e
      have := hasP_hd hbl (by decide) e
      have hp := pl_at h3 hd
      rw [← this] at hp
      exact absurd hp (by decide)
    have hres : resL2 ⟨s, toks, i⟩ = bif (tk1 (sfx s i)).2.2 == 0 then none else (lnG (s.size - i) (sfx s (i + (tk1 (sfx s i)).2.2.toNat))).map (((tk1 (sfx s i)).1, (tk1 (sfx s i)).2.1) :: ·) := by
      unfold resL2
      rw [lnG, htr, e1, e2]
      simp only [cond_false]
      rw [show (sfx s i).extract (tk1 (sfx s i)).2.2.toNat (sfx s i).size = sfx s (i + (tk1 (sfx s i)).2.2.toNat) from sfx_sfx s i _]
    have hne : byteAt s i ≠ 32 := by
      rw [hb]
      exact fun e => hc32 (UInt8.toNat_inj.1 e)
    refine ⟨⟨s, i⟩, rfl, ⟨by simp only; omega, hi, h3, hne⟩, ?_⟩
    simp only [endO]
    have hrng := tk1_rng (s := sfx s i) (by rw [sfx_size]; omega)
    rw [sfx_size] at hrng
    cases e3 : (tk1 (sfx s i)).2.2 == 0 with
    | true =>
      rw [hres, e3] at ho
      exact brn_iff.2 ⟨fun _ => (brn_iff.1 ho).2 rfl, fun e => (by cases e)⟩
    | false =>
      rw [hres, e3] at ho
      simp only [cond_false] at ho ⊢
      have hn0 : (tk1 (sfx s i)).2.2 ≠ 0 := fun e => by rw [e] at e3; cases e3
      obtain ⟨n, hn⟩ : ∃ n : Nat, (tk1 (sfx s i)).2.2 = n := ⟨(tk1 (sfx s i)).2.2.toNat, by omega⟩
      rw [hn] at ho hrng hn0 ⊢
      rw [Int.toNat_natCast] at ho
      have k1 : ((i : Int) + (n : Int) == 0) = false := beq_eq_false_iff_ne.2 (by omega)
      have k2 : ((((toks.map avT).length : Nat) : Int) == 20000) = false := beq_eq_false_iff_ne.2 (by rw [List.length_map]; omega)
      rw [k1, k2]
      refine brn_iff.2 ⟨fun e => (by cases e), fun _ => brn_iff.2 ⟨fun e => (by cases e), fun _ => cnd_iff.2 ⟨by simp; omega, ?_⟩⟩⟩
      refine ⟨⟨s, i + n⟩, rfl, ⟨by simp only; omega, by simp only; omega, h3⟩, ?_⟩
      have hsp := spL_le ((bl s).drop (i + n))
      rw [List.length_drop, bl_len] at hsp
      have hz : spL ((bl s).drop (i + n + spL ((bl s).drop (i + n)))) = 0 := by
        have : ∀ l : List UInt8, spL (l.drop (spL l)) = 0 := fun l => by
          induction l with
          | nil => rfl
          | cons b l ih =>
            rw [spL]
            cases e : b == 32 with
            | true => exact ih
            | false => rw [cond_false, List.drop_zero, spL, e]; rfl
        rw [← List.drop_drop]; exact this _
      refine ⟨s.size - (i + n + spL ((bl s).drop (i + n))), by first | omega | (simp only; omega), ⟨s, toks ++ [((tk1 (sfx s i)).1, (tk1 (sfx s i)).2.1, 1)], i + n + spL ((bl s).drop (i + n))⟩, ?_, ⟨h1, by first | omega | (simp only; omega), h3, hz, by simp only [List.length_append, List.length_singleton]; omega⟩, rfl, ?_⟩
      · simp only [stL2', stL2, List.map_append, List.map_cons, List.map_nil, List.length_append, List.length_singleton, List.take_length]
      · have hr2 : resL2 ⟨s, toks ++ [((tk1 (sfx s i)).1, (tk1 (sfx s i)).2.1, 1)], i + n + spL ((bl s).drop (i + n))⟩ = lnG (s.size - i) (sfx s (i + n)) := by
          unfold resL2
          simp only
          rw [lnG_fuel _ (s.size - i) _ (by rw [sfx_size]; omega) (by rw [sfx_size]; omega), lnG_tr h3]
        simp only [outL2, hr2]
        cases e9 : lnG (s.size - i) (sfx s (i + n)) with
        | none => rw [e9] at ho; exact ho
        | some l =>
          rw [e9] at ho
          simp only [Option.map_some, Option.getD_some, List.map_cons] at ho
          simp only [Option.getD_some, List.append_assoc, List.singleton_append]
          exact ho
  · have hi : i = s.size := by have := of_decide_eq_false h; omega
    have hr : resL2 ⟨s, toks, i⟩ = some [] := by
      unfold resL2
      rw [lnG, htr, show ((sfx s i).toList == (ByteArray.mk #[]).toList) = true by rw [empty_iff, decide_eq_true_eq, sfx_size]; omega]
      rfl
    rw [hr] at ho
    have := (brn_iff.1 ho).1 rfl
    simp only [Option.getD_some, List.map_nil, List.append_nil] at this
    exact this
noncomputable def BL2l (κ : Kp) : EB := (BO2 κ).loop (lL2 κ)
theorem yL2 (κ : Kp) (s : ByteArray) (K : AV → List Dn.Obj → Prop) : (funA (BL2l κ).E 12 16 [.lit (.string s)] [] K) = (
  brn (decide ((↑(ByteArray.size s) : Int) > (65536 : Int))) (K (AV.tup [AV.nil, AV.int 0, AV.int 21]) []) (∃ (a : ByteArray × Nat), ([AV.str s, AV.int 0], []) =
  stSkc a ∧ sideSk a ∧ loopCode (Pg.toProgram (Env.P (EB.E (BO2 κ)))) 16 7 = loopCode (Pg.toProgram (Env.P (EB.E (BO2 κ)))) 16 7 ∧ ∃ (a_1 : AL2), sp 58 [(0,
  AV.str s), (5, AV.slc 0 0 0), (6, AV.int 1), (7, AV.int (↑(a.2 + spL (List.drop a.2 (bl a.1))) : Int))] [Obj.row 31 []] = stL2' a_1 ∧ sideL2 a_1 ∧ brn
  (Option.isSome (resL2 a_1)) (K (AV.tup [AV.slc 0 0 (List.length (List.map avT (a_1.toks ++ List.map (atL (1 : Int)) (Option.getD (resL2 a_1) [])))), AV.int 0,
  AV.int 0]) [Obj.row 31 (List.map avT (a_1.toks ++ List.map (atL (1 : Int)) (Option.getD (resL2 a_1) [])))]) (K (AV.tup [AV.nil, AV.int 1, AV.int 20]) []))) := by kernel_rfl
end Go.Proofs.YtbppdpbagmbmpaaGreatDoor
