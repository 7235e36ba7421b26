import Derived.Test.YtbppdpbagmbmpaaGreatDoorDxGL
namespace Go.Proofs.YtbppdpbagmbmpaaGreatDoor
open Go Go.Dn Go.Proofs
attribute [local irreducible] funA vc
set_option maxRecDepth 20000
theorem xI6 (κ : Kp) (s : ByteArray) (toks : List AV) (ln i : Int) (I : Nat → S → Prop) (N : Nat) (K : Exit → S → Prop) : (vc (BEd κ).E 12 11 none 0 (loopCode (Pr κ).toProgram 11 14) (stL6 s toks ln i) (loopK (BEd κ).E 11 14 0 I N K)) = (
  brn (decide (i < (↑(ByteArray.size s) : Int))) (cnd (decide ((0 : Int) ≤ i) && decide (i < (↑(ByteArray.size s) : Int))) (brn ((↑(byteAt s i.toNat) : Int) != (10
  : Int)) (∃ (m : Nat), m < N ∧ I m (sp 100 [(0, AV.str s), (5, AV.slc 0 0 toks.length), (6, AV.int ln), (7, AV.int (IntKind.wrap IntKind.i64 (i + (1 : Int))))]
  [Obj.row 31 toks])) (K (Exit.exit 2) (sp 100 [(0, AV.str s), (5, AV.slc 0 0 toks.length), (6, AV.int ln), (7, AV.int i)] [Obj.row 31 toks])))) (K (Exit.exit 2)
  (sp 100 [(0, AV.str s), (5, AV.slc 0 0 toks.length), (6, AV.int ln), (7, AV.int i)] [Obj.row 31 toks]))) := by kernel_rfl
def cmL : List UInt8 → Nat
  | [] => 0
  | b :: l => bif b == 10 then 0 else cmL l + 1
theorem cmL_le : ∀ l : List UInt8, cmL l ≤ l.length
  | [] => Nat.le_refl _
  | b :: l => by
    have := cmL_le l
    rw [cmL]
    cases b == 10 with
    | true => exact Nat.zero_le _
    | false => simp only [cond_false, List.length_cons]; omega
structure AI6 where
  s : ByteArray
  toks : List AV
  ln : Int
  i : Nat
def stI6 (x : AI6) : S := stL6 x.s x.toks x.ln x.i
def sideI6 (x : AI6) : Prop := x.s.size ≤ 1000000000 ∧ x.i ≤ x.s.size
def outI6 (x : AI6) : Out (Exit × S) := .one (.exit 2, stL6 x.s x.toks x.ln (x.i + cmL ((bl x.s).drop x.i) : Nat))
theorem lI6 (κ : Kp) : LoopOk (BEd κ).E 12 11 14 (loopE 0 stI6 sideI6 outI6) := by
  refine loopE_ok (fun x => x.s.size - x.i) ?_
  rintro ⟨s, toks, ln, i⟩ K ⟨h1, h2⟩ ho
  simp only at h1 h2
  rw [show (BEd κ).E.P = Pr κ from rfl]
  refine Eq.mpr (xI6 κ s toks ln i _ _ K) ?_
  have ho : K (.exit 2) (stL6 s toks ln (i + cmL ((bl s).drop i) : Nat)) := ho
  rw [Int.toNat_natCast, brn_iff]
  refine ⟨fun h => ?_, fun h => ?_⟩
  · have hi : i < s.size := by have := of_decide_eq_true h; omega
    obtain ⟨c, hd, hb⟩ := bl_at hi
    have hc : (decide ((0 : Int) ≤ (i : Int)) && decide ((i : Int) < (s.size : Int))) = true := by simp; omega
    have w4 : IntKind.wrap .i64 ((i : Int) + 1) = ((i + 1 : Nat) : Int) := by rw [wrap_ok (by omega) (by omega)]; rfl
    rw [hd, cmL] at ho
    rw [hb, w4, bne, show (10 : Int) = ((10 : UInt8).toNat : Nat) from rfl, u8_eq]
    cases e : c == 10 with
    | true =>
      rw [e] at ho
      exact cnd_iff.2 ⟨hc, brn_iff.2 ⟨fun e => (by cases e), fun _ => ho⟩⟩
    | false =>
      rw [e] at ho
      refine cnd_iff.2 ⟨hc, brn_iff.2 ⟨fun _ => ⟨s.size - (i + 1), by first | omega | (simp only; omega), ⟨s, toks, ln, i + 1⟩, rfl, ⟨h1, hi⟩, rfl, ?_⟩, fun e => (by cases e)⟩⟩
      show K (.exit 2) (stL6 s toks ln (i + 1 + cmL ((bl s).drop (i + 1)) : Nat))
      rw [show i + 1 + cmL ((bl s).drop (i + 1)) = i + (cmL ((bl s).drop (i + 1)) + 1) by omega]
      exact ho
  · have hi : i = s.size := by have := of_decide_eq_false h; omega
    rw [List.drop_eq_nil_of_le (by rw [bl_len]; omega)] at ho
    exact ho
noncomputable def BI6 (κ : Kp) : EB := (BEd κ).loop (lI6 κ)
theorem xL6 (κ : Kp) (s : ByteArray) (toks : List TK) (ln i : Int) (I : Nat → S → Prop) (N : Nat) (K : Exit → S → Prop) : (vc (BI6 κ).E 12 11 none 0 (loopCode (Pr κ).toProgram 11 6) (stL6 s (toks.map avT) ln i) (loopK (BI6 κ).E 11 6 0 I N K)) = (
  brn (decide (i < (↑(ByteArray.size s) : Int))) (brn (decide ((↑(List.length (List.map avT toks)) : Int) ≤ (300000 : Int))) (cnd (decide ((0 : Int) ≤ i) && decide
  (i < (↑(ByteArray.size s) : Int))) (brn ((↑(byteAt s i.toNat) : Int) == (10 : Int)) (∃ (a : List TK × Int), ([AV.slc 0 0 (List.length (List.map avT toks)),
  AV.int ln], [Obj.row 31 (List.map avT toks)]) = stEd a ∧ sideEd a ∧ brn (endB a.1 a.2) (∃ (m : Nat), m < N ∧ I m (sp 100 [(0, AV.str s), (5, AV.slc 0 0
  (List.length (List.map avT (a.1 ++ [((4 : Int), semB, a.2)])))), (6, AV.int (IntKind.wrap IntKind.i64 (ln + (1 : Int)))), (7, AV.int (IntKind.wrap IntKind.i64
  (i + (1 : Int))))] [Obj.row 31 (List.map avT (a.1 ++ [((4 : Int), semB, a.2)]))])) (∃ (m : Nat), m < N ∧ I m (sp 100 [(0, AV.str s), (5, AV.slc 0 0
  (List.length (List.map avT a.1))), (6, AV.int (IntKind.wrap IntKind.i64 (ln + (1 : Int)))), (7, AV.int (IntKind.wrap IntKind.i64 (i + (1 : Int))))] [Obj.row 31
  (List.map avT a.1)]))) (cnd (decide ((0 : Int) ≤ i) && decide (i < (↑(ByteArray.size s) : Int))) (brn ((↑(byteAt s i.toNat) : Int) == (32 : Int)) (∃ (m : Nat),
  m < N ∧ I m (sp 100 [(0, AV.str s), (5, AV.slc 0 0 (List.length (List.map avT toks))), (6, AV.int ln), (7, AV.int (IntKind.wrap IntKind.i64 (i + (1 : Int))))]
  [Obj.row 31 (List.map avT toks)])) (cnd (decide ((0 : Int) ≤ i) && decide (i < (↑(ByteArray.size s) : Int))) (brn ((↑(byteAt s i.toNat) : Int) == (9 : Int)) (∃
  (m : Nat), m < N ∧ I m (sp 100 [(0, AV.str s), (5, AV.slc 0 0 (List.length (List.map avT toks))), (6, AV.int ln), (7, AV.int (IntKind.wrap IntKind.i64 (i + (1
  : Int))))] [Obj.row 31 (List.map avT toks)])) (brn (decide (IntKind.wrap IntKind.i64 (i + (1 : Int)) < (↑(ByteArray.size s) : Int))) (cnd (decide ((0 : Int) ≤
  i) && decide (i ≤ IntKind.wrap IntKind.i64 (i + (2 : Int))) && decide (IntKind.wrap IntKind.i64 (i + (2 : Int)) ≤ (↑(ByteArray.size s) : Int))) (brn
  (ByteArray.toList (ByteArray.extract s i.toNat (Int.toNat (IntKind.wrap IntKind.i64 (i + (2 : Int))))) == ByteArray.toList
  { data := #[OfNat.ofNat 47, OfNat.ofNat 47] }) (loopCode (Pg.toProgram (Env.P (EB.E (BEd κ)))) 11 14 = loopCode (Pg.toProgram (Env.P (EB.E (BEd κ)))) 11 14 ∧ ∃
  (a : AI6), sp 100 [(0, AV.str s), (5, AV.slc 0 0 (List.length (List.map avT toks))), (6, AV.int ln), (7, AV.int i)] [Obj.row 31 (List.map avT toks)] = stI6 a ∧
  sideI6 a ∧ ∃ (m : Nat), m < N ∧ I m (sp 100 [(0, AV.str a.s), (5, AV.slc 0 0 a.toks.length), (6, AV.int a.ln), (7, AV.lit (Value.int IntKind.i64 (↑(a.i + cmL
  (List.drop a.i (bl a.s))) : Int)))] [Obj.row 31 a.toks])) (∃ (a : ByteArray × Nat), ([AV.str s, AV.int i], []) = stO6 a ∧ sideO6 a ∧ brn (oE a.2 (o6A a.1 a.2)
  == (0 : Int)) (K Exit.ret (sp 100 [(2, AV.nil), (3, AV.int ln), (4, AV.int 160)] [])) (cnd (decide ((List.length (List.map avT toks) + 1 + 1) * 33 ≤
  70368744177664)) (∃ (m : Nat), m < N ∧ I m (sp 100 [(0, AV.str s), (5, AV.slc 0 0 (List.length (List.map avT toks) + 1)), (6, AV.int ln), (7, AV.lit (Value.int
  IntKind.i64 (oE a.2 (o6A a.1 a.2))))] [Obj.row 31 (List.take (List.length (List.map avT toks)) (List.map avT toks) ++ [AV.agg [AV.int (oK (o6A a.1 a.2)),
  AV.str (oS (o6A a.1 a.2)), AV.int ln]])])))))) (∃ (a : ByteArray × Nat), ([AV.str s, AV.int i], []) = stO6 a ∧ sideO6 a ∧ brn (oE a.2 (o6A a.1 a.2) == (0 :
  Int)) (K Exit.ret (sp 100 [(2, AV.nil), (3, AV.int ln), (4, AV.int 160)] [])) (cnd (decide ((List.length (List.map avT toks) + 1 + 1) * 33 ≤ 70368744177664))
  (∃ (m : Nat), m < N ∧ I m (sp 100 [(0, AV.str s), (5, AV.slc 0 0 (List.length (List.map avT toks) + 1)), (6, AV.int ln), (7, AV.lit (Value.int IntKind.i64 (oE
  a.2 (o6A a.1 a.2))))] [Obj.row 31 (List.take (List.length (List.map avT toks)) (List.map avT toks) ++ [AV.agg [AV.int (oK (o6A a.1 a.2)), AV.str (oS (o6A a.1
  a.2)), AV.int ln]])]))))))))))) (K (Exit.exit 0) (sp 100 [(5, AV.slc 0 0 (List.length (List.map avT toks))), (6, AV.int ln)] [Obj.row 31 (List.map avT
  toks)]))) (K (Exit.exit 0) (sp 100 [(5, AV.slc 0 0 (List.length (List.map avT toks))), (6, AV.int ln)] [Obj.row 31 (List.map avT toks)]))) := by kernel_rfl
theorem o6_rng {l : List UInt8} {x : Int × List UInt8 × Nat} (h : o6 l = some x) : 1 ≤ x.2.2 ∧ x.2.2 ≤ l.length := by
  match l, h with
  | [], h => cases h
  | c :: r, h =>
    have hw := wrdL_le (c :: r)
    have hg := sg6_le (c :: r) (by simp)
    have hwp : (isLe (c.toNat : Nat) || isDi (c.toNat : Nat)) = true → 1 ≤ wrdL (c :: r) := wrd_pos
    rw [o6] at h
    cases e1 : isLe (c.toNat : Nat) with
    | true =>
      rw [e1] at h hwp
      cases e2 : decide (wrdL (c :: r) > 40) with
      | true => rw [e2] at h; cases h
      | false => rw [e2] at h; cases h; exact ⟨hwp rfl, hw⟩
    | false =>
    cases e2 : isDi (c.toNat : Nat) with
    | true =>
      rw [e1, e2] at h hwp
      simp only [cond_true, cond_false] at h
      cases e3 : rnB (mkB ((c :: r).take (wrdL (c :: r)))) with
      | false => rw [e3] at h; cases h
      | true =>
        cases e4 : ((c :: r).drop (wrdL (c :: r))).head? == some 46 with
        | true => rw [e3, e4] at h; cases h
        | false => rw [e3, e4] at h; cases h; exact ⟨hwp rfl, hw⟩
    | false =>
    cases e3 : c == 34 with
    | true =>
      rw [e1, e2, e3] at h
      simp only [cond_true, cond_false] at h
      obtain ⟨y, h1, h2⟩ := Option.map_eq_some_iff.1 h
      cases h2
      obtain ⟨t, m⟩ := y
      obtain ⟨k1, k2, _⟩ := symD_str _ _ _ _ h1
      simp only [List.length_cons]; omega
    | false =>
      rw [e1, e2, e3] at h
      simp only [cond_false] at h
      cases e4 : sg6 (c :: r) == 0 with
      | true => rw [e4] at h; cases h
      | false =>
        rw [e4] at h; cases h
        have := beq_eq_false_iff_ne.1 e4
        exact ⟨by simp only; omega, hg⟩
def endA (l : List TK) (ln : Int) : List TK := bif endB l ln then l ++ [(4, semB, ln)] else l
theorem endA_len (l : List TK) (ln : Int) : (endA l ln).length ≤ l.length + 1 := by
  unfold endA
  cases endB l ln <;> simp
def rfL : Nat → List UInt8 → Int → List TK → List TK × Int × Bool
  | 0, _, ln, acc => (acc, ln, true)
  | _ + 1, [], ln, acc => (acc, ln, true)
  | k + 1, c :: r, ln, acc =>
    bif c == 10 then rfL k r (ln + 1) (endA acc ln)
    else bif c == 32 then rfL k r ln acc
    else bif c == 9 then rfL k r ln acc
    else bif (c :: r).take 2 == [47, 47] then rfL k ((c :: r).drop (cmL (c :: r))) ln acc
    else match o6 (c :: r) with
      | none => (acc, ln, false)
      | some x => rfL k ((c :: r).drop x.2.2) ln (acc ++ [(x.1, mkB x.2.1, ln)])
theorem rfL_fuel : ∀ (k k' : Nat) (l : List UInt8) (ln : Int) (acc : List TK), l.length < k → l.length < k' → rfL k l ln acc = rfL k' l ln acc
  | 0, _, _, _, _, h, _ => by omega
  | _, 0, _, _, _, _, h => by omega
  | k + 1, k' + 1, [], ln, acc, _, _ => rfl
  | k + 1, k' + 1, c :: r, ln, acc, h, h' => by
    rw [rfL, rfL]
    rw [List.length_cons] at h h'
    cases c == 10 with
    | true => exact rfL_fuel k k' r _ _ (by omega) (by omega)
    | false =>
    cases c == 32 with
    | true => exact rfL_fuel k k' r _ _ (by omega) (by omega)
    | false =>
    cases c == 9 with
    | true => exact rfL_fuel k k' r _ _ (by omega) (by omega)
    | false =>
    simp only [cond_false]
    cases e : (c :: r).take 2 == [47, 47] with
    | true =>
      rw [beq_iff_eq] at e
      have hc : c = 47 := by
        cases r with
        | nil => cases e
        | cons d r => simp only [List.take_succ_cons] at e; exact (List.cons.inj e).1
      have h1 : 1 ≤ cmL (c :: r) := by rw [cmL, hc]; simp
      exact rfL_fuel k k' _ _ _ (by rw [List.length_drop, List.length_cons]; omega) (by rw [List.length_drop, List.length_cons]; omega)
    | false =>
      simp only [cond_false]
      cases e2 : o6 (c :: r) with
      | none => rfl
      | some x =>
        have := o6_rng e2
        exact rfL_fuel k k' _ _ _ (by rw [List.length_drop, List.length_cons]; omega) (by rw [List.length_drop, List.length_cons]; omega)
structure AL6 where
  s : ByteArray
  toks : List TK
  ln : Int
  i : Nat
def stL6' (x : AL6) : S := stL6 x.s (x.toks.map avT) x.ln x.i
def sideL6 (x : AL6) : Prop := x.s.size ≤ 10000 ∧ x.i ≤ x.s.size ∧ 0 ≤ x.ln ∧ x.ln + (x.s.size - x.i : Nat) ≤ 1000000 ∧ x.toks.length + (x.s.size - x.i) ≤ 20000
def rL6 (x : AL6) : List TK × Int × Bool := rfL (x.s.size - x.i + 1) ((bl x.s).drop x.i) x.ln x.toks
def outL6 (x : AL6) : Out (Exit × S) := .brn (rL6 x).2.2
  (.one (.exit 0, sp 100 [(5, .slc 0 0 ((rL6 x).1.map avT).length), (6, .int (rL6 x).2.1)] [.row 31 ((rL6 x).1.map avT)]))
  (.one (.ret, sp 100 [(2, .nil), (3, .int (rL6 x).2.1), (4, .int 160)] []))
theorem lL6 (κ : Kp) : LoopOk (BI6 κ).E 12 11 6 (loopE 0 stL6' sideL6 outL6) := by
  refine loopE_ok (fun x => x.s.size - x.i) ?_
  rintro ⟨s, toks, ln, i⟩ K ⟨h1, h2, h3, h4, h5⟩ ho
  simp only at h1 h2 h3 h4 h5
  rw [show (BI6 κ).E.P = Pr κ from rfl]
  refine Eq.mpr (xL6 κ s toks ln i _ _ K) ?_
  have hm : (toks.map avT).length = toks.length := List.length_map ..
  have q : ∀ r, rfL (s.size - i + 1) ((bl s).drop i) ln toks = r → brn r.2.2 (K (.exit 0) (sp 100 [(5, .slc 0 0 (r.1.map avT).length), (6, .int r.2.1)] [.row 31 (r.1.map avT)])) (K .ret (sp 100 [(2, .nil), (3, .int r.2.1), (4, .int 160)] [])) := fun r e => e ▸ ho
  rw [brn_iff]
  refine ⟨fun h => brn_iff.2 ⟨fun _ => ?_, fun e => absurd (of_decide_eq_false e) (by rw [hm]; omega)⟩, fun h => ?_⟩
  · have hi : i < s.size := by have := of_decide_eq_true h; omega
    obtain ⟨c, hd, hb⟩ := bl_at hi
    have hc : (decide ((0 : Int) ≤ (i : Int)) && decide ((i : Int) < (s.size : Int))) = true := by simp; omega
    have hll : ((bl s).drop i).length = s.size - i := by rw [List.length_drop, bl_len]
    have w1 : IntKind.wrap .i64 ((i : Int) + 1) = ((i + 1 : Nat) : Int) := by rw [wrap_ok (by omega) (by omega)]; rfl
    have w2 : IntKind.wrap .i64 ((i : Int) + 2) = ((i + 2 : Nat) : Int) := by rw [wrap_ok (by omega) (by omega)]; rfl
    have w3 : IntKind.wrap .i64 (ln + 1) = ln + 1 := wrap_ok (by omega) (by omega)
    have next : ∀ (toks' : List TK) (ln' : Int) (i' : Nat), i < i' → i' ≤ s.size → 0 ≤ ln' → ln' + (s.size - i' : Nat) ≤ 1000000 → toks'.length + (s.size - i') ≤ 20000 → rfL (s.size - i + 1) ((bl s).drop i) ln toks = rfL (s.size - i) ((bl s).drop i') ln' toks' →
        ∃ m, m < s.size - i ∧ invOf stL6' sideL6 outL6 (fun x => x.s.size - x.i) K m (stL6 s (toks'.map avT) ln' (i' : Nat)) := fun toks' ln' i' k1 k2 k3 k4 k5 k6 => by
      refine ⟨s.size - i', by omega, ⟨s, toks', ln', i'⟩, rfl, ⟨h1, k2, k3, k4, k5⟩, rfl, ?_⟩
      have hr : rL6 ⟨s, toks', ln', i'⟩ = rfL (s.size - i) ((bl s).drop i') ln' toks' := by
        unfold rL6
        dsimp only
        exact rfL_fuel _ _ _ _ _ (by rw [List.length_drop, bl_len]; omega) (by rw [List.length_drop, bl_len]; omega)
      have := q _ k6
      simp only [outL6, hr]
      exact this
    rw [w1, w2, w3, Int.toNat_natCast, Int.toNat_natCast, hb, show (10 : Int) = ((10 : UInt8).toNat : Nat) from rfl, show (32 : Int) = ((32 : UInt8).toNat : Nat) from rfl, show (9 : Int) = ((9 : UInt8).toNat : Nat) from rfl, u8_eq, u8_eq, u8_eq]
    rw [hd] at next
    rw [rfL, ← hd] at next
    refine cnd_iff.2 ⟨hc, brn_iff.2 ⟨fun e1 => ?_, fun e1 => cnd_iff.2 ⟨hc, brn_iff.2 ⟨fun e2 => ?_, fun e2 => cnd_iff.2 ⟨hc, brn_iff.2 ⟨fun e3 => ?_, fun e3 => ?_⟩⟩⟩⟩⟩⟩
    · rw [e1] at next
      refine ⟨(toks, ln), rfl, by show toks.length ≤ 1000000000; omega, brn_iff.2 ⟨fun e2 => ?_, fun e2 => ?_⟩⟩
      · have e2 : endB toks ln = true := e2
        have he : endA toks ln = toks ++ [(4, semB, ln)] := by unfold endA; rw [e2]; rfl
        have := next (toks ++ [(4, semB, ln)]) (ln + 1) (i + 1) (by omega) hi (by omega) (by omega) (by rw [List.length_append, List.length_singleton]; omega) (by rw [he]; rfl)
        exact this
      · have e2 : endB toks ln = false := e2
        have he : endA toks ln = toks := by unfold endA; rw [e2]; rfl
        exact next toks (ln + 1) (i + 1) (by omega) hi (by omega) (by omega) (by omega) (by rw [he]; rfl)
    · rw [e1, e2] at next
      exact next toks ln (i + 1) (by omega) hi h3 (by omega) (by omega) rfl
    · rw [e1, e2, e3] at next
      exact next toks ln (i + 1) (by omega) hi h3 (by omega) (by omega) rfl
    · rw [e1, e2, e3] at next
      simp only [cond_false] at next
      have q2 : rfL (s.size - i + 1) ((bl s).drop i) ln toks = bif ((bl s).drop i).take 2 == [47, 47] then rfL (s.size - i) (((bl s).drop i).drop (cmL ((bl s).drop i))) ln toks else match o6 ((bl s).drop i) with
          | none => (toks, ln, false)
          | some x => rfL (s.size - i) (((bl s).drop i).drop x.2.2) ln (toks ++ [(x.1, mkB x.2.1, ln)]) := by
        rw [hd, rfL, e1, e2, e3]; rfl
      have hcl := cmL_le ((bl s).drop i)
      have tok : (((bl s).drop i).take 2 == [47, 47]) = false → ∃ a : ByteArray × Nat, ([AV.lit (.string s), AV.int i], ([] : List Dn.Obj)) = stO6 a ∧ sideO6 a ∧ brn (oE a.2 (o6A a.1 a.2) == 0) (K .ret (sp 100 [(2, .nil), (3, .int ln), (4, .int 160)] [])) (cnd (decide (((toks.map avT).length + 1 + 1) * 33 ≤ 70368744177664)) (∃ m, m < s.size - i ∧ invOf stL6' sideL6 outL6 (fun x => x.s.size - x.i) K m (sp 100 [(0, .lit (.string s)), (5, .slc 0 0 ((toks.map avT).length + 1)), (6, .int ln), (7, .int (oE a.2 (o6A a.1 a.2)))] [.row 31 ((toks.map avT).take (toks.map avT).length ++ [.agg [.int (oK (o6A a.1 a.2)), .lit (.string (oS (o6A a.1 a.2))), .int ln]])]))) := fun e4 => by
        rw [e4, cond_false] at q2 next
        refine ⟨(s, i), rfl, ⟨by simp only; omega, hi⟩, ?_⟩
        have ha : o6A s i = o6 ((bl s).drop i) := rfl
        dsimp only
        rw [ha]
        cases e5 : o6 ((bl s).drop i) with
        | none =>
          rw [e5] at q2
          exact brn_iff.2 ⟨fun _ => (brn_iff.1 (q _ q2)).2 rfl, fun e => (by cases e)⟩
        | some x =>
          have hr := o6_rng e5
          rw [hll] at hr
          rw [e5] at next
          have k1 : (oE i (some x) == 0) = false := beq_eq_false_iff_ne.2 (by show ((i + x.2.2 : Nat) : Int) ≠ 0; omega)
          rw [k1]
          refine brn_iff.2 ⟨fun e => (by cases e), fun _ => cnd_iff.2 ⟨by rw [hm]; simp; omega, ?_⟩⟩
          have := next (toks ++ [(x.1, mkB x.2.1, ln)]) ln (i + x.2.2) (by omega) (by omega) h3 (by omega) (by rw [List.length_append, List.length_singleton]; omega) (by simp only [List.drop_drop])
          rw [List.take_length]
          simp only [stL6, List.map_append, List.map_cons, List.map_nil, List.length_append, List.length_singleton] at this
          exact this
      have ht : ∀ k, i + 2 ≤ k → (s.extract i k).toList = ((bl s).drop i).take (k - i) := fun k _ => by rw [bl_toList, bl_ext]
      refine brn_iff.2 ⟨fun e4 => ?_, fun e4 => ?_⟩
      · have e4 := of_decide_eq_true e4
        refine cnd_iff.2 ⟨by simp; omega, ?_⟩
        rw [ht _ (Nat.le_refl _), show i + 2 - i = 2 by omega, show (ByteArray.mk #[47, 47]).toList = [47, 47] from bl_toList _]
        refine brn_iff.2 ⟨fun e5 => ⟨rfl, ⟨s, toks.map avT, ln, i⟩, rfl, ⟨by simp only; omega, h2⟩, ?_⟩, tok⟩
        rw [e5] at next
        have h47 : 1 ≤ cmL ((bl s).drop i) := by
          rw [hd, cmL, e1]; simp
        exact next toks ln (i + cmL ((bl s).drop i)) (by omega) (by omega) h3 (by omega) (by omega) (by simp only [cond_true, List.drop_drop])
      · have e4 := of_decide_eq_false e4
        refine tok ?_
        rw [beq_eq_false_iff_ne]
        intro e
        have := congrArg List.length e
        rw [List.length_take, hll] at this
        simp only [List.length_cons, List.length_nil] at this
        omega
  · have hi : i = s.size := by have := of_decide_eq_false h; omega
    have hnil : (bl s).drop i = [] := List.drop_eq_nil_of_le (by rw [bl_len]; omega)
    have := q (toks, ln, true) (by rw [hnil]; rfl)
    exact (brn_iff.1 this).1 rfl
noncomputable def BL6l (κ : Kp) : EB := (BI6 κ).loop (lL6 κ)
theorem yL6 (κ : Kp) (s : ByteArray) (K : AV → List Dn.Obj → Prop) : (funA (BL6l κ).E 12 11 [.lit (.string s)] [] K) = (
  brn (decide ((↑(ByteArray.size s) : Int) > (1048576 : Int))) (K (AV.tup [AV.nil, AV.int 0, AV.int 21]) []) (loopCode (Pg.toProgram (Env.P (EB.E (BI6 κ)))) 11 6 =
  loopCode (Pg.toProgram (Env.P (EB.E (BI6 κ)))) 11 6 ∧ ∃ (a : AL6), sp 100 [(0, AV.str s), (5, AV.slc 0 0 0), (6, AV.int 1), (7, AV.int 0)] [Obj.row 31 []] =
  stL6' a ∧ sideL6 a ∧ brn (Prod.snd (Prod.snd (rL6 a))) (brn (decide ((↑(List.length (List.map avT (Prod.fst (rL6 a)))) : Int) ≤ (300000 : Int))) (∃ (a_1 : List
  TK × Int), ([AV.slc 0 0 (List.length (List.map avT (Prod.fst (rL6 a)))), AV.int (Prod.fst (Prod.snd (rL6 a)))], [Obj.row 31 (List.map avT (Prod.fst (rL6 a)))])
  = stEd a_1 ∧ sideEd a_1 ∧ brn (endB a_1.1 a_1.2) (brn (decide ((↑(List.length (List.map avT (a_1.1 ++ [((4 : Int), semB, a_1.2)]))) : Int) > (300000 : Int)))
  (cnd (true && decide ((300000 : Int) < (↑(List.length (List.map avT (a_1.1 ++ [((4 : Int), semB, a_1.2)]))) : Int))) (K (AV.tup [AV.nil, AV.int (toInt (fld
  (nth (List.map avT (a_1.1 ++ [((4 : Int), semB, a_1.2)])) 300000) 2)), AV.int 21]) [])) (K (AV.tup [AV.slc 0 0 (List.length (List.map avT (a_1.1 ++ [((4 :
  Int), semB, a_1.2)]))), AV.int 0, AV.int 0]) [Obj.row 31 (List.map avT (a_1.1 ++ [((4 : Int), semB, a_1.2)]))])) (brn (decide ((↑(List.length (List.map avT
  a_1.1)) : Int) > (300000 : Int))) (cnd (true && decide ((300000 : Int) < (↑(List.length (List.map avT a_1.1)) : Int))) (K (AV.tup [AV.nil, AV.int (toInt (fld
  (nth (List.map avT a_1.1) 300000) 2)), AV.int 21]) [])) (K (AV.tup [AV.slc 0 0 (List.length (List.map avT a_1.1)), AV.int 0, AV.int 0]) [Obj.row 31 (List.map
  avT a_1.1)]))) (brn (decide ((↑(List.length (List.map avT (Prod.fst (rL6 a)))) : Int) > (300000 : Int))) (cnd (true && decide ((300000 : Int) < (↑(List.length
  (List.map avT (Prod.fst (rL6 a)))) : Int))) (K (AV.tup [AV.nil, AV.int (toInt (fld (nth (List.map avT (Prod.fst (rL6 a))) 300000) 2)), AV.int 21]) [])) (K
  (AV.tup [AV.slc 0 0 (List.length (List.map avT (Prod.fst (rL6 a)))), AV.int 0, AV.int 0]) [Obj.row 31 (List.map avT (Prod.fst (rL6 a)))]))) (K (AV.tup [AV.nil,
  AV.int (Prod.fst (Prod.snd (rL6 a))), AV.int 160]) []))) := by kernel_rfl
end Go.Proofs.YtbppdpbagmbmpaaGreatDoor
namespace Go.Proofs.YtbppdpbagmbmpaaGreatDoor
open Go Go.Dn Go.Proofs
attribute [local irreducible] funA vc
set_option maxRecDepth 20000
theorem rfL_len : ∀ (k : Nat) (l : List UInt8) (ln : Int) (acc : List TK), (rfL k l ln acc).1.length ≤ acc.length + l.length
  | 0, _, _, _ => Nat.le_add_right _ _
  | k + 1, [], _, _ => Nat.le_refl _
  | k + 1, c :: r, ln, acc => by
    rw [rfL, List.length_cons]
    cases c == 10 with
    | true =>
      have := rfL_len k r (ln + 1) (endA acc ln)
      have := endA_len acc ln
      simp only [cond_true]; omega
    | false =>
    cases c == 32 with
    | true => have := rfL_len k r ln acc; simp only [cond_true, cond_false]; omega
    | false =>
    cases c == 9 with
    | true => have := rfL_len k r ln acc; simp only [cond_true, cond_false]; omega
    | false =>
    simp only [cond_false]
    cases (c :: r).take 2 == [47, 47] with
    | true =>
      have := rfL_len k ((c :: r).drop (cmL (c :: r))) ln acc
      rw [List.length_drop, List.length_cons] at this
      simp only [cond_true]; omega
    | false =>
      simp only [cond_false]
      cases e : o6 (c :: r) with
      | none => simp only; omega
      | some x =>
        have h1 := o6_rng e
        have := rfL_len k ((c :: r).drop x.2.2) ln (acc ++ [(x.1, mkB x.2.1, ln)])
        rw [List.length_drop, List.length_append, List.length_singleton] at this
        rw [List.length_cons] at h1 this
        simp only; omega
def lx6 (s : ByteArray) : List TK × Int × Bool := rfL (s.size + 1) (bl s) 1 []
def lx6T (s : ByteArray) : List TK := endA (lx6 s).1 (lx6 s).2.1
def stL6c (s : ByteArray) : List AV × List Dn.Obj := ([.lit (.string s)], [])
def sideL6c (s : ByteArray) : Prop := s.size ≤ 10000
def outL6c (s : ByteArray) : Out (AV × List Dn.Obj) := .brn (lx6 s).2.2 (.one (.tup [.slc 0 0 ((lx6T s).map avT).length, .int 0, .int 0], [.row 31 ((lx6T s).map avT)])) (.one (.tup [.nil, .int (lx6 s).2.1, .int 160], []))
theorem cL6 (κ : Kp) : CallOk (BL6l κ).E 12 11 (callE stL6c sideL6c outL6c) := by
  refine callE_ok ?_
  rintro s K h1 ho
  have h1 : s.size ≤ 10000 := h1
  have ho : brn (lx6 s).2.2 (K (.tup [.slc 0 0 ((lx6T s).map avT).length, .int 0, .int 0]) [.row 31 ((lx6T s).map avT)]) (K (.tup [.nil, .int (lx6 s).2.1, .int 160]) []) := ho
  refine Eq.mpr (yL6 κ s K) ?_
  have hlen := rfL_len (s.size + 1) (bl s) 1 []
  rw [bl_len, List.length_nil] at hlen
  have hr : rL6 ⟨s, [], 1, 0⟩ = lx6 s := by unfold rL6 lx6; rw [List.drop_zero]; rfl
  refine brn_iff.2 ⟨fun e => absurd (of_decide_eq_true e) (by omega), fun _ => ⟨rfl, ⟨s, [], 1, 0⟩, rfl, ⟨h1, Nat.zero_le _, by simp only; omega, by simp only; omega, by simp only [List.length_nil]; omega⟩, ?_⟩⟩
  rw [hr]
  have hlen : (lx6 s).1.length ≤ 0 + s.size := hlen
  have ht := endA_len (lx6 s).1 (lx6 s).2.1
  unfold lx6T at ho
  generalize lx6 s = R at ho hlen ht ⊢
  obtain ⟨l, ln, b⟩ := R
  simp only at ho hlen ht ⊢
  rw [brn_iff] at ho
  refine brn_iff.2 ⟨fun e => brn_iff.2 ⟨fun _ => ⟨(l, ln), rfl, by show l.length ≤ 1000000000; omega, brn_iff.2 ⟨fun e2 => ?_, fun e2 => ?_⟩⟩, fun e => absurd (of_decide_eq_false e) (by simp only [List.length_map]; omega)⟩, fun e => ho.2 e⟩
  · have he : endA l ln = l ++ [(4, semB, ln)] := by unfold endA; rw [show endB l ln = true from e2]; rfl
    rw [he] at ho
    exact brn_iff.2 ⟨fun e3 => absurd (of_decide_eq_true e3) (by simp only [List.length_map, List.length_append, List.length_singleton]; omega), fun _ => ho.1 e⟩
  · have he : endA l ln = l := by unfold endA; rw [show endB l ln = false from e2]; rfl
    rw [he] at ho
    exact brn_iff.2 ⟨fun e3 => absurd (of_decide_eq_true e3) (by simp only [List.length_map]; omega), fun _ => ho.1 e⟩
noncomputable def BL6 (κ : Kp) : EB := (BL6l κ).call (cL6 κ)
theorem yCu (κ : Kp) (s : ByteArray) (K : AV → List Dn.Obj → Prop) : (funA (BL6 κ).E 12 9 [.lit (.string s)] [] K) = (
  cnd (true && decide ((0 : Int) ≤ if (3000 : Int) < (↑(ByteArray.size s) : Int) then (3000 : Int) else (↑(ByteArray.size s) : Int)) && decide ((if (3000 : Int) <
  (↑(ByteArray.size s) : Int) then (3000 : Int) else (↑(ByteArray.size s) : Int)) ≤ (↑(ByteArray.size s) : Int))) (K (AV.str (ByteArray.extract s 0 (Int.toNat
  (if (3000 : Int) < (↑(ByteArray.size s) : Int) then (3000 : Int) else (↑(ByteArray.size s) : Int))))) [])) := by kernel_rfl
theorem pCu (κ : Kp) : PureOk (BL6 κ).E 12 9 gCt := by
  intro args x hh
  unfold gCt at hh
  split at hh
  · rename_i s
    simp only [Option.some.injEq, Prod.mk.injEq, true_and] at hh
    subst hh
    refine ⟨_, rfl, rfl, Eq.mpr (yCu κ s _) ?_⟩
    have h : (if (3000 : Int) < (s.size : Int) then (3000 : Int) else (s.size : Int)) = ((min s.size 3000 : Nat) : Int) := by
      split <;> omega
    rw [h]
    refine cnd_iff.2 ⟨by simp; omega, ?_⟩
    rw [Int.toNat_natCast]; rfl
  · cases hh
noncomputable def BCu (κ : Kp) : EB := (BL6 κ).pure (pCu κ)
theorem yLs6 (κ : Kp) (s : ByteArray) (K : AV → List Dn.Obj → Prop) : (funA (BCu κ).E 12 3 [.lit (.string s)] [] K) = (
  ∃ (a : ByteArray), ([AV.str (cutB s)], []) = stLx a ∧ sideLx a ∧ brn (Option.isNone (Prod.snd (Prod.snd (lexA a)))) (∃ (a_1 : ByteArray), ([AV.str (cutB s)], [])
  = stL6c a_1 ∧ sideL6c a_1 ∧ brn (Prod.snd (Prod.snd (lx6 a_1))) (cnd (decide (List.length (List.take (List.length (List.map avT (Prod.fst (lexA a))))
  (List.drop 0 (List.map avT (Prod.fst (lexA a))))) ≤ 1000000000)) (brn (decide (List.map keyS (List.take (List.length (List.map avT (Prod.fst (lexA a))))
  (List.drop 0 (List.map avT (Prod.fst (lexA a))))) = List.map keyS (List.take (List.length (List.map avT (lx6T a_1))) (List.drop 0 (List.map avT (lx6T a_1))))))
  (K (AV.bool true) []) (K (AV.bool false) []))) (cnd (decide (List.length (List.take (List.length (List.map avT (Prod.fst (lexA a)))) (List.drop 0 (List.map avT
  (Prod.fst (lexA a))))) ≤ 1000000000)) (brn (decide (List.map keyS (List.take (List.length (List.map avT (Prod.fst (lexA a)))) (List.drop 0 (List.map avT
  (Prod.fst (lexA a))))) = [])) (brn ((0 : Int) == Prod.fst (Prod.snd (lx6 a_1))) (K (AV.bool false) []) (K (AV.bool false) [])) (K (AV.bool false) [])))) (∃
  (a_1 : ByteArray), ([AV.str (cutB s)], []) = stL6c a_1 ∧ sideL6c a_1 ∧ brn (Prod.snd (Prod.snd (lx6 a_1))) (brn (decide ([] = List.map keyS (List.take
  (List.length (List.map avT (lx6T a_1))) (List.drop 0 (List.map avT (lx6T a_1)))))) (brn (Prod.fst (Prod.snd (lexA a)) == (0 : Int)) (K (AV.bool (Option.getD
  (Prod.snd (Prod.snd (lexA a))) (0 : Int) == (0 : Int))) []) (K (AV.bool false) [])) (K (AV.bool false) [])) (brn (Prod.fst (Prod.snd (lexA a)) == Prod.fst
  (Prod.snd (lx6 a_1))) (K (AV.bool (Option.getD (Prod.snd (Prod.snd (lexA a))) (0 : Int) == (160 : Int))) []) (K (AV.bool false) [])))) := by kernel_rfl
end Go.Proofs.YtbppdpbagmbmpaaGreatDoor
namespace Go.Proofs.YtbppdpbagmbmpaaGreatDoor
open Go Go.Dn Go.Proofs
attribute [local irreducible] funA vc
set_option maxRecDepth 20000
theorem hexv_pl : ∀ k : Fin 256, (hexv k.val.toUInt8).isSome = true → k.val.toUInt8 ≠ 10 ∧ k.val.toUInt8 ≠ 92 ∧ k.val.toUInt8 ≠ 34 := by decide +kernel
theorem hexv_ne {a x : UInt8} (h : hexv a = some x) : a ≠ 10 ∧ a ≠ 92 ∧ a ≠ 34 := by
  have := hexv_pl ⟨a.toNat, a.toNat_lt⟩
  simp only at this
  rw [show a.toNat.toUInt8 = a by simp] at this
  exact this (by rw [h]; rfl)
theorem plB_ne {b : UInt8} (h : plB b = true) : b ≠ 10 ∧ b ≠ 92 ∧ b ≠ 34 := by
  unfold plB at h
  simp only [Bool.and_eq_true, decide_eq_true_eq, bne_iff_ne] at h
  refine ⟨fun e => ?_, h.2, h.1.2⟩
  have := h.1.1.1
  rw [e] at this
  exact absurd this (by decide)
theorem quo_one {b : UInt8} {l : List UInt8} {n : Nat} (h : b ≠ 10 ∧ b ≠ 92 ∧ b ≠ 34) : quoL (b :: l) n = quoL l (n + 1) := by
  rw [quoL_cons, show (b == 10) = false from beq_eq_false_iff_ne.2 h.1, show (b == 92) = false from beq_eq_false_iff_ne.2 h.2.1, show (b == 34) = false from beq_eq_false_iff_ne.2 h.2.2]; rfl
theorem quo_step {l : List UInt8} {c : UInt8} {n : Nat} (h : decL l = some (c, n)) (k : Nat) : quoL l k = quoL (l.drop n) (k + n) := by
  match l, h with
  | [], h => cases h
  | b :: l, h =>
    rw [decL_cons] at h
    cases e : plB b with
    | true => rw [e] at h; cases h; exact quo_one (plB_ne e)
    | false =>
    rw [e] at h
    cases e2 : b == 92 with
    | false => rw [e2] at h; cases h
    | true =>
    rw [e2] at h
    have hq : ∀ d r, quoL (b :: d :: r) k = quoL r (k + 2) := fun d r => by
      rw [quoL_cons, e2, beq_iff_eq.1 e2]; rfl
    match l, h with
    | [], h => cases h
    | d :: l, h =>
      simp only [cond_true, cond_false] at h
      rw [hq]
      cases e3 : dec2 d with
      | some v => rw [e3] at h; cases h; rfl
      | none =>
        rw [e3] at h
        cases e4 : d == 120 with
        | false => rw [e4] at h; cases h
        | true =>
          rw [e4] at h
          match l, h with
          | [], h => cases h
          | [_], h => cases h
          | x :: y :: l, h =>
            obtain ⟨v, h1, h2⟩ := Option.map_eq_some_iff.1 h
            cases h2
            unfold dec4 at h1
            split at h1
            · rename_i a b' ha hb
              rw [quo_one (hexv_ne ha), quo_one (hexv_ne hb)]; rfl
            · cases h1
theorem quo_rng : ∀ (f : Nat) (l : List UInt8) (n : Nat), l.length < f → quoL l n = 0 ∨ ∃ m, quoL l n = n + m ∧ 1 ≤ m ∧ m ≤ l.length ∧ l[m - 1]? = some 34
  | 0, l, n, h => by omega
  | f + 1, [], n, _ => .inl rfl
  | f + 1, b :: l, n, h => by
    rw [List.length_cons] at h
    rw [quoL_cons]
    cases e1 : b == 10 with
    | true => exact .inl rfl
    | false =>
    cases e2 : b == 92 with
    | true =>
      match l with
      | [] => exact .inl rfl
      | d :: r =>
        rw [List.length_cons] at h
        rcases quo_rng f r (n + 2) (by omega) with h1 | ⟨m, h1, h2, h3, h4⟩
        · exact .inl h1
        · refine .inr ⟨m + 2, by simp only [cond_true, cond_false]; omega, by omega, by simp only [List.length_cons]; omega, ?_⟩
          rw [show m + 2 - 1 = (m - 1) + 1 + 1 by omega, List.getElem?_cons_succ, List.getElem?_cons_succ]; exact h4
    | false =>
    cases e3 : b == 34 with
    | true => exact .inr ⟨1, rfl, Nat.le_refl _, by simp, by rw [beq_iff_eq.1 e3]; rfl⟩
    | false =>
      rcases quo_rng f l (n + 1) (by omega) with h1 | ⟨m, h1, h2, h3, h4⟩
      · exact .inl h1
      · refine .inr ⟨m + 1, by simp only [cond_false]; omega, by omega, by simp only [List.length_cons]; omega, ?_⟩
        rw [show m + 1 - 1 = (m - 1) + 1 by omega, List.getElem?_cons_succ]; exact h4
theorem quo_sym : ∀ (k : Nat) (l : List UInt8) (n : Nat), l.length < k →
    (∀ t m, symD k l = some (t, m) → quoL l n = n + m) ∧ (symD k l = none → ∀ m, quoL l n = n + m → 1 ≤ m → m ≤ l.length → strD k (l.take (m - 1)) = none)
  | 0, l, n, h => by omega
  | k + 1, l, n, h => by
    rw [symD]
    cases e : l.head? == some 34 with
    | true =>
      rw [beq_iff_eq] at e
      match l, e with
      | b :: l, e =>
        cases e
        exact ⟨fun t m h => (by cases h; rw [quoL_cons]; rfl), fun h => (by cases h)⟩
    | false =>
      simp only [cond_false]
      cases e2 : decL l with
      | some x =>
        obtain ⟨c, q⟩ := x
        obtain ⟨h1, h2⟩ := decL_rng e2
        obtain ⟨i1, i2⟩ := quo_sym k (l.drop q) (n + q) (by rw [List.length_drop]; omega)
        rw [quo_step e2]
        refine ⟨fun t m h => ?_, fun h m h3 h4 h5 => ?_⟩
        · obtain ⟨y, h3, h4⟩ := Option.map_eq_some_iff.1 h
          cases h4
          rw [i1 y.1 y.2 h3]; simp only; omega
        · have hn := Option.map_eq_none_iff.1 h
          rcases quo_rng (k + 1) (l.drop q) (n + q) (by rw [List.length_drop]; omega) with h6 | ⟨m', h6, h7, h8, _⟩
          · omega
          · rw [List.length_drop] at h8
            have hm : m = q + m' := by omega
            subst hm
            have hne : (l.take (q + m' - 1)).isEmpty = false := by
              rw [List.isEmpty_eq_false_iff]
              intro e9
              have := congrArg List.length e9
              rw [List.length_take, List.length_nil] at this
              omega
            have hd : (l.take (q + m' - 1)).drop q = (l.drop q).take (m' - 1) := by
              rw [List.drop_take, show q + m' - 1 - q = m' - 1 by omega]
            rw [strD, hne, decL_take e2 (by omega), cond_false]
            simp only
            rw [hd, i2 hn m' h6 h7 (by rw [List.length_drop]; omega)]; rfl
      | none =>
        refine ⟨fun t m h => (by cases h), fun _ m h3 h4 h5 => ?_⟩
        have hm : 2 ≤ m := by
          rcases Nat.lt_or_ge m 2 with h6 | h6
          · exfalso
            have hm1 : m = 1 := by omega
            subst hm1
            rcases quo_rng (l.length + 1) l n (Nat.lt_succ_self _) with h7 | ⟨m', h7, _, _, h8⟩
            · omega
            · have : m' = 1 := by omega
              subst this
              match l, h8 with
              | [], h8 => cases h8
              | b :: l, h8 =>
                cases h8
                simp at e
          · exact h6
        have hne : (l.take (m - 1)).isEmpty = false := by
          rw [List.isEmpty_eq_false_iff]
          intro e9
          have := congrArg List.length e9
          rw [List.length_take, List.length_nil] at this
          omega
        have hdn : decL (l.take (m - 1)) = none := by
          cases e5 : decL (l.take (m - 1)) with
          | none => rfl
          | some x =>
            obtain ⟨c, q⟩ := x
            have h6 := decL_rng e5
            have h7 := decL_pre e5 (l.drop q)
            rw [List.length_take] at h6
            rw [List.take_take, Nat.min_eq_left (by omega), List.take_append_drop] at h7
            rw [h7] at e2; cases e2
        rw [strD, hne, hdn]; rfl
theorem hx_same : ∀ k : Fin 256, Lib.indexByte (bl hexB) k.val.toUInt8 = (match hexv k.val.toUInt8 with | some x => (x.toNat : Int) | none => -1) := by decide +kernel
theorem hxV_same : ∀ x y : Fin 16, hxV (x.val : Int) (y.val : Int) = ((16 * x.val + y.val : Nat) : Int) := by decide +kernel
theorem hxI_same (a : UInt8) : hxI a.toNat = (match hexv a with | some x => (x.toNat : Int) | none => -1) := by
  have := hx_same ⟨a.toNat, a.toNat_lt⟩
  simp only at this
  unfold hxI
  rw [this, show a.toNat.toUInt8 = a by simp]
theorem isPl_same (b : UInt8) : isPl (b.toNat : Nat) = plB b := by
  unfold isPl plB
  rw [Bool.eq_iff_iff]
  simp only [Bool.and_eq_true, decide_eq_true_eq, bne_iff_ne]
  have h34 : ((b.toNat : Int) ≠ 34) ↔ b ≠ 34 := ⟨fun h e => h (by rw [e]; rfl), fun h e => h (UInt8.toNat_inj.1 (by show b.toNat = 34; omega))⟩
  have h92 : ((b.toNat : Int) ≠ 92) ↔ b ≠ 92 := ⟨fun h e => h (by rw [e]; rfl), fun h e => h (UInt8.toNat_inj.1 (by show b.toNat = 92; omega))⟩
  rw [h34, h92]
  constructor
  · rintro ⟨⟨h1, h2⟩, h3, h4⟩
    exact ⟨⟨⟨by omega, by omega⟩, h3⟩, h4⟩
  · rintro ⟨⟨⟨h1, h2⟩, h3⟩, h4⟩
    exact ⟨⟨by omega, by omega⟩, h3, h4⟩
theorem byte_nth {s : ByteArray} {i : Nat} {c : UInt8} (h : (bl s)[i]? = some c) : byteAt s i = c.toNat := by
  have hi : i < s.size := by rw [← bl_len]; exact (List.getElem?_eq_some_iff.1 h).1
  obtain ⟨b, hd, hb⟩ := bl_at hi
  have : (bl s)[i]? = some b := by
    have := congrArg (·[0]?) hd
    simpa using this
  rw [this] at h
  cases h
  exact hb
theorem u8_int (b : UInt8) (z : UInt8) : (((b.toNat : Nat) : Int) == ((z.toNat : Nat) : Int)) = (b == z) := u8_eq b z
theorem es_dec (s : ByteArray) : (esO s = true → decL (92 :: bl s) = some ((esC s).toNat.toUInt8, (esN s + 1).toNat)) ∧ (esO s = false → decL (92 :: bl s) = none) := by
  rw [decL_cons, show plB 92 = false from rfl, show ((92 : UInt8) == 92) = true from rfl]
  simp only [cond_true, cond_false]
  cases hl : bl s with
  | nil =>
    have h0 : s.size = 0 := by rw [← bl_len, hl]; rfl
    have : esO s = false := by unfold esO; rw [empty_iff, decide_eq_true h0]; rfl
    exact ⟨fun h => (by rw [this] at h; cases h), fun _ => rfl⟩
  | cons c r =>
    obtain ⟨hb, hpos⟩ := byte_hd hl
    have he : (s.toList == (ByteArray.mk #[]).toList) = false := by rw [empty_iff, decide_eq_false (by omega)]
    unfold esO esC esN
    rw [he, hb, show (92 : Int) = ((92 : UInt8).toNat : Nat) from rfl, show (34 : Int) = ((34 : UInt8).toNat : Nat) from rfl, show (110 : Int) = ((110 : UInt8).toNat : Nat) from rfl, show (120 : Int) = ((120 : UInt8).toNat : Nat) from rfl, u8_int, u8_int, u8_int, u8_int]
    simp only [cond_false]
    unfold dec2
    cases e92 : c == 92 with
    | true =>
      obtain rfl := beq_iff_eq.1 e92
      exact ⟨fun _ => rfl, fun h => (by cases h)⟩
    | false =>
    cases e34 : c == 34 with
    | true =>
      obtain rfl := beq_iff_eq.1 e34
      exact ⟨fun _ => rfl, fun h => (by cases h)⟩
    | false =>
    cases e110 : c == 110 with
    | true =>
      obtain rfl := beq_iff_eq.1 e110
      exact ⟨fun _ => rfl, fun h => (by cases h)⟩
    | false =>
    simp only [cond_false]
    cases e120 : c == 120 with
    | false => exact ⟨fun h => (by cases h), fun _ => rfl⟩
    | true =>
      simp only [cond_true]
      have hsz : s.size = r.length + 1 := by rw [← bl_len, hl]; rfl
      match r, hl, hsz with
      | [], hl, hsz =>
        rw [decide_eq_true (show (s.size : Int) < 3 by rw [hsz]; decide)]
        exact ⟨fun h => (by cases h), fun _ => rfl⟩
      | [x], hl, hsz =>
        rw [decide_eq_true (show (s.size : Int) < 3 by rw [hsz, List.length_singleton]; decide)]
        exact ⟨fun h => (by cases h), fun _ => rfl⟩
      | x :: y :: r, hl, hsz =>
        have b1 : byteAt s 1 = x.toNat := byte_nth (by rw [hl]; rfl)
        have b2 : byteAt s 2 = y.toNat := byte_nth (by rw [hl]; rfl)
        rw [decide_eq_false (show ¬ (s.size : Int) < 3 by rw [hsz, List.length_cons, List.length_cons]; omega)]
        unfold esX dec4
        rw [b1, b2, hxI_same, hxI_same]
        cases ex : hexv x with
        | none => exact ⟨fun h => (by cases h), fun _ => (by simp only [ex]; rfl)⟩
        | some u =>
        cases ey : hexv y with
        | none =>
          refine ⟨fun h => ?_, fun _ => (by simp only [ex, ey]; rfl)⟩
          simp only [cond_false] at h
          rw [decide_eq_false (show ¬ ((u.toNat : Nat) : Int) < 0 by omega)] at h
          cases h
        | some v =>
          have hu : u.toNat < 16 := by
            have := hexv_ok ⟨x.toNat, x.toNat_lt⟩
            simp only at this
            rw [show x.toNat.toUInt8 = x by simp] at this
            exact (this u ex).1
          have hv : v.toNat < 16 := by
            have := hexv_ok ⟨y.toNat, y.toNat_lt⟩
            simp only at this
            rw [show y.toNat.toUInt8 = y by simp] at this
            exact (this v ey).1
          have hxv := hxV_same ⟨u.toNat, hu⟩ ⟨v.toNat, hv⟩
          simp only at hxv ⊢
          rw [hxv, decide_eq_false (show ¬ ((u.toNat : Nat) : Int) < 0 by omega), decide_eq_false (show ¬ ((v.toNat : Nat) : Int) < 0 by omega)]
          have hw : (16 * u + v).toNat = 16 * u.toNat + v.toNat := by
            rw [UInt8.toNat_add, UInt8.toNat_mul, show (16 : UInt8).toNat = 16 from rfl]; omega
          have hc : ((16 * u.toNat + v.toNat : Nat) : Int) = (((16 * u + v).toNat : Nat) : Int) := by rw [hw]
          rw [hc, isPl_same, show (10 : Int) = ((10 : UInt8).toNat : Nat) from rfl, u8_int, u8_int, u8_int, Int.toNat_natCast]
          have hxb : xB (16 * u + v) = (bif plB (16 * u + v) then false else bif (16 * u + v) == 10 then false else bif (16 * u + v) == 34 then false else !((16 * u + v) == 92)) := by
            unfold xB plB
            generalize 16 * u + v = w
            rw [Bool.eq_iff_iff]
            have hwl := w.toNat_lt
            by_cases h10 : w = 10
            · subst h10; decide
            by_cases h34 : w = 34
            · subst h34; decide
            by_cases h92 : w = 92
            · subst h92; decide
            have g10 : (w == 10) = false := beq_eq_false_iff_ne.2 h10
            have g34 : (w == 34) = false := beq_eq_false_iff_ne.2 h34
            have g92 : (w == 92) = false := beq_eq_false_iff_ne.2 h92
            simp only [bne, g10, g34, g92, Bool.not_false, Bool.and_true, cond_false]
            by_cases h1 : w.toNat < 32
            · simp [h1, show ¬ 32 ≤ w.toNat by omega]
            · by_cases h2 : w.toNat > 126
              · simp [h2, show ¬ w.toNat ≤ 126 by omega]
              · simp [show 32 ≤ w.toNat by omega, show w.toNat ≤ 126 by omega, show ¬ w.toNat > 126 by omega, h1]
          simp only [ex, ey]
          rw [hxb]
          refine ⟨fun h => ?_, fun h => ?_⟩
          · simp only [cond_false] at h ⊢
            rw [h, cond_true, Option.map_some, Nat.toUInt8, UInt8.ofNat_toNat]; rfl
          · simp only [cond_false] at h ⊢
            rw [h]; rfl
theorem badU_cons (x : Int × Bool) (l : List (Int × Bool)) : badU (x :: l) = (x.2 || badU l) := rfl
theorem by_dec : ∀ (k : Nat) (s : ByteArray), s.size ≤ k → badU (byF k s) = (strD (k + 1) (bl s)).isNone ∧ ∀ t, strD (k + 1) (bl s) = some t → okU (byF k s) = t
  | 0, s, h => by
    have h0 : bl s = [] := nil_bl (by omega)
    rw [h0]
    exact ⟨rfl, fun t ht => by cases ht; rfl⟩
  | k + 1, s, h => by
    rw [byF, strD]
    cases hl : bl s with
    | nil =>
      have h0 : s.size = 0 := by rw [← bl_len, hl]; rfl
      rw [decide_eq_false (by omega)]
      exact ⟨rfl, fun t ht => by cases ht; rfl⟩
    | cons c r =>
      obtain ⟨hb, hpos⟩ := byte_hd hl
      rw [decide_eq_true (by omega), hb, show (92 : Int) = ((92 : UInt8).toNat : Nat) from rfl, u8_int, isPl_same]
      simp only [cond_true, List.isEmpty_cons, cond_false]
      have hs1 : bl (s.extract 1 s.size) = r := by rw [rest_bl, hl]; rfl
      cases e : c == 92 with
      | true =>
        obtain rfl := beq_iff_eq.1 e
        obtain ⟨d1, d2⟩ := es_dec (s.extract 1 s.size)
        rw [hs1] at d1 d2
        cases e2 : esO (s.extract 1 s.size) with
        | false =>
          rw [d2 e2]
          exact ⟨rfl, fun t ht => (by cases ht)⟩
        | true =>
          rw [d1 e2]
          have hn := esO_le e2
          rw [exs] at hn
          simp only [cond_true]
          have hrest : bl (s.extract (esN (s.extract 1 s.size) + 1).toNat s.size) = (92 :: r).drop (esN (s.extract 1 s.size) + 1).toNat := by rw [rest_bl, hl]
          obtain ⟨i1, i2⟩ := by_dec k (s.extract (esN (s.extract 1 s.size) + 1).toNat s.size) (by rw [exs]; omega)
          rw [hrest] at i1 i2
          constructor
          · rw [badU_cons, Bool.false_or, i1]
            cases strD (k + 1) ((92 :: r).drop (esN (s.extract 1 s.size) + 1).toNat) <;> rfl
          · intro t ht
            obtain ⟨t', h3, rfl⟩ := Option.map_eq_some_iff.1 ht
            rw [okU]
            simp only [cond_false]
            rw [i2 t' h3]
      | false =>
        simp only [cond_false]
        rw [decL_cons, e]
        cases e3 : plB c with
        | false => exact ⟨rfl, fun t ht => (by cases ht)⟩
        | true =>
          obtain ⟨i1, i2⟩ := by_dec k (s.extract 1 s.size) (by rw [exs]; omega)
          rw [hs1] at i1 i2
          simp only [Bool.not_true, cond_false, cond_true, List.drop_succ_cons, List.drop_zero]
          constructor
          · rw [badU_cons, Bool.false_or, i1]
            cases strD (k + 1) r <;> rfl
          · intro t ht
            obtain ⟨t', h3, rfl⟩ := Option.map_eq_some_iff.1 ht
            rw [okU]
            simp only [cond_false]
            rw [i2 t' h3, Int.toNat_natCast, Nat.toUInt8, UInt8.ofNat_toNat]
theorem uq_same {s : ByteArray} (h : s.size ≤ 1000000000) : uqO s = (uq6 s).isSome ∧ ∀ t, uq6 s = some t → uqS s = mkB t := by
  unfold uqS uqO uq6
  cases e : decide ((s.size : Int) < 2) with
  | true => exact ⟨rfl, fun t h => (by cases h)⟩
  | false =>
  have h2 := of_decide_eq_false e
  have w1 : fwI s = ((s.size - 1 : Nat) : Int) := by unfold fwI; rw [wrap_ok (by omega) (by omega)]; omega
  have hm : miD s = s.extract 1 (s.size - 1) := by
    unfold miD
    rw [show IntKind.wrap .i64 ((s.size : Int) - 1) = ((s.size - 1 : Nat) : Int) from w1, Int.toNat_natCast]
  rw [w1, Int.toNat_natCast, hm]
  cases e2 : ((byteAt s 0 : Nat) : Int) != 34 with
  | true => exact ⟨rfl, fun t h => (by cases h)⟩
  | false =>
  cases e3 : ((byteAt s (s.size - 1) : Nat) : Int) != 34 with
  | true => exact ⟨rfl, fun t h => (by cases h)⟩
  | false =>
    have hb : bl (s.extract 1 (s.size - 1)) = ((bl s).drop 1).take (s.size - 2) := by rw [bl_ext, show s.size - 1 - 1 = s.size - 2 by omega]
    obtain ⟨d1, d2⟩ := by_dec (s.extract 1 (s.size - 1)).size (s.extract 1 (s.size - 1)) (Nat.le_refl _)
    have hz : (((bl s).drop 1).take (s.size - 2)).length = s.size - 2 := by rw [List.length_take, List.length_drop, bl_len]; omega
    have hz2 : (s.extract 1 (s.size - 1)).size = s.size - 2 := by rw [ByteArray.size_extract]; omega
    rw [hb, strD_fuel _ (s.size + 1) _ (by rw [hz, hz2]; omega) (by rw [hz]; omega)] at d1 d2
    simp only [cond_false]
    have d1 : badU (byA (s.extract 1 (s.size - 1))) = (strD (s.size + 1) (((bl s).drop 1).take (s.size - 2))).isNone := d1
    rw [d1]
    cases e9 : strD (s.size + 1) (((bl s).drop 1).take (s.size - 2)) with
    | none => exact ⟨rfl, fun t h => (by cases h)⟩
    | some t =>
      refine ⟨rfl, fun t' h => ?_⟩
      cases h
      have := d2 t e9
      show (ByteArray.mk (okU (byA (s.extract 1 (s.size - 1)))).toArray) = mkB t
      rw [show okU (byA (s.extract 1 (s.size - 1))) = t from this]; rfl
end Go.Proofs.YtbppdpbagmbmpaaGreatDoor
namespace Go.Proofs.YtbppdpbagmbmpaaGreatDoor
open Go Go.Dn Go.Proofs
attribute [local irreducible] funA vc
set_option maxRecDepth 20000
theorem si_two : fldA siB = twoL.map mkB := by decide +kernel
theorem ones_any : ∀ c : Fin 256, (!decide (Lib.indexByte (bl onesB) c.val.toUInt8 < 0)) = oneS.any (fun p => c.val.toUInt8 == p) := by decide +kernel
theorem hasP_two {t : ByteArray} {p : List UInt8} (hp : p.length = 2) : hasP t (mkB p) = ((bl t).take 2 == p) := by
  unfold hasP
  have hz : (mkB p).size = 2 := by rw [← bl_len, bl_mkB, hp]
  rw [hz, mkB_toList, bl_toList, bl_ext, List.drop_zero, Nat.sub_zero]
  rcases Nat.lt_or_ge t.size 2 with h | h
  · rw [decide_eq_false (by omega), Bool.false_and]
    symm
    rw [beq_eq_false_iff_ne]
    intro e
    have := congrArg List.length e
    rw [List.length_take, bl_len, hp] at this
    omega
  · rw [decide_eq_true h, Bool.true_and]
theorem any_two (t : ByteArray) : ∀ L : List (List UInt8), (∀ p ∈ L, p.length = 2) → (L.map mkB).any (hasP t) = L.any (fun p => (bl t).take 2 == p)
  | [], _ => rfl
  | p :: L, h => by
    rw [List.map_cons, List.any_cons, List.any_cons, hasP_two (h p (List.mem_cons_self ..)), any_two t L fun q hq => h q (List.mem_cons_of_mem _ hq)]
theorem sgn_sg6 {t : ByteArray} {c : UInt8} {r : List UInt8} (hl : bl t = c :: r) : sgnN t = (sg6 (c :: r) : Nat) := by
  unfold sgnN
  rw [sg6_eq rfl, si_two, any_two t twoL (by decide), hl, (byte_hd hl).1]
  cases twoL.any (fun p => (c :: r).take 2 == p) with
  | true => rfl
  | false =>
    have := ones_any ⟨c.toNat, c.toNat_lt⟩
    simp only at this
    rw [show c.toNat.toUInt8 = c by simp] at this ⊢
    rw [← this]
    cases decide (Lib.indexByte (bl onesB) c < 0) <;> rfl
theorem ext_take (t : ByteArray) (n : Nat) : t.extract 0 n = mkB ((bl t).take n) := by
  apply bl_inj
  rw [bl_ext, bl_mkB]; rfl
theorem dot_same (t : ByteArray) (n : Nat) : hasP (t.extract n t.size) dotB = (((bl t).drop n).head? == some 46) := by
  unfold hasP
  rw [bl_toList, bl_toList dotB, bl_ext, rest_bl, List.drop_zero, Nat.sub_zero, exs]
  show (decide (1 ≤ t.size - n) && (((bl t).drop n).take 1 == [46])) = _
  have hlen : ((bl t).drop n).length = t.size - n := by rw [List.length_drop, bl_len]
  cases h : (bl t).drop n with
  | nil =>
    rw [h] at hlen
    rw [decide_eq_false (by rw [← hlen]; simp)]; rfl
  | cons c r =>
    rw [h, List.length_cons] at hlen
    rw [decide_eq_true (by omega), Bool.true_and, List.take_succ_cons, List.take_zero, List.head?_cons]
    rw [Bool.eq_iff_iff, beq_iff_eq, beq_iff_eq]
    exact ⟨fun e => by rw [(List.cons.inj e).1], fun e => by rw [Option.some.inj e]⟩
theorem uq6_of {w : ByteArray} {r : List UInt8} {m : Nat} (hw : bl w = 34 :: r.take m) (h1 : 1 ≤ m) (h2 : m ≤ r.length) (h3 : r[m - 1]? = some 34) : uq6 w = strD (r.length + 1) (r.take (m - 1)) := by
  have hsz : w.size = m + 1 := by rw [← bl_len, hw, List.length_cons, List.length_take]; omega
  have hlast : byteAt w (w.size - 1) = 34 := by
    have h9 : (bl w)[w.size - 1]? = some 34 := by
      rw [hw, hsz, show m + 1 - 1 = (m - 1) + 1 by omega, List.getElem?_cons_succ, List.getElem?_take_of_lt (by omega)]; exact h3
    exact byte_nth h9
  unfold uq6
  rw [decide_eq_false (by omega), (byte_hd hw).1, hlast, hw, hsz, List.drop_succ_cons, List.drop_zero, show m + 1 - 2 = m - 1 by omega, List.take_take, Nat.min_eq_left (by omega)]
  have hz : (r.take (m - 1)).length = m - 1 := by rw [List.length_take]; omega
  exact strD_fuel _ _ _ (by omega) (by omega)
theorem tk_o6 {t : ByteArray} {c : UInt8} {r : List UInt8} (hs : t.size ≤ 1000000000) (hl : bl t = c :: r) :
    (o6 (c :: r) = none → (tk1 t).2.2 = 0) ∧ ∀ x, o6 (c :: r) = some x → tk1 t = (x.1, mkB x.2.1, (x.2.2 : Int)) := by
  obtain ⟨hb, hpos⟩ := byte_hd hl
  have hw : wdN t = wrdL (c :: r) := by unfold wdN; rw [hl]
  have hsz : t.size = r.length + 1 := by rw [← bl_len, hl, List.length_cons]
  unfold tk1
  rw [o6, hb, hw, ext_take, hl, dot_same, hl]
  cases e1 : isLe (c.toNat : Nat) with
  | true =>
    simp only [cond_true]
    rcases Nat.lt_or_ge 40 (wrdL (c :: r)) with h | h
    · rw [decide_eq_true (show wrdL (c :: r) > 40 from h), decide_eq_true (show ((wrdL (c :: r) : Nat) : Int) > 40 by omega)]
      exact ⟨fun _ => rfl, fun x h => (by cases h)⟩
    · rw [decide_eq_false (show ¬ wrdL (c :: r) > 40 by omega), decide_eq_false (show ¬ ((wrdL (c :: r) : Nat) : Int) > 40 by omega)]
      exact ⟨fun h => (by cases h), fun x h => (by cases h; rfl)⟩
  | false =>
  cases e2 : isDi (c.toNat : Nat) with
  | true =>
    simp only [cond_true, cond_false]
    have hwp := wrd_pos (c := c) (r := r) (by rw [e2, Bool.or_true])
    have hwl := wrdL_le (c :: r)
    have hz : (mkB ((c :: r).take (wrdL (c :: r)))).size = wrdL (c :: r) := by rw [← bl_len, bl_mkB, List.length_take]; omega
    have hz0 : bl (mkB ((c :: r).take (wrdL (c :: r)))) = c :: r.take (wrdL (c :: r) - 1) := by
      rw [bl_mkB]
      generalize wrdL (c :: r) = W at hwp ⊢
      obtain ⟨W', rfl⟩ : ∃ W', W = W' + 1 := ⟨W - 1, by omega⟩
      rw [List.take_succ_cons]; rfl
    have hne : byteAt (mkB ((c :: r).take (wrdL (c :: r)))) 0 ≠ 45 := by
      rw [(byte_hd hz0).1]
      unfold isDi at e2
      rw [Bool.and_eq_true, decide_eq_true_eq, decide_eq_true_eq] at e2
      omega
    rw [num_same (by omega) hne]
    cases rnB (mkB ((c :: r).take (wrdL (c :: r)))) with
    | false => exact ⟨fun _ => rfl, fun x h => (by cases h)⟩
    | true =>
      cases ((c :: r).drop (wrdL (c :: r))).head? == some 46 with
      | true => exact ⟨fun _ => rfl, fun x h => (by cases h)⟩
      | false => exact ⟨fun h => (by cases h), fun x h => (by cases h; rfl)⟩
  | false =>
  rw [show (34 : Int) = ((34 : UInt8).toNat : Nat) from rfl, u8_int]
  cases e3 : c == 34 with
  | true =>
    obtain rfl := beq_iff_eq.1 e3
    simp only [cond_true, cond_false]
    have hq : qtN t = quoL r 1 := by unfold qtN; rw [hl]; rfl
    rw [hq]
    obtain ⟨s1, s2⟩ := quo_sym (r.length + 1) r 1 (Nat.lt_succ_self _)
    have hq2 : ∀ m, 1 ≤ m → m ≤ r.length → r[m - 1]? = some 34 → uq6 (t.extract 0 (1 + m)) = strD (r.length + 1) (r.take (m - 1)) ∧ (t.extract 0 (1 + m)).size ≤ 1000000000 := fun m k1 k2 k3 => by
      refine ⟨uq6_of (by rw [ext_take, bl_mkB, hl, show 1 + m = m + 1 by omega, List.take_succ_cons]) k1 k2 k3, ?_⟩
      rw [ByteArray.size_extract]; omega
    cases e4 : symD (r.length + 1) r with
    | some x =>
      obtain ⟨tx, m⟩ := x
      obtain ⟨k1, k2, k3, k4⟩ := symD_str _ _ _ _ e4
      obtain ⟨u1, u2⟩ := hq2 m k1 k2 k3
      have hz : (r.take (m - 1)).length = m - 1 := by rw [List.length_take]; omega
      rw [k4 _ (by omega)] at u1
      obtain ⟨v1, v2⟩ := uq_same u2
      rw [s1 tx m e4]
      have hE : uqE (t.extract 0 (1 + m)) = 0 := by unfold uqE; rw [v1, u1]; rfl
      rw [hE, v2 tx u1]
      refine ⟨fun h => (by cases h), fun x h => ?_⟩
      cases h
      show (3, mkB tx, ((1 + m : Nat) : Int)) = (3, mkB tx, ((m + 1 : Nat) : Int))
      rw [Nat.add_comm]
    | none =>
      refine ⟨fun _ => ?_, fun x h => (by cases h)⟩
      have hbad : ∀ n, uq6 (t.extract 0 n) = none → (t.extract 0 n).size ≤ 1000000000 → (bif uqE (t.extract 0 n) != 0 then ((0 : Int), ByteArray.mk #[], (0 : Int)) else (3, uqS (t.extract 0 n), (n : Int))).2.2 = 0 := fun n h1 h2 => by
        obtain ⟨v1, _⟩ := uq_same h2
        have hE : uqE (t.extract 0 n) = 10 := by unfold uqE; rw [v1, h1]; rfl
        rw [hE]; rfl
      rcases quo_rng (r.length + 1) r 1 (Nat.lt_succ_self _) with h | ⟨m, h, k1, k2, k3⟩
      · rw [h]
        refine hbad 0 ?_ ?_
        · have : (t.extract 0 0).size = 0 := by rw [ByteArray.size_extract]; omega
          unfold uq6
          rw [decide_eq_true (by omega)]; rfl
        · rw [ByteArray.size_extract]; omega
      · obtain ⟨u1, u2⟩ := hq2 m k1 k2 k3
        rw [s2 e4 m h k1 k2] at u1
        rw [h]
        exact hbad (1 + m) u1 u2
  | false =>
    simp only [cond_false]
    rw [sgn_sg6 hl, Int.toNat_natCast, ext_take, hl]
    cases e4 : sg6 (c :: r) == 0 with
    | true =>
      have : sg6 (c :: r) = 0 := beq_iff_eq.1 e4
      rw [this]
      exact ⟨fun _ => rfl, fun x h => (by cases h)⟩
    | false => exact ⟨fun h => (by cases h), fun x h => (by cases h; rfl)⟩
theorem wrd_app : ∀ (l r : List UInt8), (∀ b ∈ l, b ≠ 10) → wrdL (l ++ 10 :: r) = wrdL l
  | [], r, _ => rfl
  | b :: l, r, h => by
    rw [List.cons_append, wrdL, wrdL, wrd_app l r fun x hx => h x (List.mem_cons_of_mem _ hx)]
theorem decL_app {l : List UInt8} (hne : l ≠ []) (hn : ∀ b ∈ l, b ≠ 10) (r : List UInt8) : decL (l ++ 10 :: r) = decL l := by
  match l, hne with
  | b :: l, _ =>
    rw [List.cons_append, decL_cons, decL_cons]
    cases plB b with
    | true => rfl
    | false =>
    cases b == 92 with
    | false => rfl
    | true =>
    simp only [cond_true, cond_false]
    match l with
    | [] => rfl
    | d :: l =>
      simp only [List.cons_append]
      cases dec2 d with
      | some v => rfl
      | none =>
        simp only
        cases d == 120 with
        | false => rfl
        | true =>
          simp only [cond_true]
          match l with
          | [] =>
            cases r with
            | nil => rfl
            | cons y r =>
              simp only [List.nil_append]
              have : dec4 10 y = none := by unfold dec4; rw [show hexv 10 = none from rfl]
              rw [this]; rfl
          | [x] =>
            simp only [List.cons_append, List.nil_append]
            have : dec4 x 10 = none := by
              unfold dec4
              rw [show hexv 10 = none from rfl]
              cases hexv x <;> rfl
            rw [this]; rfl
          | x :: y :: l => rfl
theorem symD_app : ∀ (k : Nat) (l r : List UInt8), (∀ b ∈ l, b ≠ 10) → symD k (l ++ 10 :: r) = symD k l
  | 0, _, _, _ => rfl
  | k + 1, [], r, _ => rfl
  | k + 1, b :: l, r, h => by
    rw [symD, symD, decL_app (by simp) h, List.cons_append, List.head?_cons, List.head?_cons]
    cases some b == some 34 with
    | true => rfl
    | false =>
      simp only [cond_false]
      cases e : decL (b :: l) with
      | none => rfl
      | some x =>
        obtain ⟨c, n⟩ := x
        have hr := decL_rng e
        simp only
        rw [← List.cons_append, List.drop_append_of_le_length hr.2, symD_app k _ r fun x hx => h x (List.mem_of_mem_drop hx)]
theorem sg6_app (c : UInt8) (l r : List UInt8) (h : ∀ b ∈ c :: l, b ≠ 10) : sg6 (c :: l ++ 10 :: r) = sg6 (c :: l) := by
  rw [List.cons_append, sg6_eq rfl, sg6_eq rfl]
  cases l with
  | cons d l => rfl
  | nil =>
    have h1 : twoL.any (fun p => (c :: ([] ++ 10 :: r)).take 2 == p) = false := by
      rw [List.any_eq_false]
      intro p hp e
      rw [beq_iff_eq] at e
      have h10 : (twoL.all fun p => !p.contains 10) = true := by decide
      have := List.all_eq_true.1 h10 p hp
      rw [← e] at this
      simp at this
    have h2 : twoL.any (fun p => ([c] : List UInt8).take 2 == p) = false := by
      rw [List.any_eq_false]
      intro p hp e
      rw [beq_iff_eq] at e
      have h10 : (twoL.all fun p => p.length == 2) = true := by decide
      have := List.all_eq_true.1 h10 p hp
      rw [← e] at this
      simp at this
    rw [h1, h2]
theorem o6_app (c : UInt8) (l r : List UInt8) (h : ∀ b ∈ c :: l, b ≠ 10) : o6 (c :: l ++ 10 :: r) = o6 (c :: l) := by
  have hw := wrd_app (c :: l) r h
  have hwl := wrdL_le (c :: l)
  have hg := sg6_app c l r h
  have hgl := sg6_le (c :: l) (by simp)
  have ht : ∀ n, n ≤ (c :: l).length → (c :: l ++ 10 :: r).take n = (c :: l).take n := fun n hn => List.take_append_of_le_length hn
  have hs : symD ((l ++ 10 :: r).length + 1) (l ++ 10 :: r) = symD (l.length + 1) l := by
    rw [symD_app _ l r fun x hx => h x (List.mem_cons_of_mem _ hx)]
    exact symD_fuel _ _ _ (by rw [List.length_append]; omega) (by omega)
  have hd : ((((c :: l) ++ 10 :: r).drop (wrdL (c :: l))).head? == some 46) = (((c :: l).drop (wrdL (c :: l))).head? == some 46) := by
    rw [List.drop_append_of_le_length hwl]
    cases (c :: l).drop (wrdL (c :: l)) with
    | nil => rfl
    | cons d x => rfl
  rw [List.cons_append] at hw hg ht hd ⊢
  rw [o6, o6, hw, hg, hs, ht _ hwl, ht _ hgl, hd]
end Go.Proofs.YtbppdpbagmbmpaaGreatDoor
namespace Go.Proofs.YtbppdpbagmbmpaaGreatDoor
open Go Go.Dn Go.Proofs
attribute [local irreducible] funA vc
set_option maxRecDepth 20000
theorem key_same6 (l : List AV) : decide (l.map keyS = l.map keyS) = true := decide_eq_true rfl
theorem lnG_nil6 (k : Nat) {t : ByteArray} (h : bl t = []) : lnG k t = some [] := by
  cases k with
  | zero => rfl
  | succ k =>
    have : bl (trB t) = [] := by rw [tr_bl, h]; rfl
    have hz : (trB t).size = 0 := by rw [← bl_len, this]; rfl
    rw [lnG, empty_iff, decide_eq_true hz]; rfl
theorem sl_mk : slB = mkB [47, 47] := rfl
theorem ws_has (b : UInt8) : (bl wsB).contains b = (b == 32 || b == 9) := by
  rw [Bool.eq_iff_iff]
  simp [wsB, bl]
theorem tr_blank {b : UInt8} (l : List UInt8) (h : (b == 32 || b == 9) = true) : trB (mkB (b :: l)) = trB (mkB l) := by
  apply bl_inj
  rw [tr_bl, tr_bl, bl_mkB, bl_mkB]
  unfold Lib.trimLeftS
  rw [List.dropWhile_cons, ws_has, h]; rfl
theorem tr_id {b : UInt8} (l : List UInt8) (h : (b == 32 || b == 9) = false) : trB (mkB (b :: l)) = mkB (b :: l) := by
  apply bl_inj
  rw [tr_bl, bl_mkB]
  unfold Lib.trimLeftS
  rw [List.dropWhile_cons, ws_has, h]; rfl
theorem lnG_blank {b : UInt8} (k : Nat) (l : List UInt8) (h : (b == 32 || b == 9) = true) : lnG k (mkB (b :: l)) = lnG k (mkB l) := by
  cases k with
  | zero => rfl
  | succ k => rw [lnG, lnG, tr_blank l h]
theorem cmL_app : ∀ (l r : List UInt8), (∀ b ∈ l, b ≠ 10) → (r = [] ∨ ∃ m, r = 10 :: m) → cmL (l ++ r) = l.length
  | [], r, _, h => by
    rcases h with rfl | ⟨m, rfl⟩ <;> rfl
  | b :: l, r, hn, h => by
    rw [List.cons_append, cmL, cmL_app l r (fun x hx => hn x (List.mem_cons_of_mem _ hx)) h, show (b == 10) = false from beq_eq_false_iff_ne.2 (hn b (List.mem_cons_self ..))]; rfl
theorem two_app (c : UInt8) (l r : List UInt8) (h : r = [] ∨ ∃ m, r = 10 :: m) : ((c :: l ++ r).take 2 == [47, 47]) = ((c :: l).take 2 == [47, 47]) := by
  cases l with
  | cons d l => rfl
  | nil =>
    rcases h with rfl | ⟨m, rfl⟩
    · rfl
    · rw [Bool.eq_iff_iff, beq_iff_eq, beq_iff_eq]
      constructor
      · intro e
        simp at e
      · intro e
        simp at e
theorem line_ok : ∀ (n : Nat) (l : List UInt8) (K k : Nat) (rest : List UInt8) (ln : Int) (acc : List TK), l.length ≤ n → n ≤ 1000000000 → (∀ b ∈ l, b ≠ 10) → (rest = [] ∨ ∃ m, rest = 10 :: m) → (l ++ rest).length < K → l.length < k →
    (∀ toks, lnG k (mkB l) = some toks → rfL K (l ++ rest) ln acc = rfL K rest ln (acc ++ toks.map (atL ln))) ∧ (lnG k (mkB l) = none → (rfL K (l ++ rest) ln acc).2 = (ln, false))
  | n, [], K, k, rest, ln, acc, _, _, _, _, _, hk => by
    rw [lnG_nil6 k (bl_mkB [])]
    exact ⟨fun toks h => (by cases h; simp), fun h => (by cases h)⟩
  | 0, _ :: _, _, _, _, _, _, h, _, _, _, _, _ => by simp at h
  | n + 1, c :: r, 0, _, _, _, _, _, _, _, _, h, _ => by omega
  | n + 1, c :: r, _, 0, _, _, _, _, _, _, _, _, h => by omega
  | n + 1, c :: r, K + 1, k + 1, rest, ln, acc, hl, hn, h10, hr, hK, hk => by
    rw [List.length_cons] at hl hk
    rw [List.length_append, List.length_cons] at hK
    have hc10 : (c == 10) = false := beq_eq_false_iff_ne.2 (h10 c (List.mem_cons_self ..))
    have h10' : ∀ b ∈ r, b ≠ 10 := fun b hb => h10 b (List.mem_cons_of_mem _ hb)
    have hfu : ∀ a, rfL K rest ln a = rfL (K + 1) rest ln a := fun a => rfL_fuel _ _ _ _ _ (by omega) (by omega)
    have e0 : rfL (K + 1) (c :: r ++ rest) ln acc = bif c == 10 then rfL K (r ++ rest) (ln + 1) (endA acc ln) else bif c == 32 then rfL K (r ++ rest) ln acc else bif c == 9 then rfL K (r ++ rest) ln acc
      else bif (c :: r ++ rest).take 2 == [47, 47] then rfL K ((c :: r ++ rest).drop (cmL (c :: r ++ rest))) ln acc else match o6 (c :: r ++ rest) with
        | none => (acc, ln, false)
        | some x => rfL K ((c :: r ++ rest).drop x.2.2) ln (acc ++ [(x.1, mkB x.2.1, ln)]) := rfl
    rw [e0, hc10, cond_false]
    have blank : (c == 32 || c == 9) = true → (∀ toks, lnG (k + 1) (mkB (c :: r)) = some toks → rfL K (r ++ rest) ln acc = rfL (K + 1) rest ln (acc ++ toks.map (atL ln))) ∧ (lnG (k + 1) (mkB (c :: r)) = none → (rfL K (r ++ rest) ln acc).2 = (ln, false)) := fun h => by
      rw [lnG_blank _ _ h]
      obtain ⟨i1, i2⟩ := line_ok n r K (k + 1) rest ln acc (by omega) (by omega) h10' hr (by rw [List.length_append]; omega) (by omega)
      exact ⟨fun toks ht => (i1 toks ht).trans (hfu _), i2⟩
    cases e1 : c == 32 with
    | true => exact blank (by rw [e1]; rfl)
    | false =>
    cases e2 : c == 9 with
    | true => exact blank (by rw [e2, Bool.or_true])
    | false =>
    simp only [cond_false]
    have htr := tr_id r (b := c) (by rw [e1, e2]; rfl)
    have hne : ((mkB (c :: r)).toList == (ByteArray.mk #[]).toList) = false := by
      rw [empty_iff, decide_eq_false_iff_not, ← bl_len, bl_mkB]; simp
    rw [lnG, htr, hne, sl_mk, hasP_two rfl, bl_mkB, two_app c r rest hr]
    simp only [cond_false]
    cases e3 : (c :: r).take 2 == [47, 47] with
    | true =>
      rw [cmL_app (c :: r) rest h10 hr, List.drop_left]
      exact ⟨fun toks h => (by cases h; rw [List.map_nil, List.append_nil]; exact hfu _), fun h => (by cases h)⟩
    | false =>
      simp only [cond_false]
      have ho : o6 (c :: r ++ rest) = o6 (c :: r) := by
        rcases hr with rfl | ⟨m, rfl⟩
        · rw [List.append_nil]
        · exact o6_app c r m h10
      have hsz : (mkB (c :: r)).size = r.length + 1 := by rw [← bl_len, bl_mkB, List.length_cons]
      obtain ⟨t1, t2⟩ := tk_o6 (t := mkB (c :: r)) (by omega) (bl_mkB _)
      rw [ho]
      cases e4 : o6 (c :: r) with
      | none =>
        rw [t1 e4]
        exact ⟨fun toks h => (by cases h), fun _ => rfl⟩
      | some x =>
        have hx := o6_rng e4
        rw [List.length_cons] at hx
        rw [t2 x e4]
        have hn0 : (((x.2.2 : Nat) : Int) == 0) = false := beq_eq_false_iff_ne.2 (by omega)
        simp only [hn0, cond_false, Int.toNat_natCast]
        have hre : (mkB (c :: r)).extract x.2.2 (mkB (c :: r)).size = mkB ((c :: r).drop x.2.2) := by
          apply bl_inj
          rw [rest_bl, bl_mkB, bl_mkB]
        rw [hre, List.drop_append_of_le_length (by rw [List.length_cons]; omega)]
        obtain ⟨i1, i2⟩ := line_ok n ((c :: r).drop x.2.2) K k rest ln (acc ++ [(x.1, mkB x.2.1, ln)]) (by rw [List.length_drop, List.length_cons]; omega) (by omega) (fun b hb => h10 b (List.mem_of_mem_drop hb)) hr (by rw [List.length_append, List.length_drop, List.length_cons]; omega) (by rw [List.length_drop, List.length_cons]; omega)
        refine ⟨fun toks h => ?_, fun h => i2 (Option.map_eq_none_iff.1 h)⟩
        obtain ⟨l', h1, rfl⟩ := Option.map_eq_some_iff.1 h
        rw [i1 l' h1, hfu, List.append_assoc]; rfl
theorem endA_line {acc : List TK} {ln : Int} (h : ∀ x ∈ acc, x.2.2 < ln) (toks : List TX) : endA (acc ++ toks.map (atL ln)) ln = acc ++ (bif lastG toks then toks ++ [(4, semB)] else toks).map (atL ln) := by
  have he : endB (acc ++ toks.map (atL ln)) ln = lastG toks := by
    unfold endB lastG
    rw [List.getLast?_append, List.getLast?_map]
    cases ht : toks.getLast? with
    | some x =>
      show ((ln == ln) && endT x.1 x.2) = endT x.1 x.2
      rw [beq_self_eq_true, Bool.true_and]
    | none =>
      show (match acc.getLast? with | none => false | some x => (x.2.2 == ln) && endT x.1 x.2.1) = false
      cases ha : acc.getLast? with
      | none => rfl
      | some x =>
        have := h x (List.mem_of_getLast? ha)
        simp only
        rw [show (x.2.2 == ln) = false from beq_eq_false_iff_ne.2 (by omega), Bool.false_and]
  unfold endA
  rw [he]
  cases lastG toks with
  | true => simp only [cond_true, List.map_append, List.append_assoc]; rfl
  | false => rfl
theorem linL_split : ∀ l : List UInt8, ∃ x, (∀ b ∈ x, b ≠ 10) ∧ ((l = x ∧ linL l = [x]) ∨ ∃ m, l = x ++ 10 :: m ∧ linL l = x :: linL m)
  | [] => ⟨[], fun b hb => (by cases hb), .inl ⟨rfl, rfl⟩⟩
  | b :: l => by
    cases e : b == 10 with
    | true =>
      obtain rfl := beq_iff_eq.1 e
      exact ⟨[], fun b hb => (by cases hb), .inr ⟨l, rfl, rfl⟩⟩
    | false =>
      have hb : b ≠ 10 := beq_eq_false_iff_ne.1 e
      obtain ⟨x, h1, h2⟩ := linL_split l
      have h1' : ∀ c ∈ b :: x, c ≠ 10 := fun c hc => by
        rcases List.mem_cons.1 hc with rfl | hc
        · exact hb
        · exact h1 c hc
      rcases h2 with ⟨rfl, h3⟩ | ⟨m, rfl, h3⟩
      · exact ⟨b :: l, h1', .inl ⟨rfl, by rw [linL, e, h3]; rfl⟩⟩
      · exact ⟨b :: x, h1', .inr ⟨m, rfl, by rw [linL, e, h3]; rfl⟩⟩
theorem lines_ok : ∀ (n : Nat) (l : List UInt8) (K : Nat) (ln : Int) (acc : List TK), l.length ≤ n → n ≤ 1000000000 → l.length < K → (∀ x ∈ acc, x.2.2 ≤ ln) →
    (∀ toks, lexG ((linL l).map mkB) ln = some toks → (rfL K l (ln + 1) acc).2.2 = true ∧ endA (rfL K l (ln + 1) acc).1 (rfL K l (ln + 1) acc).2.1 = acc ++ toks) ∧ (lexG ((linL l).map mkB) ln = none → (rfL K l (ln + 1) acc).2 = (badG ((linL l).map mkB) ln, false)) := by
  intro n
  induction n with
  | zero =>
    intro l K ln acc hl _ hK ha
    have : l = [] := List.eq_nil_of_length_eq_zero (by omega)
    subst this
    obtain ⟨K', rfl⟩ : ∃ K', K = K' + 1 := ⟨K - 1, by omega⟩
    have h0 : lineG (mkB []) = some [] := by
      unfold lineG
      rw [lnG_nil6 _ (bl_mkB [])]; rfl
    have hlin : (linL []).map mkB = [mkB []] := rfl
    rw [hlin]
    have hg : lexG [mkB []] ln = some [] := by rw [lexG, h0]; rfl
    rw [hg]
    refine ⟨fun toks h => ?_, fun h => (by cases h)⟩
    cases h
    refine ⟨rfl, ?_⟩
    have : endA (acc ++ []) (ln + 1) = acc ++ [] := endA_line (acc := acc) (ln := ln + 1) (fun x hx => by have := ha x hx; omega) []
    rw [List.append_nil] at this
    show endA acc (ln + 1) = acc ++ []
    rw [List.append_nil]; exact this
  | succ n ih =>
    intro l K ln acc hl hn hK ha
    obtain ⟨x, h10, h⟩ := linL_split l
    have ha1 : ∀ x ∈ acc, x.2.2 < ln + 1 := fun x hx => by have := ha x hx; omega
    have hsz : (mkB x).size = x.length := by rw [← bl_len, bl_mkB]
    rcases h with ⟨rfl, h3⟩ | ⟨m, rfl, h3⟩
    · rw [h3, List.map_singleton]
      obtain ⟨i1, i2⟩ := line_ok (n + 1) l K (l.length + 1) [] (ln + 1) acc hl hn h10 (.inl rfl) (by rw [List.append_nil]; exact hK) (Nat.lt_succ_self _)
      rw [List.append_nil] at i1 i2
      rw [lexG, badG, lineG, hsz]
      cases e : lnG (l.length + 1) (mkB l) with
      | none =>
        exact ⟨fun toks h => (by cases h), fun _ => i2 e⟩
      | some toks =>
        rw [i1 toks e]
        simp only [Option.map_some, lexG, List.append_nil]
        obtain ⟨K', rfl⟩ : ∃ K', K = K' + 1 := ⟨K - 1, by omega⟩
        refine ⟨fun toks' h => ?_, fun h => (by cases h)⟩
        cases h
        exact ⟨rfl, endA_line ha1 toks⟩
    · rw [List.length_append, List.length_cons] at hl hK
      rw [h3, List.map_cons]
      obtain ⟨i1, i2⟩ := line_ok (n + 1) x K (x.length + 1) (10 :: m) (ln + 1) acc (by omega) hn h10 (.inr ⟨m, rfl⟩) (by rw [List.length_append, List.length_cons]; omega) (Nat.lt_succ_self _)
      rw [lexG, badG, lineG, hsz]
      cases e : lnG (x.length + 1) (mkB x) with
      | none => exact ⟨fun toks h => (by cases h), fun _ => i2 e⟩
      | some toks =>
        rw [i1 toks e]
        obtain ⟨K', rfl⟩ : ∃ K', K = K' + 1 := ⟨K - 1, by omega⟩
        have hstep : rfL (K' + 1) (10 :: m) (ln + 1) (acc ++ toks.map (atL (ln + 1))) = rfL K' m (ln + 1 + 1) (acc ++ (bif lastG toks then toks ++ [(4, semB)] else toks).map (atL (ln + 1))) := by
          rw [← endA_line ha1 toks]; rfl
        rw [hstep]
        simp only [Option.map_some]
        generalize (bif lastG toks then toks ++ [(4, semB)] else toks) = y
        obtain ⟨j1, j2⟩ := ih m K' (ln + 1) (acc ++ y.map (atL (ln + 1))) (by omega) (by omega) (by omega) (fun z hz => by
          rcases List.mem_append.1 hz with hz | hz
          · have := ha z hz; omega
          · obtain ⟨w, _, rfl⟩ := List.mem_map.1 hz
            exact Int.le_refl _)
        refine ⟨fun toks' h => ?_, fun h => j2 (Option.map_eq_none_iff.1 h)⟩
        obtain ⟨z, h4, rfl⟩ := Option.map_eq_some_iff.1 h
        obtain ⟨k1, k2⟩ := j1 z h4
        exact ⟨k1, by rw [k2, List.append_assoc]⟩
theorem simLs6 (κ : Kp) (s : ByteArray) : SimCall (Pr κ) 3 [.lit (.string s)] [] fun r _ => r = .bool true :=
  fun_sound (BCu κ).ok (BCu κ).mono (Eq.mpr (yLs6 κ s _) (by
    have hz := cut_size s
    generalize cutB s = t at hz ⊢
    obtain ⟨q1, q2⟩ := lexA_eq (s := t) (by omega)
    obtain ⟨r1, r2⟩ := lines_ok (bl t).length (bl t) (t.size + 1) 0 [] (Nat.le_refl _) (by rw [bl_len]; omega) (by rw [bl_len]; omega) (fun x hx => by cases hx)
    have hst : ([AV.lit (.string t)], ([] : List Dn.Obj)) = stL6c t := rfl
    have hsd : sideL6c t := by show t.size ≤ 10000; omega
    refine ⟨t, rfl, trivial, ?_⟩
    cases hg : lexG (linB t) 0 with
    | none =>
      obtain ⟨a, ha⟩ := q2 hg
      have h2 : (lx6 t).2 = (badG (linB t) 0, false) := r2 hg
      rw [ha]
      refine brn_iff.2 ⟨fun e => (by cases e), fun _ => ⟨t, hst, hsd, ?_⟩⟩
      rw [h2]
      refine brn_iff.2 ⟨fun e => (by cases e), fun _ => brn_iff.2 ⟨fun _ => rfl, fun e => ?_⟩⟩
      exact absurd rfl (beq_eq_false_iff_ne.1 e)
    | some l =>
      obtain ⟨h1, h2⟩ := r1 l hg
      have h1 : (lx6 t).2.2 = true := h1
      have h2 : lx6T t = l := by rw [List.nil_append] at h2; exact h2
      have hlen : l.length ≤ 1000000000 := lexG_len (n := 1000000000) (by rw [sumL_lin]; omega) hg
      rw [q1 l hg]
      refine brn_iff.2 ⟨fun _ => ⟨t, hst, hsd, ?_⟩, fun e => (by cases e)⟩
      rw [h1, h2]
      refine brn_iff.2 ⟨fun _ => cnd_iff.2 ⟨?_, brn_iff.2 ⟨fun _ => rfl, fun e => ?_⟩⟩, fun e => (by cases e)⟩
      · rw [decide_eq_true_eq, List.length_take]
        simp only [List.length_map]
        omega
      · rw [key_same6] at e; cases e))
end Go.Proofs.YtbppdpbagmbmpaaGreatDoor
