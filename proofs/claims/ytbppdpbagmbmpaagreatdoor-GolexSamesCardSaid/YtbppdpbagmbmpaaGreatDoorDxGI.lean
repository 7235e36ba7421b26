import Derived.Test.YtbppdpbagmbmpaaGreatDoorDxGH
namespace Go.Proofs.YtbppdpbagmbmpaaGreatDoor
open Go Go.Dn Go.Proofs
attribute [local irreducible] funA vc
set_option maxRecDepth 20000
abbrev TX : Type := Int × ByteArray
abbrev atL (ln : Int) (x : TX) : TK := (x.1, x.2, ln)
def lnG : Nat → ByteArray → Option (List TX)
  | 0, _ => some []
  | k + 1, t =>
    bif (trB t).toList == (ByteArray.mk #[]).toList then some []
    else bif hasP (trB t) slB then some []
    else bif (tk1 (trB t)).2.2 == 0 then none
    else (lnG k ((trB t).extract (tk1 (trB t)).2.2.toNat (trB t).size)).map (((tk1 (trB t)).1, (tk1 (trB t)).2.1) :: ·)
def lastG (l : List TX) : Bool := match l.getLast? with | none => false | some x => endT x.1 x.2
def lineG (t : ByteArray) : Option (List TX) := (lnG (t.size + 1) t).map fun l => bif lastG l then l ++ [(4, semB)] else l
def lexG : List ByteArray → Int → Option (List TK)
  | [], _ => some []
  | l :: ls, ln => match lineG l with
    | none => none
    | some x => (lexG ls (ln + 1)).map (x.map (atL (ln + 1)) ++ ·)
def badG : List ByteArray → Int → Int
  | [], ln => ln
  | l :: ls, ln => match lineG l with
    | none => ln + 1
    | some _ => badG ls (ln + 1)
theorem tr_pos {t : ByteArray} (h : ((trB t).toList == (ByteArray.mk #[]).toList) = false) : 0 < (trB t).size := by
  rw [empty_iff, decide_eq_false_iff_not] at h
  omega
theorem tk_pos {s : ByteArray} (h0 : 0 < s.size) (h : ((tk1 s).2.2 == 0) = false) : 1 ≤ (tk1 s).2.2.toNat ∧ (tk1 s).2.2.toNat ≤ s.size := by
  have h1 := tk1_rng h0
  have h2 : (tk1 s).2.2 ≠ 0 := fun e => by rw [e] at h; cases h
  omega
theorem rest_le {t : ByteArray} (h : ((trB t).toList == (ByteArray.mk #[]).toList) = false) (h2 : ((tk1 (trB t)).2.2 == 0) = false) : ((trB t).extract (tk1 (trB t)).2.2.toNat (trB t).size).size + 1 ≤ t.size := by
  have h1 := tk_pos (tr_pos h) h2
  have h3 := trB_le t
  rw [exs]; omega
theorem lnG_len : ∀ (k : Nat) (t : ByteArray) (l : List TX), lnG k t = some l → l.length ≤ t.size
  | 0, _, _, h => by cases h; exact Nat.zero_le _
  | k + 1, t, l, h => by
    rw [lnG] at h
    cases e1 : (trB t).toList == (ByteArray.mk #[]).toList with
    | true => rw [e1] at h; cases h; exact Nat.zero_le _
    | false =>
    cases e2 : hasP (trB t) slB with
    | true => rw [e1, e2] at h; cases h; exact Nat.zero_le _
    | false =>
    cases e3 : (tk1 (trB t)).2.2 == 0 with
    | true => rw [e1, e2, e3] at h; cases h
    | false =>
      rw [e1, e2, e3] at h
      simp only [cond_false, Option.map_eq_some_iff] at h
      obtain ⟨l', h1, rfl⟩ := h
      have := lnG_len k _ l' h1
      have := rest_le e1 e3
      rw [List.length_cons]; omega
theorem lnF_eq (l1 : Int) : ∀ (k : Nat) (t : ByteArray) (acc : List TK) (la : TK), acc.length + t.size < 300000 →
    (∀ l, lnG k t = some l → lnF l1 k t acc la = (acc ++ l.map (atL l1), (l.map (atL l1)).getLast?.getD la, none)) ∧ (lnG k t = none → ∃ a la', lnF l1 k t acc la = (a, la', some 160))
  | 0, _, acc, la, _ => ⟨fun l h => (by cases h; simp [lnF]), fun h => (by cases h)⟩
  | k + 1, t, acc, la, hb => by
    rw [lnG, lnF]
    cases e1 : (trB t).toList == (ByteArray.mk #[]).toList with
    | true => exact ⟨fun l h => (by cases h; simp), fun h => (by cases h)⟩
    | false =>
    cases e2 : hasP (trB t) slB with
    | true => exact ⟨fun l h => (by cases h; simp), fun h => (by cases h)⟩
    | false =>
    cases e3 : (tk1 (trB t)).2.2 == 0 with
    | true => exact ⟨fun l h => (by cases h), fun _ => ⟨acc, la, rfl⟩⟩
    | false =>
      have hr := rest_le e1 e3
      have e4 : (((acc.length : Nat) : Int) == 300000) = false := beq_eq_false_iff_ne.2 (by omega)
      rw [e4]
      simp only [cond_false]
      have ih := lnF_eq l1 k ((trB t).extract (tk1 (trB t)).2.2.toNat (trB t).size) (acc ++ [((tk1 (trB t)).1, (tk1 (trB t)).2.1, l1)]) ((tk1 (trB t)).1, (tk1 (trB t)).2.1, l1) (by rw [List.length_append, List.length_singleton]; omega)
      refine ⟨fun l h => ?_, fun h => ih.2 (Option.map_eq_none_iff.1 h)⟩
      obtain ⟨l', h1, rfl⟩ := Option.map_eq_some_iff.1 h
      rw [ih.1 l' h1]
      simp only [List.map_cons, List.append_assoc, List.singleton_append, List.getLast?_cons, Option.getD_some]
def sumL (ls : List ByteArray) : Nat := (ls.map fun l => l.size + 1).sum
theorem l1L_ok {ln : Int} (h0 : 0 ≤ ln) (h1 : ln < 1000000000) : l1L ln = ln + 1 := wrap_ok (by omega) (by omega)
theorem lexF_eq : ∀ (ls : List ByteArray) (ln : Int) (acc : List TK), acc.length + sumL ls < 300000 → 0 ≤ ln → ln + ls.length < 1000000000 →
    (∀ l, lexG ls ln = some l → lexF ls ln acc = (acc ++ l, ln + ls.length, none)) ∧ (lexG ls ln = none → ∃ a, lexF ls ln acc = (a, badG ls ln, some 160))
  | [], ln, acc, _, _, _ => ⟨fun l h => (by cases h; simp [lexF]), fun h => (by cases h)⟩
  | t :: ls, ln, acc, hb, h0, h1 => by
    rw [sumL, List.map_cons, List.sum_cons] at hb
    rw [List.length_cons] at h1
    rw [lexG, badG, lexF, l1L_ok h0 (by omega)]
    have q := lnF_eq (ln + 1) (t.size + 1) t acc zT (by omega)
    rw [lineG]
    cases e : lnG (t.size + 1) t with
    | none =>
      obtain ⟨a, la, e2⟩ := q.2 e
      rw [e2]
      exact ⟨fun l h => (by cases h), fun _ => ⟨a, rfl⟩⟩
    | some l =>
      have hl := lnG_len _ _ _ e
      rw [q.1 l e]
      simp only [Option.map_some]
      have he : endT ((l.map (atL (ln + 1))).getLast?.getD zT).1 ((l.map (atL (ln + 1))).getLast?.getD zT).2.1 = lastG l := by
        rw [List.getLast?_map]
        unfold lastG
        cases l.getLast? with
        | none => rfl
        | some x => rfl
      rw [he]
      have fin : ∀ x : List TX, x.length ≤ t.size + 1 → (∀ l', (lexG ls (ln + 1)).map (x.map (atL (ln + 1)) ++ ·) = some l' → lexF ls (ln + 1) (acc ++ x.map (atL (ln + 1))) = (acc ++ l', ln + ((t :: ls).length : Nat), none)) ∧ ((lexG ls (ln + 1)).map (x.map (atL (ln + 1)) ++ ·) = none → ∃ a, lexF ls (ln + 1) (acc ++ x.map (atL (ln + 1))) = (a, badG ls (ln + 1), some 160)) := fun x hx => by
        have ih := lexF_eq ls (ln + 1) (acc ++ x.map (atL (ln + 1))) (by rw [List.length_append, List.length_map]; unfold sumL; omega) (by omega) (by omega)
        refine ⟨fun l' h => ?_, fun h => ih.2 (Option.map_eq_none_iff.1 h)⟩
        obtain ⟨l2, h2, rfl⟩ := Option.map_eq_some_iff.1 h
        rw [ih.1 l2 h2, List.append_assoc, List.length_cons]
        rw [show ln + 1 + (ls.length : Int) = ln + ((ls.length + 1 : Nat) : Int) by omega]
      cases lastG l with
      | true =>
        have e4 : ((((acc ++ l.map (atL (ln + 1))).length : Nat) : Int) == 300000) = false := beq_eq_false_iff_ne.2 (by rw [List.length_append, List.length_map]; omega)
        simp only [cond_true, e4, cond_false]
        have := fin (l ++ [(4, semB)]) (by rw [List.length_append, List.length_singleton]; omega)
        simp only [List.map_append, List.map_cons, List.map_nil, ← List.append_assoc] at this ⊢
        exact this
      | false =>
        simp only [cond_false]
        exact fin l (by omega)
end Go.Proofs.YtbppdpbagmbmpaaGreatDoor
namespace Go.Proofs.YtbppdpbagmbmpaaGreatDoor
open Go Go.Dn Go.Proofs
attribute [local irreducible] funA vc
set_option maxRecDepth 20000
def mkB (l : List UInt8) : ByteArray := ⟨l.toArray⟩
theorem mkB_bl (s : ByteArray) : mkB (bl s) = s := by cases s; simp [mkB, bl]
theorem bl_mkB (l : List UInt8) : bl (mkB l) = l := by simp [mkB, bl]
theorem bl_ext (s : ByteArray) (a b : Nat) : bl (s.extract a b) = ((bl s).drop a).take (b - a) := by
  simp [bl, ByteArray.data_extract]
theorem bl_inj {s t : ByteArray} (h : bl s = bl t) : s = t := by rw [← mkB_bl s, h, mkB_bl]
def linL : List UInt8 → List (List UInt8)
  | [] => [[]]
  | b :: l => bif b == 10 then [] :: linL l else match linL l with
    | [] => [[b]]
    | x :: r => (b :: x) :: r
theorem linL_ne : ∀ l, linL l ≠ []
  | [] => by simp [linL]
  | b :: l => by
    rw [linL]
    cases b == 10 with
    | true => simp
    | false =>
      simp only [cond_false]
      split <;> simp
theorem linL_ex (l : List UInt8) : ∃ x r, linL l = x :: r := by
  cases h : linL l with
  | nil => exact absurd h (linL_ne l)
  | cons x r => exact ⟨x, r, rfl⟩
theorem linL_none : ∀ {l : List UInt8}, Lib.indexByte l 10 < 0 → linL l = [l]
  | [], _ => rfl
  | b :: l, h => by
    rw [Lib.indexByte] at h
    rw [linL]
    by_cases hb : (b == 10) = true
    · rw [if_pos hb] at h; omega
    · rw [if_neg hb] at h
      rw [Bool.not_eq_true] at hb
      have hl : Lib.indexByte l 10 < 0 := by
        have := Lib.indexByte_ge l 10
        by_cases h2 : (Lib.indexByte l 10 == -1) = true
        · rw [beq_iff_eq] at h2; omega
        · rw [if_neg h2] at h; omega
      rw [hb, linL_none hl]; rfl
theorem linL_some : ∀ {l : List UInt8} {o : Nat}, Lib.indexByte l 10 = o → linL l = l.take o :: linL (l.drop (o + 1))
  | [], o, h => by rw [Lib.indexByte] at h; omega
  | b :: l, o, h => by
    rw [Lib.indexByte] at h
    rw [linL]
    by_cases hb : (b == 10) = true
    · rw [if_pos hb] at h
      obtain rfl : o = 0 := by omega
      rw [hb]; rfl
    · rw [if_neg hb] at h
      rw [Bool.not_eq_true] at hb
      have hg := Lib.indexByte_ge l 10
      by_cases h2 : (Lib.indexByte l 10 == -1) = true
      · rw [if_pos h2] at h; omega
      · rw [if_neg h2] at h
        have h3 : Lib.indexByte l 10 ≠ -1 := fun e => h2 (beq_iff_eq.2 e)
        obtain ⟨o', rfl⟩ : ∃ o', o = o' + 1 := ⟨o - 1, by omega⟩
        have ih := linL_some (l := l) (o := o') (by omega)
        rw [hb, ih]; rfl
theorem linF_eq : ∀ (k : Nat) (s : ByteArray), s.size ≤ k → linF k s = (linL (bl s)).map mkB
  | 0, s, h => by
    have h0 : bl s = [] := List.eq_nil_of_length_eq_zero (by rw [bl_len]; omega)
    rw [linF, h0]
    show [s] = [mkB []]
    rw [← h0, mkB_bl]
  | k + 1, s, h => by
    rw [linF]
    obtain ⟨h1, h2⟩ := nlI_rng s
    cases e : decide (nlI s < 0) with
    | true =>
      rw [linL_none (of_decide_eq_true e), List.map_singleton, mkB_bl]; rfl
    | false =>
      have e2 := of_decide_eq_false e
      obtain ⟨o, ho⟩ : ∃ o : Nat, nlI s = o := ⟨(nlI s).toNat, by omega⟩
      rw [linL_some (o := o) ho, List.map_cons, cond_false, ho]
      have h3 : ((o : Int) + 1).toNat = o + 1 := by omega
      rw [h3, Int.toNat_natCast, linF_eq k _ (by rw [exs]; omega), bl_ext]
      have h4 : mkB ((bl s).take o) = s.extract 0 o := bl_inj (by rw [bl_mkB, bl_ext]; rfl)
      rw [h4, List.take_of_length_le (by rw [List.length_drop, bl_len]; omega)]
theorem linL_len : ∀ l, (linL l).length = l.count 10 + 1
  | [] => rfl
  | b :: l => by
    have ih := linL_len l
    obtain ⟨x, r, hx⟩ := linL_ex l
    rw [linL, List.count_cons]
    cases e : b == 10 with
    | true => simp only [cond_true, List.length_cons, if_true]; omega
    | false => rw [hx] at ih ⊢; simp only [cond_false, List.length_cons, Bool.false_eq_true, if_false] at ih ⊢; omega
theorem linL_sum : ∀ l, ((linL l).map fun x => x.length + 1).sum = l.length + 1
  | [] => rfl
  | b :: l => by
    have ih := linL_sum l
    obtain ⟨x, r, hx⟩ := linL_ex l
    rw [linL]
    cases e : b == 10 with
    | true => simp only [cond_true, List.map_cons, List.sum_cons, List.length_nil, List.length_cons, ih]; omega
    | false => rw [hx] at ih ⊢; simp only [cond_false, List.map_cons, List.sum_cons, List.length_cons] at ih ⊢; omega
theorem sumL_lin (s : ByteArray) : sumL ((linL (bl s)).map mkB) = s.size + 1 := by
  unfold sumL
  rw [List.map_map, ← bl_len, ← linL_sum]
  congr 2
abbrev linB (s : ByteArray) : List ByteArray := (linL (bl s)).map mkB
theorem lexA_eq {s : ByteArray} (h : s.size ≤ 250000) : (∀ l, lexG (linB s) 0 = some l → lexA s = (l, ((linL (bl s)).length : Int), none)) ∧ (lexG (linB s) 0 = none → ∃ a, lexA s = (a, badG (linB s) 0, some 160)) := by
  have h1 : decide ((s.size : Int) > 1048576) = false := decide_eq_false (by omega)
  have hl : (linL (bl s)).length ≤ s.size + 1 := by
    rw [linL_len, ← bl_len]
    have := List.count_le_length (a := (10 : UInt8)) (l := bl s)
    omega
  have h2 := lexF_eq (linB s) 0 [] (by rw [sumL_lin, List.length_nil]; omega) (Int.le_refl _) (by rw [List.length_map]; omega)
  rw [List.length_map] at h2
  unfold lexA lexR
  rw [h1, cond_false, linF_eq _ _ (Nat.le_refl _)]
  refine ⟨fun l e => ?_, fun e => h2.2 e⟩
  have := h2.1 l e
  rw [List.nil_append, Int.zero_add] at this
  exact this
theorem tr_bl (t : ByteArray) : bl (trB t) = Lib.trimLeftS (bl t) (bl wsB) := bl_mkB _
theorem rest_bl (s : ByteArray) (n : Nat) : bl (s.extract n s.size) = (bl s).drop n := by
  rw [bl_ext, List.take_of_length_le (by rw [List.length_drop, bl_len]; omega)]
theorem bl_toList (s : ByteArray) : s.toList = bl s := ByteArray.toList_eq ..
end Go.Proofs.YtbppdpbagmbmpaaGreatDoor
