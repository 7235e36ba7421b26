import Derived.Test.YtbppdpbagmbmpaaGreatDoorDxGH
namespace Go.Proofs.YtbppdpbagmbmpaaGreatDoor
open Go Go.Dn Go.Proofs
attribute [local irreducible] funA vc
set_option maxRecDepth 20000
abbrev TX : Type := Int × ByteArray
abbrev atL (ln : Int) (x : TX) : TK := (x.1, x.2, ln)
def lnG : Nat → ByteArray → Option (List TX)
  | 0, _ => some []
  | k + 1, t =>
    bif (trB t).toList == (ByteArray.mk #[]).toList then some []
    else bif hasP (trB t) slB then some []
    else bif (tk1 (trB t)).2.2 == 0 then none
    else (lnG k ((trB t).extract (tk1 (trB t)).2.2.toNat (trB t).size)).map (((tk1 (trB t)).1, (tk1 (trB t)).2.1) :: ·)
def lastG (l : List TX) : Bool := match l.getLast? with | none => false | some x => endT x.1 x.2
def lineG (t : ByteArray) : Option (List TX) := (lnG (t.size + 1) t).map fun l => bif lastG l then l ++ [(4, semB)] else l
def lexG : List ByteArray → Int → Option (List TK)
  | [], _ => some []
  | l :: ls, ln => match lineG l with
    | none => none
    | some x => (lexG ls (ln + 1)).map (x.map (atL (ln + 1)) ++ ·)
def badG : List ByteArray → Int → Int
  | [], ln => ln
  | l :: ls, ln => match lineG l with
    | none => ln + 1
    | some _ => badG ls (ln + 1)
theorem tr_pos {t : ByteArray} (h : ((trB t).toList == (ByteArray.mk #[]).toList) = false) : 0 < (trB t).size := by
  rw [empty_iff, decide_eq_false_iff_not] at h
  omega
theorem tk_pos {s : ByteArray} (h0 : 0 < s.size) (h : ((tk1 s).2.2 == 0) = false) : 1 ≤ (tk1 s).2.2.toNat ∧ (tk1 s).2.2.toNat ≤ s.size := by
  have h1 := tk1_rng h0
  have h2 : (tk1 s).2.2 ≠ 0 := fun e => by rw [e] at h; cases h
  omega
theorem rest_le {t : ByteArray} (h : ((trB t).toList == (ByteArray.mk #[]).toList) = false) (h2 : ((tk1 (trB t)).2.2 == 0) = false) : ((trB t).extract (tk1 (trB t)).2.2.toNat (trB t).size).size + 1 ≤ t.size := by
  have h1 := tk_pos (tr_pos h) h2
  have h3 := trB_le t
  rw [exs]; omega
theorem lnG_len : ∀ (k : Nat) (t : ByteArray) (l : List TX), lnG k t = some l → l.length ≤ t.size
  | 0, _, _, h => by cases h; exact Nat.zero_le _
  | k + 1, t, l, h => by
    rw [lnG] at h
    cases e1 : (trB t).toList == (ByteArray.mk #[]).toList with
    | true => rw [e1] at h; cases h; exact Nat.zero_le _
    | false =>
    cases e2 : hasP (trB t) slB with
    | true => rw [e1, e2] at h; cases h; exact Nat.zero_le _
    | false =>
    cases e3 : (tk1 (trB t)).2.2 == 0 with
    | true => rw [e1, e2, e3] at h; cases h
    | false =>
      rw [e1, e2, e3] at h
      simp only [cond_false, Option.map_eq_some_iff] at h
      obtain ⟨l', h1, rfl⟩ := h
      have := lnG_len k _ l' h1
      have := rest_le e1 e3
      rw [List.length_cons]; omega
theorem lnF_eq (l1 : Int) : ∀ (k : Nat) (t : ByteArray) (acc : List TK) (la : TK), acc.length + t.size < 300000 →
    (∀ l, lnG k t = some l → lnF l1 k t acc la = (acc ++ l.map (atL l1), (l.map (atL l1)).getLast?.getD la, none)) ∧ (lnG k t = none → ∃ a la', lnF l1 k t acc la = (a, la', some 160))
  | 0, _, acc, la, _ => ⟨fun l h => (by cases h; simp [lnF]), fun h => (by cases h)⟩
  | k + 1, t, acc, la, hb => by
    rw [lnG, lnF]
    cases e1 : (trB t).toList == (ByteArray.mk #[]).toList with
    | true => exact ⟨fun l h => (by cases h; simp), fun h => (by cases h)⟩
    | false =>
    cases e2 : hasP (trB t) slB with
    | true => exact ⟨fun l h => (by cases h; simp), fun h => (by cases h)⟩
    | false =>
    cases e3 : (tk1 (trB t)).2.2 == 0 with
    | true => exact ⟨fun l h => (by cases h), fun _ => ⟨acc, la, rfl⟩⟩
    | false =>
      have hr := rest_le e1 e3
      have e4 : (((acc.length : Nat) : Int) == 300000) = false := beq_eq_false_iff_ne.2 (by omega)
      rw [e4]
      simp only [cond_false]
      have ih := lnF_eq l1 k ((trB t).extract (tk1 (trB t)).2.2.toNat (trB t).size) (acc ++ [((tk1 (trB t)).1, (tk1 (trB t)).2.1, l1)]) ((tk1 (trB t)).1, (tk1 (trB t)).2.1, l1) (by rw [List.length_append, List.length_singleton]; omega)
      refine ⟨fun l h => ?_, fun h => ih.2 (Option.map_eq_none_iff.1 h)⟩
      obtain ⟨l', h1, rfl⟩ := Option.map_eq_some_iff.1 h
      rw [ih.1 l' h1]
      simp only [List.map_cons, List.append_assoc, List.singleton_append, List.getLast?_cons, Option.getD_some]
theorem lineG_len {t : ByteArray} {l : List TX} (h : lineG t = some l) : l.length ≤ t.size + 1 := by
  obtain ⟨l', h1, rfl⟩ := Option.map_eq_some_iff.1 h
  have := lnG_len _ _ _ h1
  cases lastG l' with
  | true => simp only [cond_true, List.length_append, List.length_singleton]; omega
  | false => simp only [cond_false]; omega
def sumL (ls : List ByteArray) : Nat := (ls.map fun l => l.size + 1).sum
theorem l1L_ok {ln : Int} (h0 : 0 ≤ ln) (h1 : ln < 1000000000) : l1L ln = ln + 1 := wrap_ok (by omega) (by omega)
theorem lexF_eq : ∀ (ls : List ByteArray) (ln : Int) (acc : List TK), acc.length + sumL ls < 300000 → 0 ≤ ln → ln + ls.length < 1000000000 →
    (∀ l, lexG ls ln = some l → lexF ls ln acc = (acc ++ l, ln + ls.length, none)) ∧ (lexG ls ln = none → ∃ a, lexF ls ln acc = (a, badG ls ln, some 160))
  | [], ln, acc, _, _, _ => ⟨fun l h => (by cases h; simp [lexF]), fun h => (by cases h)⟩
  | t :: ls, ln, acc, hb, h0, h1 => by
    rw [sumL, List.map_cons, List.sum_cons] at hb
    rw [List.length_cons] at h1
    rw [lexG, badG, lexF, l1L_ok h0 (by omega)]
    have q := lnF_eq (ln + 1) (t.size + 1) t acc zT (by omega)
    rw [lineG]
    cases e : lnG (t.size + 1) t with
    | none =>
      obtain ⟨a, la, e2⟩ := q.2 e
      rw [e2]
      exact ⟨fun l h => (by cases h), fun _ => ⟨a, rfl⟩⟩
    | some l =>
      have hl := lnG_len _ _ _ e
      rw [q.1 l e]
      simp only [Option.map_some]
      have he : endT ((l.map (atL (ln + 1))).getLast?.getD zT).1 ((l.map (atL (ln + 1))).getLast?.getD zT).2.1 = lastG l := by
        rw [List.getLast?_map]
        unfold lastG
        cases l.getLast? with
        | none => rfl
        | some x => rfl
      rw [he]
      have fin : ∀ x : List TX, x.length ≤ t.size + 1 → (∀ l', (lexG ls (ln + 1)).map (x.map (atL (ln + 1)) ++ ·) = some l' → lexF ls (ln + 1) (acc ++ x.map (atL (ln + 1))) = (acc ++ l', ln + ((t :: ls).length : Nat), none)) ∧ ((lexG ls (ln + 1)).map (x.map (atL (ln + 1)) ++ ·) = none → ∃ a, lexF ls (ln + 1) (acc ++ x.map (atL (ln + 1))) = (a, badG ls (ln + 1), some 160)) := fun x hx => by
        have ih := lexF_eq ls (ln + 1) (acc ++ x.map (atL (ln + 1))) (by rw [List.length_append, List.length_map]; unfold sumL; omega) (by omega) (by omega)
        refine ⟨fun l' h => ?_, fun h => ih.2 (Option.map_eq_none_iff.1 h)⟩
        obtain ⟨l2, h2, rfl⟩ := Option.map_eq_some_iff.1 h
        rw [ih.1 l2 h2, List.append_assoc, List.length_cons]
        rw [show ln + 1 + (ls.length : Int) = ln + ((ls.length + 1 : Nat) : Int) by omega]
      cases lastG l with
      | true =>
        have e4 : ((((acc ++ l.map (atL (ln + 1))).length : Nat) : Int) == 300000) = false := beq_eq_false_iff_ne.2 (by rw [List.length_append, List.length_map]; omega)
        simp only [cond_true, e4, cond_false]
        have := fin (l ++ [(4, semB)]) (by rw [List.length_append, List.length_singleton]; omega)
        simp only [List.map_append, List.map_cons, List.map_nil, ← List.append_assoc] at this ⊢
        exact this
      | false =>
        simp only [cond_false]
        exact fin l (by omega)
end Go.Proofs.YtbppdpbagmbmpaaGreatDoor
namespace Go.Proofs.YtbppdpbagmbmpaaGreatDoor
open Go Go.Dn Go.Proofs
attribute [local irreducible] funA vc
set_option maxRecDepth 20000
def mkB (l : List UInt8) : ByteArray := ⟨l.toArray⟩
theorem mkB_bl (s : ByteArray) : mkB (bl s) = s := by cases s; simp [mkB, bl]
theorem bl_mkB (l : List UInt8) : bl (mkB l) = l := by simp [mkB, bl]
theorem bl_ext (s : ByteArray) (a b : Nat) : bl (s.extract a b) = ((bl s).drop a).take (b - a) := by
  simp [bl, ByteArray.data_extract]
theorem bl_inj {s t : ByteArray} (h : bl s = bl t) : s = t := by rw [← mkB_bl s, h, mkB_bl]
def linL : List UInt8 → List (List UInt8)
  | [] => [[]]
  | b :: l => bif b == 10 then [] :: linL l else match linL l with
    | [] => [[b]]
    | x :: r => (b :: x) :: r
theorem linL_ne : ∀ l, linL l ≠ []
  | [] => by simp [linL]
  | b :: l => by
    rw [linL]
    cases b == 10 with
    | true => simp
    | false =>
      simp only [cond_false]
      split <;> simp
theorem linL_ex (l : List UInt8) : ∃ x r, linL l = x :: r := by
  cases h : linL l with
  | nil => exact absurd h (linL_ne l)
  | cons x r => exact ⟨x, r, rfl⟩
theorem linL_none : ∀ {l : List UInt8}, Lib.indexByte l 10 < 0 → linL l = [l]
  | [], _ => rfl
  | b :: l, h => by
    rw [Lib.indexByte] at h
    rw [linL]
    by_cases hb : (b == 10) = true
    · rw [if_pos hb] at h; omega
    · rw [if_neg hb] at h
      rw [Bool.not_eq_true] at hb
      have hl : Lib.indexByte l 10 < 0 := by
        have := Lib.indexByte_ge l 10
        by_cases h2 : (Lib.indexByte l 10 == -1) = true
        · rw [beq_iff_eq] at h2; omega
        · rw [if_neg h2] at h; omega
      rw [hb, linL_none hl]; rfl
theorem linL_some : ∀ {l : List UInt8} {o : Nat}, Lib.indexByte l 10 = o → linL l = l.take o :: linL (l.drop (o + 1))
  | [], o, h => by rw [Lib.indexByte] at h; omega
  | b :: l, o, h => by
    rw [Lib.indexByte] at h
    rw [linL]
    by_cases hb : (b == 10) = true
    · rw [if_pos hb] at h
      obtain rfl : o = 0 := by omega
      rw [hb]; rfl
    · rw [if_neg hb] at h
      rw [Bool.not_eq_true] at hb
      have hg := Lib.indexByte_ge l 10
      by_cases h2 : (Lib.indexByte l 10 == -1) = true
      · rw [if_pos h2] at h; omega
      · rw [if_neg h2] at h
        have h3 : Lib.indexByte l 10 ≠ -1 := fun e => h2 (beq_iff_eq.2 e)
        obtain ⟨o', rfl⟩ : ∃ o', o = o' + 1 := ⟨o - 1, by omega⟩
        have ih := linL_some (l := l) (o := o') (by omega)
        rw [hb, ih]; rfl
theorem linF_eq : ∀ (k : Nat) (s : ByteArray), s.size ≤ k → linF k s = (linL (bl s)).map mkB
  | 0, s, h => by
    have h0 : bl s = [] := List.eq_nil_of_length_eq_zero (by rw [bl_len]; omega)
    rw [linF, h0]
    show [s] = [mkB []]
    rw [← h0, mkB_bl]
  | k + 1, s, h => by
    rw [linF]
    obtain ⟨h1, h2⟩ := nlI_rng s
    cases e : decide (nlI s < 0) with
    | true =>
      rw [linL_none (of_decide_eq_true e), List.map_singleton, mkB_bl]; rfl
    | false =>
      have e2 := of_decide_eq_false e
      obtain ⟨o, ho⟩ : ∃ o : Nat, nlI s = o := ⟨(nlI s).toNat, by omega⟩
      rw [linL_some (o := o) ho, List.map_cons, cond_false, ho]
      have h3 : ((o : Int) + 1).toNat = o + 1 := by omega
      rw [h3, Int.toNat_natCast, linF_eq k _ (by rw [exs]; omega), bl_ext]
      have h4 : mkB ((bl s).take o) = s.extract 0 o := bl_inj (by rw [bl_mkB, bl_ext]; rfl)
      rw [h4, List.take_of_length_le (by rw [List.length_drop, bl_len]; omega)]
theorem linL_len : ∀ l, (linL l).length = l.count 10 + 1
  | [] => rfl
  | b :: l => by
    have ih := linL_len l
    obtain ⟨x, r, hx⟩ := linL_ex l
    rw [linL, List.count_cons]
    cases e : b == 10 with
    | true => simp only [cond_true, List.length_cons, if_true]; omega
    | false => rw [hx] at ih ⊢; simp only [cond_false, List.length_cons, Bool.false_eq_true, if_false] at ih ⊢; omega
theorem linL_sum : ∀ l, ((linL l).map fun x => x.length + 1).sum = l.length + 1
  | [] => rfl
  | b :: l => by
    have ih := linL_sum l
    obtain ⟨x, r, hx⟩ := linL_ex l
    rw [linL]
    cases e : b == 10 with
    | true => simp only [cond_true, List.map_cons, List.sum_cons, List.length_nil, List.length_cons, ih]; omega
    | false => rw [hx] at ih ⊢; simp only [cond_false, List.map_cons, List.sum_cons, List.length_cons] at ih ⊢; omega
theorem sumL_lin (s : ByteArray) : sumL ((linL (bl s)).map mkB) = s.size + 1 := by
  unfold sumL
  rw [List.map_map, ← bl_len, ← linL_sum]
  congr 2
abbrev linB (s : ByteArray) : List ByteArray := (linL (bl s)).map mkB
theorem lexA_eq {s : ByteArray} (h : s.size ≤ 250000) : (∀ l, lexG (linB s) 0 = some l → lexA s = (l, ((linL (bl s)).length : Int), none)) ∧ (lexG (linB s) 0 = none → ∃ a, lexA s = (a, badG (linB s) 0, some 160)) := by
  have h1 : decide ((s.size : Int) > 1048576) = false := decide_eq_false (by omega)
  have hl : (linL (bl s)).length ≤ s.size + 1 := by
    rw [linL_len, ← bl_len]
    have := List.count_le_length (a := (10 : UInt8)) (l := bl s)
    omega
  have h2 := lexF_eq (linB s) 0 [] (by rw [sumL_lin, List.length_nil]; omega) (Int.le_refl _) (by rw [List.length_map]; omega)
  rw [List.length_map] at h2
  unfold lexA lexR
  rw [h1, cond_false, linF_eq _ _ (Nat.le_refl _)]
  refine ⟨fun l e => ?_, fun e => h2.2 e⟩
  have := h2.1 l e
  rw [List.nil_append, Int.zero_add] at this
  exact this
theorem lexG_len : ∀ {ls : List ByteArray} {ln : Int} {toks : List TK} {n : Nat}, sumL ls ≤ n → lexG ls ln = some toks → toks.length ≤ n
  | [], ln, toks, n, _, h => by cases h; exact Nat.zero_le _
  | t :: ls, ln, toks, n, hb, h => by
    rw [sumL, List.map_cons, List.sum_cons] at hb
    rw [lexG] at h
    cases e : lineG t with
    | none => rw [e] at h; cases h
    | some l =>
      rw [e] at h
      obtain ⟨r, h1, rfl⟩ := Option.map_eq_some_iff.1 h
      have hl := lineG_len e
      have := lexG_len (n := n - (t.size + 1)) (by unfold sumL; omega) h1
      rw [List.length_append, List.length_map]; omega
theorem tr_bl (t : ByteArray) : bl (trB t) = Lib.trimLeftS (bl t) (bl wsB) := bl_mkB _
theorem rest_bl (s : ByteArray) (n : Nat) : bl (s.extract n s.size) = (bl s).drop n := by
  rw [bl_ext, List.take_of_length_le (by rw [List.length_drop, bl_len]; omega)]
theorem bl_toList (s : ByteArray) : s.toList = bl s := ByteArray.toList_eq ..
end Go.Proofs.YtbppdpbagmbmpaaGreatDoor
namespace Go.Proofs.YtbppdpbagmbmpaaGreatDoor
open Go Go.Dn Go.Proofs
attribute [local irreducible] funA vc
set_option maxRecDepth 20000
def cutB (s : ByteArray) : ByteArray := s.extract 0 (min s.size 3000)
def gCt : List AV → Option (Bool × AV)
  | [.lit (.string s)] => some (true, .lit (.string (cutB s)))
  | _ => none
end Go.Proofs.YtbppdpbagmbmpaaGreatDoor
namespace Go.Proofs.YtbppdpbagmbmpaaGreatDoor
open Go Go.Dn Go.Proofs
attribute [local irreducible] funA vc
set_option maxRecDepth 20000
def mA (s : ByteArray) (i : Nat) : Int := (((bl s).take i).count 59 : Nat)
structure ACn where
  s : ByteArray
  ok : Bool
  toks : List AV
  pl : Int
  e : Int
  i : Nat
end Go.Proofs.YtbppdpbagmbmpaaGreatDoor
namespace Go.Proofs.YtbppdpbagmbmpaaGreatDoor
open Go Go.Dn Go.Proofs
attribute [local irreducible] funA vc
set_option maxRecDepth 20000
theorem nth_avT : ∀ (l : List TK) (i : Nat) (x : TK), l[i]? = some x → nth (l.map avT) i = avT x
  | [], i, x, h => by cases h
  | y :: l, 0, x, h => by cases h; rfl
  | y :: l, i + 1, x, h => nth_avT l i x h
structure ADn where
  toks : List TK
  pl : Int
  n : Int
  m : Int
  i : Nat
end Go.Proofs.YtbppdpbagmbmpaaGreatDoor
namespace Go.Proofs.YtbppdpbagmbmpaaGreatDoor
open Go Go.Dn Go.Proofs
attribute [local irreducible] funA vc
set_option maxRecDepth 20000
theorem cut_size (s : ByteArray) : (cutB s).size ≤ 3000 := by
  unfold cutB
  rw [ByteArray.size_extract]; omega
end Go.Proofs.YtbppdpbagmbmpaaGreatDoor
namespace Go.Proofs.YtbppdpbagmbmpaaGreatDoor
open Go Go.Dn Go.Proofs
attribute [local irreducible] funA vc
set_option maxRecDepth 20000
noncomputable def BHu (κ : Kp) : EB := EB.hush (BRe κ) [15, 12]
theorem xAl (κ : Kp) (l m : List AV) (i : Int) (I : Nat → S → Prop) (n : Nat) (K : Exit → S → Prop) : (vc (BHu κ).E 12 15 none 0 (loopCode (Pr κ).toProgram 15 4) (sp 41 [(0, .lst 31 l), (1, .lst 31 m), (5, .int i)] []) (loopK (BHu κ).E 15 4 0 I n K)) = (
  brn (decide (i < (↑(l.length) : Int))) (cnd (decide ((0 : Int) ≤ i) && decide (i < (↑(l.length) : Int))) (cnd (decide ((0 : Int) ≤ i) && decide (i < (↑(m.length)
  : Int))) (brn (toInt (fld (nth l i.toNat) 0) != toInt (fld (nth m i.toNat) 0)) (K Exit.ret (sp 41 [(4, AV.bool false)] [])) (cnd (decide ((0 : Int) ≤ i) &&
  decide (i < (↑(l.length) : Int))) (cnd (decide ((0 : Int) ≤ i) && decide (i < (↑(m.length) : Int))) (brn (!ByteArray.toList (toStr (fld (nth l i.toNat) 1)) ==
  ByteArray.toList (toStr (fld (nth m i.toNat) 1))) (K Exit.ret (sp 41 [(4, AV.bool false)] [])) (∃ (m_1 : Nat), m_1 < n ∧ I m_1 (sp 41 [(0, AV.lst 31 l), (1,
  AV.lst 31 m), (5, AV.int (IntKind.wrap IntKind.i64 (i + (1 : Int))))] [])))))))) (K (Exit.exit 0) (sp 41 [] []))) := by kernel_rfl
def keyA (x : AV) : Int × List UInt8 := (toInt (fld x 0), (toStr (fld x 1)).toList)
theorem nth_get' : ∀ (l : List AV) (i : Nat) (h : i < l.length), nth l i = l[i]
  | [], i, h => by cases h
  | a :: l, 0, _ => rfl
  | a :: l, i + 1, h => nth_get' l i (Nat.lt_of_succ_lt_succ h)
abbrev stAl (a : List AV × List AV × Nat) : S := sp 41 [(0, .lst 31 a.1), (1, .lst 31 a.2.1), (5, .int a.2.2)] []
def sideAl (a : List AV × List AV × Nat) : Prop := a.1.length = a.2.1.length ∧ a.1.length ≤ 1000000000 ∧ a.2.2 ≤ a.1.length
def outAl (a : List AV × List AV × Nat) : Out (Exit × S) := .brn (decide ((a.1.drop a.2.2).map keyA = (a.2.1.drop a.2.2).map keyA)) (.one (.exit 0, sp 41 [] [])) (.one (.ret, sp 41 [(4, .bool false)] []))
theorem lAl (κ : Kp) : LoopOk (BHu κ).E 12 15 4 (loopE 0 stAl sideAl outAl) := by
  refine loopE_ok (fun a => a.1.length - a.2.2) ?_
  rintro ⟨l, m, i⟩ K ⟨h1, h2, h3⟩ ho
  simp only at h1 h2 h3
  rw [show (BHu κ).E.P = Pr κ from rfl]
  refine Eq.mpr (xAl κ l m i _ _ K) ?_
  have ho : brn (decide ((l.drop i).map keyA = (m.drop i).map keyA)) (K (.exit 0) (sp 41 [] [])) (K .ret (sp 41 [(4, .bool false)] [])) := ho
  rw [brn_iff, decide_eq_true_eq, decide_eq_false_iff_not] at ho
  rw [Int.toNat_natCast, brn_iff]
  refine ⟨fun h => ?_, fun h => ?_⟩
  · have hi : i < l.length := by have := of_decide_eq_true h; omega
    have hi2 : i < m.length := by omega
    have hc : (decide ((0 : Int) ≤ (i : Int)) && decide ((i : Int) < (l.length : Int))) = true := by simp; omega
    have hc2 : (decide ((0 : Int) ≤ (i : Int)) && decide ((i : Int) < (m.length : Int))) = true := by simp; omega
    rw [List.drop_eq_getElem_cons hi, List.drop_eq_getElem_cons hi2, List.map_cons, List.map_cons, ← nth_get' l i hi, ← nth_get' m i hi2, List.cons.injEq] at ho
    have w3 : IntKind.wrap .i64 ((i : Int) + 1) = ((i + 1 : Nat) : Int) := by rw [wrap_ok (by omega) (by omega)]; rfl
    rw [w3]
    refine cnd_iff.2 ⟨hc, cnd_iff.2 ⟨hc2, brn_iff.2 ⟨fun e => ho.2 fun e2 => ?_, fun e => cnd_iff.2 ⟨hc, cnd_iff.2 ⟨hc2, brn_iff.2 ⟨fun e3 => ho.2 fun e2 => ?_, fun e3 => ?_⟩⟩⟩⟩⟩⟩
    · rw [bne_iff_ne] at e
      exact e (Prod.mk.inj e2.1).1
    · rw [Bool.not_eq_true', beq_eq_false_iff_ne] at e3
      exact e3 (Prod.mk.inj e2.1).2
    · rw [bne_eq_false_iff_eq] at e
      rw [Bool.not_eq_false', beq_iff_eq] at e3
      refine ⟨l.length - (i + 1), by simp only; omega, ⟨l, m, i + 1⟩, rfl, ⟨h1, h2, hi⟩, rfl, ?_⟩
      have hk : keyA (nth l i) = keyA (nth m i) := Prod.ext e e3
      show brn (decide ((l.drop (i + 1)).map keyA = (m.drop (i + 1)).map keyA)) (K (.exit 0) (sp 41 [] [])) (K .ret (sp 41 [(4, .bool false)] []))
      rw [brn_iff, decide_eq_true_eq, decide_eq_false_iff_not]
      exact ⟨fun e4 => ho.1 ⟨hk, e4⟩, fun e4 => ho.2 fun e5 => e4 e5.2⟩
  · have hi : l.length ≤ i := by have := of_decide_eq_false h; omega
    refine ho.1 ?_
    rw [List.drop_eq_nil_of_le hi, List.drop_eq_nil_of_le (by omega)]
noncomputable def BAm (κ : Kp) : EB := (BHu κ).loop (lAl κ)
theorem yAl (κ : Kp) (l m : List AV) (K : AV → List Dn.Obj → Prop) : (funA (BAm κ).E 12 15 [.lst 31 l, .lst 31 m] [] K) = (
  brn ((↑(l.length) : Int) != (↑(m.length) : Int)) (K (AV.bool false) []) (loopCode (Pg.toProgram (Env.P (EB.E (BHu κ)))) 15 4 = loopCode (Pg.toProgram (Env.P
  (EB.E (BHu κ)))) 15 4 ∧ ∃ (a : List AV × List AV × Nat), sp 41 [(0, AV.lst 31 l), (1, AV.lst 31 m), (5, AV.int 0)] [] = stAl a ∧ sideAl a ∧ brn (decide
  (List.map keyA (List.drop a.2.2 a.1) = List.map keyA (List.drop a.2.2 a.2.1))) (K (AV.bool true) []) (K (AV.bool false) []))) := by kernel_rfl
def gAl : List AV → Option (Bool × AV)
  | [.lst 31 l, .lst 31 m] => some (decide (l.length ≤ 1000000000), .bool (decide (l.map keyA = m.map keyA)))
  | _ => none
theorem pAl (κ : Kp) : PureOk (BAm κ).E 12 15 gAl := by
  intro args x hh
  unfold gAl at hh
  split at hh
  · rename_i l m
    simp only [Option.some.injEq, Prod.mk.injEq, decide_eq_true_eq] at hh
    obtain ⟨h1, rfl⟩ := hh
    refine ⟨_, rfl, rfl, Eq.mpr (yAl κ l m _) ?_⟩
    rw [brn_iff]
    refine ⟨fun e => ?_, fun e => ⟨rfl, ⟨l, m, 0⟩, rfl, ⟨?_, h1, Nat.zero_le _⟩, ?_⟩⟩
    · rw [bne_iff_ne] at e
      rw [decide_eq_false]
      intro e2
      have := congrArg List.length e2
      rw [List.length_map, List.length_map] at this
      exact e (by rw [this])
    · rw [bne_eq_false_iff_eq] at e
      simp only
      omega
    · rw [List.drop_zero, List.drop_zero, brn_iff]
      exact ⟨fun e => (by simp only at e; rw [e]), fun e => (by simp only at e; rw [e])⟩
  · cases hh
noncomputable def BAl (κ : Kp) : EB := (BAm κ).pure (pAl κ)
end Go.Proofs.YtbppdpbagmbmpaaGreatDoor
namespace Go.Proofs.YtbppdpbagmbmpaaGreatDoor
open Go Go.Dn Go.Proofs
attribute [local irreducible] funA vc
set_option maxRecDepth 20000
theorem bl_app (s t : ByteArray) : bl (s ++ t) = bl s ++ bl t := by
  show (s ++ t).data.toList = _
  rw [ByteArray.data_append, Array.toList_append]
theorem nble {a : Nat} (h : a ≤ 9223372036854775807) : Nat.ble a 9223372036854775807 = true := Nat.ble_eq_true_of_le h
end Go.Proofs.YtbppdpbagmbmpaaGreatDoor
namespace Go.Proofs.YtbppdpbagmbmpaaGreatDoor
open Go Go.Dn Go.Proofs
attribute [local irreducible] funA vc
set_option maxRecDepth 20000
theorem yLt (κ : Kp) (c : Int) (K : AV → List Dn.Obj → Prop) : (funA (BAl κ).E 12 36 [.lit (.int .u8 c)] [] K) = (
  brn (decide (c ≥ (97 : Int))) (brn (decide (c ≤ (122 : Int))) (K (AV.bool true) []) (brn (decide (c ≥ (65 : Int))) (brn (decide (c ≤ (90 : Int))) (K (AV.bool
  true) []) (K (AV.bool (c == (95 : Int))) [])) (K (AV.bool (c == (95 : Int))) []))) (brn (decide (c ≥ (65 : Int))) (brn (decide (c ≤ (90 : Int))) (K (AV.bool
  true) []) (K (AV.bool (c == (95 : Int))) [])) (K (AV.bool (c == (95 : Int))) []))) := by kernel_rfl
theorem pLt (κ : Kp) : PureOk (BAl κ).E 12 36 gLe := by
  intro args x hh
  unfold gLe at hh
  split at hh
  · rename_i c
    simp only [Option.some.injEq, Prod.mk.injEq, true_and] at hh
    subst hh
    refine ⟨_, rfl, rfl, Eq.mpr (yLt κ c _) ?_⟩
    unfold isLe
    cases decide (c ≥ 97) <;> cases decide (c ≤ 122) <;> cases decide (c ≥ 65) <;> cases decide (c ≤ 90) <;> exact rfl
  · cases hh
noncomputable def BLt (κ : Kp) : EB := (BAl κ).pure (pLt κ)
theorem yDt (κ : Kp) (c : Int) (K : AV → List Dn.Obj → Prop) : (funA (BLt κ).E 12 37 [.lit (.int .u8 c)] [] K) = (
  brn (decide (c ≥ (48 : Int))) (K (AV.bool (decide (c ≤ (57 : Int)))) []) (K (AV.bool false) [])) := by kernel_rfl
theorem pDt (κ : Kp) : PureOk (BLt κ).E 12 37 gDi := by
  intro args x hh
  unfold gDi at hh
  split at hh
  · rename_i c
    simp only [Option.some.injEq, Prod.mk.injEq, true_and] at hh
    subst hh
    refine ⟨_, rfl, rfl, Eq.mpr (yDt κ c _) ?_⟩
    unfold isDi
    cases decide (c ≥ 48) <;> exact rfl
  · cases hh
noncomputable def BLd (κ : Kp) : EB := (BLt κ).pure (pDt κ)
theorem xDg (κ : Kp) (n : Int) (s : ByteArray) (I : Nat → S → Prop) (N : Nat) (K : Exit → S → Prop) : (vc (BLd κ).E 12 83 none 0 (loopCode (Pr κ).toProgram 83 2) (sp 21 [(0, .lit (.int .u64 n)), (3, .lit (.string s))] []) (loopK (BLd κ).E 83 2 0 I N K)) = (
  brn (ByteArray.toList s == ByteArray.toList { data := #[] }) (cnd (Nat.ble (1 + ByteArray.size s) 9223372036854775807) (∃ (m : Nat), m < N ∧ I m (sp 21 [(0,
  AV.lit (Value.int IntKind.u64 (IntKind.wrap IntKind.u64 (Int.tdiv n (10 : Int))))), (3, AV.lit (Value.string (bytesOf [AV.lit (Value.int IntKind.u8
  (IntKind.wrap IntKind.u8 (IntKind.wrap IntKind.u64 ((48 : Int) + Int.tmod n (10 : Int)))))] ++ s)))] []))) (brn (decide (n > (0 : Int))) (cnd (Nat.ble (1 +
  ByteArray.size s) 9223372036854775807) (∃ (m : Nat), m < N ∧ I m (sp 21 [(0, AV.lit (Value.int IntKind.u64 (IntKind.wrap IntKind.u64 (Int.tdiv n (10 :
  Int))))), (3, AV.lit (Value.string (bytesOf [AV.lit (Value.int IntKind.u8 (IntKind.wrap IntKind.u8 (IntKind.wrap IntKind.u64 ((48 : Int) + Int.tmod n (10 :
  Int)))))] ++ s)))] []))) (K (Exit.exit 0) (sp 21 [(3, AV.str s)] [])))) := by kernel_rfl
def dgR (n : Nat) (s : List UInt8) : List UInt8 := bif s.isEmpty then Lib.decDigits n else bif n == 0 then s else Lib.decDigits n ++ s
theorem dgR_step (n : Nat) (s : List UInt8) (h : s = [] ∨ 0 < n) : dgR n s = dgR (n / 10) (UInt8.ofNat (48 + n % 10) :: s) := by
  have h1 : dgR n s = Lib.decDigits n ++ s := by
    unfold dgR
    rcases h with rfl | h
    · simp
    · cases e : s.isEmpty with
      | true => rw [List.isEmpty_iff.1 e]; simp
      | false => rw [show (n == 0) = false from beq_eq_false_iff_ne.2 (by omega)]; rfl
  rw [h1, Lib.decDigits]
  unfold dgR
  by_cases h2 : n < 10
  · rw [dif_pos h2, show n / 10 = 0 by omega, show n % 10 = n by omega]
    rfl
  · rw [dif_neg h2, show (n / 10 == 0) = false from beq_eq_false_iff_ne.2 (by omega)]
    simp
theorem bytes_one (x : Nat) (s : ByteArray) : bytesOf [.lit (.int .u8 (x : Int))] ++ s = mkB (UInt8.ofNat x :: bl s) := by
  apply bl_inj
  rw [bl_app, bl_mkB]
  rfl
def dz (n : Nat) : Nat := bif n == 0 then 0 else Lib.nDigits n
theorem dz_step {n : Nat} (h : 0 < n) : dz (n / 10) + 1 ≤ dz n := by
  unfold dz
  rw [show (n == 0) = false from beq_eq_false_iff_ne.2 (by omega), cond_false]
  have e := Lib.nDigits.eq_def n
  by_cases h2 : n < 10
  · rw [dif_pos h2] at e
    rw [e, show n / 10 = 0 by omega]
    exact Nat.le_refl _
  · rw [dif_neg h2] at e
    rw [e, show (n / 10 == 0) = false from beq_eq_false_iff_ne.2 (by omega)]
    exact Nat.le_refl _
theorem nDigits_le : ∀ (k n : Nat), n < 10 ^ (k + 1) → Lib.nDigits n ≤ k + 1
  | 0, n, h => by
    rw [Lib.nDigits, dif_pos (by simpa using h)]
    exact Nat.le_refl _
  | k + 1, n, h => by
    rw [Lib.nDigits]
    by_cases h2 : n < 10
    · rw [dif_pos h2]; omega
    · rw [dif_neg h2]
      have := nDigits_le k (n / 10) (by rw [Nat.pow_succ] at h; omega)
      omega
theorem dz_le {n : Nat} (h : n < 18446744073709551616) : dz n ≤ 20 := by
  unfold dz
  cases n == 0 with
  | true => exact Nat.zero_le _
  | false => exact nDigits_le 19 n (by omega)
theorem wrap_u64 {n : Nat} (h : n < 18446744073709551616) : IntKind.wrap .u64 (n : Int) = n := by
  unfold IntKind.wrap
  simp only [IntKind.bits, IntKind.signed]
  have e : (n : Int) % 18446744073709551616 = n := Int.emod_eq_of_lt (by omega) (by omega)
  simp [e]
theorem wrapb {n : Nat} (h : n < 256) : IntKind.wrap .u8 (n : Int) = n := by
  unfold IntKind.wrap
  simp only [IntKind.bits, IntKind.signed]
  have e : (n : Int) % 256 = n := Int.emod_eq_of_lt (by omega) (by omega)
  simp [e]
theorem nil_bl {s : ByteArray} (h : s.size = 0) : bl s = [] := List.eq_nil_of_length_eq_zero (by rw [bl_len]; exact h)
abbrev stDgi (x : Nat × ByteArray) : S := sp 21 [(0, .lit (.int .u64 x.1)), (3, .lit (.string x.2))] []
def sideDgi (x : Nat × ByteArray) : Prop := x.1 < 18446744073709551616 ∧ x.2.size + dz x.1 ≤ 100
def outDgi (x : Nat × ByteArray) : Out (Exit × S) := .one (.exit 0, sp 21 [(3, .lit (.string (mkB (dgR x.1 (bl x.2)))))] [])
theorem lDgi (κ : Kp) : LoopOk (BLd κ).E 12 83 2 (loopE 0 stDgi sideDgi outDgi) := by
  refine loopE_ok (fun x => x.1 + (bif (bl x.2).isEmpty then 1 else 0)) ?_
  rintro ⟨n, s⟩ K ⟨h1, h2⟩ ho
  simp only at h1 h2
  rw [show (BLd κ).E.P = Pr κ from rfl]
  refine Eq.mpr (xDg κ n s _ _ K) ?_
  have ho : K (.exit 0) (sp 21 [(3, .lit (.string (mkB (dgR n (bl s)))))] []) := ho
  have e1 : Int.tdiv (n : Int) 10 = ((n / 10 : Nat) : Int) := rfl
  have e2 : (48 : Int) + Int.tmod (n : Int) 10 = ((48 + n % 10 : Nat) : Int) := by
    rw [show Int.tmod (n : Int) 10 = ((n % 10 : Nat) : Int) from rfl]; omega
  rw [e1, e2, wrap_u64 (show n / 10 < 18446744073709551616 by omega), wrap_u64 (show 48 + n % 10 < 18446744073709551616 by omega), wrapb (show 48 + n % 10 < 256 by omega), bytes_one]
  have next : ((bl s).isEmpty = true ∨ 0 < n) → cnd (Nat.ble (1 + s.size) 9223372036854775807) (∃ m, m < n + (bif (bl s).isEmpty then 1 else 0) ∧ invOf stDgi sideDgi outDgi (fun x => x.1 + (bif (bl x.2).isEmpty then 1 else 0)) K m (sp 21 [(0, .lit (.int .u64 (n / 10 : Nat))), (3, .lit (.string (mkB (UInt8.ofNat (48 + n % 10) :: bl s))))] [])) := fun h => by
    refine cnd_iff.2 ⟨nble (by omega), ?_⟩
    have hst := dgR_step n (bl s) (h.imp List.isEmpty_iff.1 id)
    have hm : n / 10 < n + (bif (bl s).isEmpty then 1 else 0) := by
      rcases h with h | h
      · rw [h]; simp only [cond_true]; omega
      · omega
    refine ⟨n / 10, hm, ⟨n / 10, mkB (UInt8.ofNat (48 + n % 10) :: bl s)⟩, rfl, ⟨by simp only; omega, ?_⟩, ?_, ?_⟩
    · simp only
      rw [← bl_len, bl_mkB, List.length_cons, bl_len]
      rcases Nat.eq_zero_or_pos n with h0 | h0
      · subst h0
        have h : (bl s).isEmpty = true := h.resolve_right (by omega)
        have h : s.size = 0 := by rw [← bl_len, List.isEmpty_iff.1 h]; rfl
        rw [show dz (0 / 10) = 0 from rfl]; omega
      · have := dz_step h0; omega
    · simp only
      rw [bl_mkB]; rfl
    · show K (.exit 0) (sp 21 [(3, .lit (.string (mkB (dgR (n / 10) (bl (mkB (UInt8.ofNat (48 + n % 10) :: bl s)))))))] [])
      rw [bl_mkB, ← hst]; exact ho
  rw [empty_iff, brn_iff, decide_eq_true_eq, decide_eq_false_iff_not]
  refine ⟨fun e => next (.inl (by rw [nil_bl e]; rfl)), fun e => ?_⟩
  rw [brn_iff]
  refine ⟨fun e3 => next (.inr (by have := of_decide_eq_true e3; omega)), fun e3 => ?_⟩
  have h0 : n = 0 := by have := of_decide_eq_false e3; omega
  have hne : (bl s).isEmpty = false := by
    cases h : (bl s).isEmpty with
    | false => rfl
    | true => exact absurd (by rw [← bl_len, List.isEmpty_iff.1 h]; rfl) e
  have : mkB (dgR n (bl s)) = s := by
    unfold dgR
    rw [hne, h0]; exact mkB_bl s
  rw [this] at ho
  exact ho
noncomputable def BDg (κ : Kp) : EB := (BLd κ).loop (lDgi κ)
theorem yDg (κ : Kp) (n : Int) (K : AV → List Dn.Obj → Prop) : (funA (BDg κ).E 12 83 [.lit (.int .u64 n)] [] K) = (
  loopCode (Pg.toProgram (Env.P (EB.E (BLd κ)))) 83 2 = loopCode (Pg.toProgram (Env.P (EB.E (BLd κ)))) 83 2 ∧ ∃ (a : Nat × ByteArray), sp 21 [(0, AV.lit (Value.int
  IntKind.u64 n)), (3, AV.str { data := #[] })] [] = stDgi a ∧ sideDgi a ∧ K (AV.str (mkB (dgR a.1 (bl a.2)))) []) := by kernel_rfl
def gDg : List AV → Option (Bool × AV)
  | [.lit (.int .u64 n)] => some (decide (0 ≤ n) && decide (n < 18446744073709551616), .lit (.string (mkB (Lib.decDigits n.toNat))))
  | _ => none
theorem pDg (κ : Kp) : PureOk (BDg κ).E 12 83 gDg := by
  intro args x hh
  unfold gDg at hh
  split at hh
  · rename_i n
    simp only [Option.some.injEq, Prod.mk.injEq, Bool.and_eq_true, decide_eq_true_eq] at hh
    obtain ⟨⟨h0, h1⟩, rfl⟩ := hh
    obtain ⟨k, rfl⟩ : ∃ k : Nat, n = k := ⟨n.toNat, by omega⟩
    refine ⟨_, rfl, rfl, Eq.mpr (yDg κ k _) ⟨rfl, ⟨k, ⟨#[]⟩⟩, rfl, ⟨by simp only; omega, ?_⟩, ?_⟩⟩
    · have := dz_le (n := k) (by omega)
      show 0 + dz k ≤ 100
      omega
    · rfl
  · cases hh
noncomputable def BDh (κ : Kp) : EB := (BDg κ).pure (pDg κ)
theorem yNu (κ : Kp) (n : Int) (K : AV → List Dn.Obj → Prop) : (funA (BDh κ).E 12 67 [.int n] [] K) = (
  brn (decide (n < (0 : Int))) (cnd (decide ((0 : Int) ≤ IntKind.wrap IntKind.u64 (IntKind.wrap IntKind.u64 (IntKind.wrap IntKind.i64 ((0 : Int) - IntKind.wrap
  IntKind.i64 (n + (1 : Int)))) + (1 : Int))) && decide (IntKind.wrap IntKind.u64 (IntKind.wrap IntKind.u64 (IntKind.wrap IntKind.i64 ((0 : Int) - IntKind.wrap
  IntKind.i64 (n + (1 : Int)))) + (1 : Int)) < (18446744073709551616 : Int))) (cnd (Nat.ble (1 + ByteArray.size (mkB (Lib.decDigits (Int.toNat (IntKind.wrap
  IntKind.u64 (IntKind.wrap IntKind.u64 (IntKind.wrap IntKind.i64 ((0 : Int) - IntKind.wrap IntKind.i64 (n + (1 : Int)))) + (1 : Int))))))) 9223372036854775807)
  (K (AV.lit (Value.string ({ data := #[OfNat.ofNat 45] } ++ mkB (Lib.decDigits (Int.toNat (IntKind.wrap IntKind.u64 (IntKind.wrap IntKind.u64 (IntKind.wrap
  IntKind.i64 ((0 : Int) - IntKind.wrap IntKind.i64 (n + (1 : Int)))) + (1 : Int)))))))) []))) (cnd (decide ((0 : Int) ≤ IntKind.wrap IntKind.u64 n) && decide
  (IntKind.wrap IntKind.u64 n < (18446744073709551616 : Int))) (K (AV.str (mkB (Lib.decDigits (Int.toNat (IntKind.wrap IntKind.u64 n))))) []))) := by kernel_rfl
def inR (n : Int) : Bool := decide (-9223372036854775808 ≤ n) && decide (n ≤ 9223372036854775807)
def gNu : List AV → Option (Bool × AV)
  | [.lit (.int .i64 n)] => some (inR n, .lit (.string (mkB (Lib.itoa n))))
  | _ => none
theorem dec_len {n : Nat} (h : n < 18446744073709551616) : (Lib.decDigits n).length ≤ 20 := by
  rw [Lib.decDigits_length]
  exact nDigits_le 19 n (by omega)
theorem pNu (κ : Kp) : PureOk (BDh κ).E 12 67 gNu := by
  intro args x hh
  unfold gNu at hh
  split at hh
  · rename_i n
    simp only [Option.some.injEq, Prod.mk.injEq, inR, Bool.and_eq_true, decide_eq_true_eq] at hh
    obtain ⟨⟨h0, h1⟩, rfl⟩ := hh
    refine ⟨_, rfl, rfl, Eq.mpr (yNu κ n _) ?_⟩
    rw [brn_iff]
    refine ⟨fun e => ?_, fun e => ?_⟩
    · have e := of_decide_eq_true e
      obtain ⟨k, rfl⟩ : ∃ k : Nat, n = -((k + 1 : Nat) : Int) := ⟨(-n - 1).toNat, by omega⟩
      have w1 : IntKind.wrap .i64 (-((k + 1 : Nat) : Int) + 1) = -(k : Int) := by rw [wrap_ok (by omega) (by omega)]; omega
      have w2 : IntKind.wrap .i64 (0 - -(k : Int)) = (k : Int) := by rw [wrap_ok (by omega) (by omega)]; omega
      rw [w1, w2, wrap_u64 (by omega), show (k : Int) + 1 = ((k + 1 : Nat) : Int) from rfl, wrap_u64 (by omega), Int.toNat_natCast]
      have hl := dec_len (n := k + 1) (by omega)
      rw [cnd_iff]
      refine ⟨by rw [Bool.and_eq_true, decide_eq_true_eq, decide_eq_true_eq]; omega, cnd_iff.2 ⟨nble ?_, ?_⟩⟩
      · rw [← bl_len, bl_mkB]; omega
      · have : (⟨#[45]⟩ : ByteArray) ++ mkB (Lib.decDigits (k + 1)) = mkB (Lib.itoa (-((k + 1 : Nat) : Int))) := by
          apply bl_inj
          rw [bl_app, bl_mkB, bl_mkB, Lib.itoa_neg _ (by omega)]
          rfl
        rw [← this]
    · have e := of_decide_eq_false e
      obtain ⟨k, rfl⟩ : ∃ k : Nat, n = k := ⟨n.toNat, by omega⟩
      rw [wrap_u64 (by omega), Int.toNat_natCast]
      rw [cnd_iff]
      refine ⟨by rw [Bool.and_eq_true, decide_eq_true_eq, decide_eq_true_eq]; omega, ?_⟩
      rw [← Lib.itoa_nonneg]
  · cases hh
noncomputable def BNu (κ : Kp) : EB := (BDh κ).pure (pNu κ)
theorem xPn (κ : Kp) (n : Int) (b : Bool) (i : Int) (s : ByteArray) (I : Nat → S → Prop) (N : Nat) (K : Exit → S → Prop) : (vc (BNu κ).E 12 39 none 0 (loopCode (Pr κ).toProgram 39 9) (sp 60 [(0, .lit (.string s)), (4, .bool b), (6, .lit (.int .u64 n)), (7, .int i)] []) (loopK (BNu κ).E 39 9 0 I N K)) = (
  brn (decide (i < (↑(ByteArray.size s) : Int))) (cnd (decide ((0 : Int) ≤ i) && decide (i < (↑(ByteArray.size s) : Int))) (brn (decide ((↑(byteAt s i.toNat) :
  Int) < (48 : Int))) (K Exit.ret (sp 60 [(2, AV.int 0), (3, AV.int 10)] [])) (cnd (decide ((0 : Int) ≤ i) && decide (i < (↑(ByteArray.size s) : Int))) (brn
  (decide ((↑(byteAt s i.toNat) : Int) > (57 : Int))) (K Exit.ret (sp 60 [(2, AV.int 0), (3, AV.int 10)] [])) (brn (decide (n > (1152921504606846976 : Int))) (K
  Exit.ret (sp 60 [(2, AV.int 0), (3, AV.int 10)] [])) (cnd (decide ((0 : Int) ≤ i) && decide (i < (↑(ByteArray.size s) : Int))) (∃ (m : Nat), m < N ∧ I m (sp 60
  [(0, AV.str s), (4, AV.bool b), (6, AV.lit (Value.int IntKind.u64 (IntKind.wrap IntKind.u64 (IntKind.wrap IntKind.u64 ((10 : Int) * n) + IntKind.wrap
  IntKind.u64 (IntKind.wrap IntKind.u8 ((↑(byteAt s i.toNat) : Int) - (48 : Int))))))), (7, AV.int (IntKind.wrap IntKind.i64 (i + (1 : Int))))] [])))))))) (K
  (Exit.exit 0) (sp 60 [(0, AV.str s), (4, AV.bool b), (6, AV.lit (Value.int IntKind.u64 n))] []))) := by kernel_rfl
def pnL : List UInt8 → Nat → Option Nat
  | [], n => some n
  | c :: l, n => bif decide (c.toNat < 48) then none else bif decide (c.toNat > 57) then none else bif decide (n > 1152921504606846976) then none else pnL l (10 * n + (c.toNat - 48))
structure APn where
  s : ByteArray
  b : Bool
  n : Nat
  i : Nat
abbrev stPnl (x : APn) : S := sp 60 [(0, .lit (.string x.s)), (4, .bool x.b), (6, .lit (.int .u64 x.n)), (7, .int x.i)] []
def sidePnl (x : APn) : Prop := x.s.size ≤ 1000000000 ∧ x.i ≤ x.s.size ∧ x.n ≤ 11529215046068469769
def outPnl (x : APn) : Out (Exit × S) := .brn (pnL ((bl x.s).drop x.i) x.n).isSome (.one (.exit 0, sp 60 [(0, .lit (.string x.s)), (4, .bool x.b), (6, .lit (.int .u64 ((pnL ((bl x.s).drop x.i) x.n).getD 0 : Nat)))] [])) (.one (.ret, sp 60 [(2, .int 0), (3, .int 10)] []))
theorem lPnl (κ : Kp) : LoopOk (BNu κ).E 12 39 9 (loopE 0 stPnl sidePnl outPnl) := by
  refine loopE_ok (fun x => x.s.size - x.i) ?_
  rintro ⟨s, b, n, i⟩ K ⟨h1, h2, h3⟩ ho
  simp only at h1 h2 h3
  rw [show (BNu κ).E.P = Pr κ from rfl]
  refine Eq.mpr (xPn κ n b i s _ _ K) ?_
  have ho : brn (pnL ((bl s).drop i) n).isSome (K (.exit 0) (sp 60 [(0, .lit (.string s)), (4, .bool b), (6, .lit (.int .u64 ((pnL ((bl s).drop i) n).getD 0 : Nat)))] [])) (K .ret (sp 60 [(2, .int 0), (3, .int 10)] [])) := ho
  rw [Int.toNat_natCast, brn_iff]
  refine ⟨fun h => ?_, fun h => ?_⟩
  · have hi : i < s.size := by have := of_decide_eq_true h; omega
    obtain ⟨c, hd, hb⟩ := bl_at hi
    have hc : (decide ((0 : Int) ≤ (i : Int)) && decide ((i : Int) < (s.size : Int))) = true := by simp; omega
    rw [hd, pnL] at ho
    rw [hb]
    have hc8 : c.toNat < 256 := c.toNat_lt
    refine cnd_iff.2 ⟨hc, brn_iff.2 ⟨fun e => ?_, fun e => cnd_iff.2 ⟨hc, brn_iff.2 ⟨fun e2 => ?_, fun e2 => brn_iff.2 ⟨fun e3 => ?_, fun e3 => cnd_iff.2 ⟨hc, ?_⟩⟩⟩⟩⟩⟩
    · have e : c.toNat < 48 := by have := of_decide_eq_true e; omega
      rw [decide_eq_true e] at ho
      exact (brn_iff.1 ho).2 rfl
    · have e : ¬ c.toNat < 48 := by have := of_decide_eq_false e; omega
      have e2 : c.toNat > 57 := by have := of_decide_eq_true e2; omega
      rw [decide_eq_false e, decide_eq_true e2] at ho
      exact (brn_iff.1 ho).2 rfl
    · have e : ¬ c.toNat < 48 := by have := of_decide_eq_false e; omega
      have e2 : ¬ c.toNat > 57 := by have := of_decide_eq_false e2; omega
      have e3 : n > 1152921504606846976 := by have := of_decide_eq_true e3; omega
      rw [decide_eq_false e, decide_eq_false e2, decide_eq_true e3] at ho
      exact (brn_iff.1 ho).2 rfl
    · have e : ¬ c.toNat < 48 := by have := of_decide_eq_false e; omega
      have e2 : ¬ c.toNat > 57 := by have := of_decide_eq_false e2; omega
      have e3 : ¬ n > 1152921504606846976 := by have := of_decide_eq_false e3; omega
      rw [decide_eq_false e, decide_eq_false e2, decide_eq_false e3] at ho
      simp only [cond_false] at ho
      have w1 : (10 : Int) * (n : Int) = ((10 * n : Nat) : Int) := by omega
      have w2 : ((c.toNat : Nat) : Int) - 48 = ((c.toNat - 48 : Nat) : Int) := by omega
      have w3 : ((10 * n : Nat) : Int) + ((c.toNat - 48 : Nat) : Int) = ((10 * n + (c.toNat - 48) : Nat) : Int) := by omega
      have w4 : IntKind.wrap .i64 ((i : Int) + 1) = ((i + 1 : Nat) : Int) := by rw [wrap_ok (by omega) (by omega)]; rfl
      rw [w1, w2, wrap_u64 (by omega), wrapb (by omega), wrap_u64 (by omega), w3, wrap_u64 (by omega), w4]
      exact ⟨s.size - (i + 1), by simp only; omega, ⟨s, b, 10 * n + (c.toNat - 48), i + 1⟩, rfl, ⟨h1, hi, by simp only; omega⟩, rfl, ho⟩
  · have hi : i = s.size := by have := of_decide_eq_false h; omega
    rw [List.drop_eq_nil_of_le (by rw [bl_len]; omega)] at ho
    exact (brn_iff.1 ho).1 rfl
noncomputable def BPl (κ : Kp) : EB := (BNu κ).loop (lPnl κ)
theorem yPr (κ : Kp) (s : ByteArray) (K : AV → List Dn.Obj → Prop) : (funA (BPl κ).E 12 39 [.lit (.string s)] [] K) = (
  brn (decide ((↑(ByteArray.size s) : Int) > (20 : Int))) (K (AV.tup [AV.int 0, AV.int 10]) []) (brn (decide ((↑(ByteArray.size s) : Int) > (0 : Int))) (cnd (true
  && decide ((0 : Int) < (↑(ByteArray.size s) : Int))) (brn ((↑(byteAt s 0) : Int) == (45 : Int)) (loopCode (Pg.toProgram (Env.P (EB.E (BNu κ)))) 39 9 = loopCode
  (Pg.toProgram (Env.P (EB.E (BNu κ)))) 39 9 ∧ ∃ (a : APn), sp 60 [(0, AV.str s), (4, AV.bool ((↑(byteAt s 0) : Int) == (45 : Int))), (6, AV.lit (Value.int
  IntKind.u64 (0 : Int))), (7, AV.int 1)] [] = stPnl a ∧ sidePnl a ∧ brn (Option.isSome (pnL (List.drop a.i (bl a.s)) a.n)) (brn a.b (cnd (inR (IntKind.wrap
  IntKind.i64 ((0 : Int) - IntKind.wrap IntKind.i64 (↑(Option.getD (pnL (List.drop a.i (bl a.s)) a.n) 0) : Int)))) (brn (!ByteArray.toList (mkB (Lib.itoa
  (IntKind.wrap IntKind.i64 ((0 : Int) - IntKind.wrap IntKind.i64 (↑(Option.getD (pnL (List.drop a.i (bl a.s)) a.n) 0) : Int))))) == ByteArray.toList a.s) (K
  (AV.tup [AV.int 0, AV.int 10]) []) (K (AV.tup [AV.int (IntKind.wrap IntKind.i64 ((0 : Int) - IntKind.wrap IntKind.i64 (↑(Option.getD (pnL (List.drop a.i (bl
  a.s)) a.n) 0) : Int))), AV.int 0]) []))) (cnd (inR (IntKind.wrap IntKind.i64 (↑(Option.getD (pnL (List.drop a.i (bl a.s)) a.n) 0) : Int))) (brn
  (!ByteArray.toList (mkB (Lib.itoa (IntKind.wrap IntKind.i64 (↑(Option.getD (pnL (List.drop a.i (bl a.s)) a.n) 0) : Int)))) == ByteArray.toList a.s) (K (AV.tup
  [AV.int 0, AV.int 10]) []) (K (AV.tup [AV.int (IntKind.wrap IntKind.i64 (↑(Option.getD (pnL (List.drop a.i (bl a.s)) a.n) 0) : Int)), AV.int 0]) [])))) (K
  (AV.tup [AV.int 0, AV.int 10]) [])) (loopCode (Pg.toProgram (Env.P (EB.E (BNu κ)))) 39 9 = loopCode (Pg.toProgram (Env.P (EB.E (BNu κ)))) 39 9 ∧ ∃ (a : APn),
  sp 60 [(0, AV.str s), (4, AV.bool ((↑(byteAt s 0) : Int) == (45 : Int))), (6, AV.lit (Value.int IntKind.u64 (0 : Int))), (7, AV.int 0)] [] = stPnl a ∧ sidePnl
  a ∧ brn (Option.isSome (pnL (List.drop a.i (bl a.s)) a.n)) (brn a.b (cnd (inR (IntKind.wrap IntKind.i64 ((0 : Int) - IntKind.wrap IntKind.i64 (↑(Option.getD
  (pnL (List.drop a.i (bl a.s)) a.n) 0) : Int)))) (brn (!ByteArray.toList (mkB (Lib.itoa (IntKind.wrap IntKind.i64 ((0 : Int) - IntKind.wrap IntKind.i64
  (↑(Option.getD (pnL (List.drop a.i (bl a.s)) a.n) 0) : Int))))) == ByteArray.toList a.s) (K (AV.tup [AV.int 0, AV.int 10]) []) (K (AV.tup [AV.int (IntKind.wrap
  IntKind.i64 ((0 : Int) - IntKind.wrap IntKind.i64 (↑(Option.getD (pnL (List.drop a.i (bl a.s)) a.n) 0) : Int))), AV.int 0]) []))) (cnd (inR (IntKind.wrap
  IntKind.i64 (↑(Option.getD (pnL (List.drop a.i (bl a.s)) a.n) 0) : Int))) (brn (!ByteArray.toList (mkB (Lib.itoa (IntKind.wrap IntKind.i64 (↑(Option.getD (pnL
  (List.drop a.i (bl a.s)) a.n) 0) : Int)))) == ByteArray.toList a.s) (K (AV.tup [AV.int 0, AV.int 10]) []) (K (AV.tup [AV.int (IntKind.wrap IntKind.i64
  (↑(Option.getD (pnL (List.drop a.i (bl a.s)) a.n) 0) : Int)), AV.int 0]) [])))) (K (AV.tup [AV.int 0, AV.int 10]) [])))) (loopCode (Pg.toProgram (Env.P (EB.E
  (BNu κ)))) 39 9 = loopCode (Pg.toProgram (Env.P (EB.E (BNu κ)))) 39 9 ∧ ∃ (a : APn), sp 60 [(0, AV.str s), (4, AV.bool false), (6, AV.lit (Value.int
  IntKind.u64 (0 : Int))), (7, AV.int 0)] [] = stPnl a ∧ sidePnl a ∧ brn (Option.isSome (pnL (List.drop a.i (bl a.s)) a.n)) (brn a.b (cnd (inR (IntKind.wrap
  IntKind.i64 ((0 : Int) - IntKind.wrap IntKind.i64 (↑(Option.getD (pnL (List.drop a.i (bl a.s)) a.n) 0) : Int)))) (brn (!ByteArray.toList (mkB (Lib.itoa
  (IntKind.wrap IntKind.i64 ((0 : Int) - IntKind.wrap IntKind.i64 (↑(Option.getD (pnL (List.drop a.i (bl a.s)) a.n) 0) : Int))))) == ByteArray.toList a.s) (K
  (AV.tup [AV.int 0, AV.int 10]) []) (K (AV.tup [AV.int (IntKind.wrap IntKind.i64 ((0 : Int) - IntKind.wrap IntKind.i64 (↑(Option.getD (pnL (List.drop a.i (bl
  a.s)) a.n) 0) : Int))), AV.int 0]) []))) (cnd (inR (IntKind.wrap IntKind.i64 (↑(Option.getD (pnL (List.drop a.i (bl a.s)) a.n) 0) : Int))) (brn
  (!ByteArray.toList (mkB (Lib.itoa (IntKind.wrap IntKind.i64 (↑(Option.getD (pnL (List.drop a.i (bl a.s)) a.n) 0) : Int)))) == ByteArray.toList a.s) (K (AV.tup
  [AV.int 0, AV.int 10]) []) (K (AV.tup [AV.int (IntKind.wrap IntKind.i64 (↑(Option.getD (pnL (List.drop a.i (bl a.s)) a.n) 0) : Int)), AV.int 0]) [])))) (K
  (AV.tup [AV.int 0, AV.int 10]) [])))) := by kernel_rfl
theorem wrap_rng (n : Int) : -9223372036854775808 ≤ IntKind.wrap .i64 n ∧ IntKind.wrap .i64 n ≤ 9223372036854775807 := by
  unfold IntKind.wrap
  simp only [IntKind.bits, IntKind.signed]
  have h0 : 0 ≤ n % 18446744073709551616 := Int.emod_nonneg _ (by omega)
  have h1 : n % 18446744073709551616 < 18446744073709551616 := Int.emod_lt_of_pos _ (by omega)
  simp only [Bool.true_and, decide_eq_true_eq, show (2 : Int) ^ 64 = 18446744073709551616 from rfl, show (2 : Int) ^ (64 - 1) = 9223372036854775808 from rfl]
  split <;> omega
def rnV (s : ByteArray) : Int := IntKind.wrap .i64 ((pnL (bl s) 0).getD 0 : Nat)
def rnB (s : ByteArray) : Bool := decide (s.size ≤ 20) && ((pnL (bl s) 0).isSome && ((mkB (Lib.itoa (rnV s))).toList == s.toList))
def stRp (s : ByteArray) : List AV × List Dn.Obj := ([.lit (.string s)], [])
def sideRp (s : ByteArray) : Prop := 0 < s.size ∧ s.size ≤ 1000000000 ∧ byteAt s 0 ≠ 45
def outRp (s : ByteArray) : Out (AV × List Dn.Obj) := .brn (rnB s) (.one (.tup [.int (rnV s), .int 0], [])) (.one (.tup [.int 0, .int 10], []))
theorem cRp (κ : Kp) : CallOk (BPl κ).E 12 39 (callE stRp sideRp outRp) := by
  refine callE_ok ?_
  rintro s K ⟨h0, h1, h2⟩ ho
  have ho : brn (rnB s) (K (.tup [.int (rnV s), .int 0]) []) (K (.tup [.int 0, .int 10]) []) := ho
  refine Eq.mpr (yPr κ s K) ?_
  rw [brn_iff] at ho ⊢
  refine ⟨fun e => ho.2 ?_, fun e => ?_⟩
  · unfold rnB
    rw [decide_eq_false (by have := of_decide_eq_true e; omega)]; rfl
  have e := of_decide_eq_false e
  have e1 : ((byteAt s 0 : Nat) : Int) ≠ 45 := by omega
  have e2 : (((byteAt s 0 : Nat) : Int) == 45) = false := beq_eq_false_iff_ne.2 e1
  rw [e2]
  refine brn_iff.2 ⟨fun _ => cnd_iff.2 ⟨by simp; omega, brn_iff.2 ⟨fun k => (by cases k), fun _ => ?_⟩⟩, fun k => absurd (of_decide_eq_false k) (by omega)⟩
  refine ⟨rfl, ⟨s, false, 0, 0⟩, rfl, ⟨h1, Nat.zero_le _, by simp only; omega⟩, ?_⟩
  simp only [List.drop_zero]
  have hb : rnB s = ((pnL (bl s) 0).isSome && ((mkB (Lib.itoa (rnV s))).toList == s.toList)) := by
    unfold rnB
    rw [decide_eq_true (by omega), Bool.true_and]
  rw [hb] at ho
  rw [brn_iff]
  refine ⟨fun k => brn_iff.2 ⟨fun e => (by cases e), fun _ => cnd_iff.2 ⟨?_, ?_⟩⟩, fun k => ho.2 (by rw [k]; rfl)⟩
  · have := wrap_rng ((pnL (bl s) 0).getD 0 : Nat)
    unfold inR
    rw [Bool.and_eq_true, decide_eq_true_eq, decide_eq_true_eq]; exact this
  · rw [k, Bool.true_and] at ho
    show brn (!((mkB (Lib.itoa (rnV s))).toList == s.toList)) (K (.tup [.int 0, .int 10]) []) (K (.tup [.int (rnV s), .int 0]) [])
    rw [brn_iff]
    exact ⟨fun e => ho.2 (by simpa using e), fun e => ho.1 (by simpa using e)⟩
noncomputable def BRp (κ : Kp) : EB := (BPl κ).call (cRp κ)
theorem ofNat_dig {d : Nat} (h : d < 10) : (UInt8.ofNat (48 + d)).toNat = 48 + d := by
  rw [UInt8.toNat_ofNat']
  omega
theorem pnL_dec : ∀ (f u : Nat) (l : List UInt8), u < f → u / 10 ≤ 1152921504606846976 → pnL (Lib.decDigits u ++ l) 0 = pnL l u
  | 0, u, l, h, _ => by omega
  | f + 1, u, l, h, hb => by
    rw [Lib.decDigits]
    by_cases h2 : u < 10
    · rw [dif_pos h2, List.singleton_append, pnL, ofNat_dig h2, decide_eq_false (by omega), decide_eq_false (by omega), decide_eq_false (by omega)]
      simp only [cond_false]
      rw [show 10 * 0 + (48 + u - 48) = u by omega]
    · rw [dif_neg h2, List.append_assoc, pnL_dec f (u / 10) _ (by omega) (by omega), List.singleton_append, pnL, ofNat_dig (Nat.mod_lt _ (by omega)), decide_eq_false (by omega), decide_eq_false (by omega), decide_eq_false (by omega)]
      simp only [cond_false]
      rw [show 10 * (u / 10) + (48 + u % 10 - 48) = u by omega]
theorem pum_dec : ∀ (f u : Nat) (l : List UInt8), u < f → u ≤ 18446744073709551615 → Lib.parseUintM 18446744073709551615 0 (Lib.decDigits u ++ l) = Lib.parseUintM 18446744073709551615 u l
  | 0, u, l, h, _ => by omega
  | f + 1, u, l, h, hb => by
    rw [Lib.decDigits]
    by_cases h2 : u < 10
    · rw [dif_pos h2, List.singleton_append, Lib.parseUintM, ofNat_dig h2, if_pos (by omega), if_neg (by omega), if_neg (by omega)]
      rw [show 0 * 10 + (48 + u - 48) = u by omega]
    · rw [dif_neg h2, List.append_assoc, pum_dec f (u / 10) _ (by omega) (by omega), List.singleton_append, Lib.parseUintM, ofNat_dig (Nat.mod_lt _ (by omega)), if_pos (by omega), if_neg (by omega), if_neg (by omega)]
      rw [show u / 10 * 10 + (48 + u % 10 - 48) = u by omega]
theorem dec_head : ∀ (f u : Nat), u < f → ∃ c r, Lib.decDigits u = c :: r ∧ 48 ≤ c.toNat ∧ c.toNat ≤ 57
  | 0, u, h => by omega
  | f + 1, u, h => by
    rw [Lib.decDigits]
    by_cases h2 : u < 10
    · rw [dif_pos h2]
      exact ⟨_, _, rfl, by rw [ofNat_dig h2]; omega, by rw [ofNat_dig h2]; omega⟩
    · rw [dif_neg h2]
      obtain ⟨c, r, h3, h4⟩ := dec_head f (u / 10) (by omega)
      rw [h3]
      exact ⟨c, _, rfl, h4⟩
theorem parse_itoa {u : Nat} (h : u < 9223372036854775808) : Lib.parseIntB 64 (Lib.itoa u) = .ok (u : Int) := by
  rw [Lib.itoa_nonneg]
  have h1 := pum_dec (u + 1) u [] (by omega) (by omega)
  rw [List.append_nil] at h1
  obtain ⟨c, r, h2, h3, h4⟩ := dec_head (u + 1) u (by omega)
  rw [h2] at h1 ⊢
  rw [Lib.parseIntB_plain 64 c r (by omega) (by omega), Lib.parseUintB, if_neg (by simp)]
  rw [show (2 ^ 64 - 1 : Nat) = 18446744073709551615 from rfl, h1, Lib.parseUintM, Lib.signlessC, if_neg (by rw [show (2 ^ (64 - 1) : Nat) = 9223372036854775808 from rfl]; omega)]
theorem itoa_head {v : Int} {c : UInt8} {r : List UInt8} (h : Lib.itoa v = c :: r) (hc : c ≠ 45) : 0 ≤ v := by
  rcases Int.lt_or_le v 0 with h0 | h0
  · exfalso
    unfold Lib.itoa at h
    rw [if_pos h0] at h
    exact hc (List.cons.inj h).1.symm
  · exact h0
theorem mkB_toList (l : List UInt8) : (mkB l).toList = l := by rw [bl_toList, bl_mkB]
theorem num_same {s : ByteArray} (h0 : 0 < s.size) (h1 : byteAt s 0 ≠ 45) : numB s = rnB s := by
  obtain ⟨c, hd, hb⟩ := bl_at h0
  rw [List.drop_zero] at hd
  have hc : c ≠ 45 := fun e => h1 (by rw [hb, e]; rfl)
  have key : ∀ u : Nat, u < 9223372036854775808 → Lib.itoa (u : Int) = bl s → numB s = true ∧ rnB s = true := fun u hu hs => by
    have hp := parse_itoa hu
    have hl : (bl s).length ≤ 20 := by rw [← hs, Lib.itoa_nonneg]; exact dec_len (by omega)
    rw [bl_len] at hl
    have hq := pnL_dec (u + 1) u [] (by omega) (by omega)
    rw [List.append_nil, ← Lib.itoa_nonneg, hs, pnL] at hq
    rw [hs] at hp
    constructor
    · unfold numB piO piV
      rw [hp]
      show (true && _) = true
      rw [Bool.true_and, beq_iff_eq]
      show (mkB (Lib.itoa (u : Int))).toList = s.toList
      rw [mkB_toList, hs, bl_toList]
    · unfold rnB rnV
      rw [hq, decide_eq_true hl]
      show (true && (true && _)) = true
      rw [Bool.true_and, Bool.true_and, beq_iff_eq]
      show (mkB (Lib.itoa (IntKind.wrap .i64 (u : Int)))).toList = s.toList
      rw [wrap_ok (by omega) (by omega), mkB_toList, hs, bl_toList]
  rw [Bool.eq_iff_iff]
  refine ⟨fun h => ?_, fun h => ?_⟩
  · unfold numB at h
    rw [Bool.and_eq_true, beq_iff_eq] at h
    obtain ⟨h2, h3⟩ := h
    have hr := piV_rng h2
    have h3 : Lib.itoa (piV s) = bl s := by rw [← bl_toList, ← h3]; exact (mkB_toList _).symm
    have hv := itoa_head (h3.trans hd) hc
    obtain ⟨u, hu⟩ : ∃ u : Nat, piV s = u := ⟨(piV s).toNat, by omega⟩
    rw [hu] at h3 hr
    exact (key u (by omega) h3).2
  · unfold rnB at h
    rw [Bool.and_eq_true, Bool.and_eq_true, beq_iff_eq] at h
    obtain ⟨_, _, h3⟩ := h
    have h3 : Lib.itoa (rnV s) = bl s := by rw [← bl_toList, ← h3, mkB_toList]
    have hr := wrap_rng ((pnL (bl s) 0).getD 0 : Nat)
    have hv := itoa_head (h3.trans hd) hc
    obtain ⟨u, hu⟩ : ∃ u : Nat, rnV s = u := ⟨(rnV s).toNat, by omega⟩
    have hr : rnV s ≤ 9223372036854775807 := hr.2
    rw [hu] at h3 hr
    exact (key u (by omega) h3).1
end Go.Proofs.YtbppdpbagmbmpaaGreatDoor
namespace Go.Proofs.YtbppdpbagmbmpaaGreatDoor
open Go Go.Dn Go.Proofs
attribute [local irreducible] funA vc
set_option maxRecDepth 20000
abbrev stRu (x : ByteArray × Nat) : S := sp 28 [(0, .lit (.string x.1)), (1, .int x.2)] []
def sideRu (x : ByteArray × Nat) : Prop := x.1.size ≤ 1000000000 ∧ x.2 ≤ x.1.size
def outRu (x : ByteArray × Nat) : Out (Exit × S) := .one (.exit 0, sp 28 [(1, .int ((x.2 + wrdL ((bl x.1).drop x.2) : Nat) : Int))] [])
def gRu : List AV → Option (Bool × AV)
  | [.lit (.string s), .lit (.int .i64 i)] => some (decide (0 ≤ i ∧ i ≤ s.size ∧ s.size ≤ 1000000000), .int ((i.toNat + wrdL ((bl s).drop i.toNat) : Nat) : Int))
  | _ => none
theorem xRt (κ : Kp) (s : ByteArray) (i : Int) (I : Nat → S → Prop) (N : Nat) (K : Exit → S → Prop) : (vc (BRp κ).E 12 71 none 0 (loopCode (Pr κ).toProgram 71 1) (sp 28 [(0, .lit (.string s)), (1, .int i)] []) (loopK (BRp κ).E 71 1 0 I N K)) = (
  brn (decide (i < (↑(ByteArray.size s) : Int))) (cnd (decide ((0 : Int) ≤ i) && decide (i < (↑(ByteArray.size s) : Int))) (cnd (decide ((0 : Int) ≤ i) && decide
  (i < (↑(ByteArray.size s) : Int))) (brn (!isLe (↑(byteAt s i.toNat) : Int)) (brn (!isDi (↑(byteAt s i.toNat) : Int)) (K (Exit.exit 0) (sp 28 [(1, AV.int i)]
  [])) (∃ (m : Nat), m < N ∧ I m (sp 28 [(0, AV.str s), (1, AV.int (IntKind.wrap IntKind.i64 (i + (1 : Int))))] []))) (∃ (m : Nat), m < N ∧ I m (sp 28 [(0,
  AV.str s), (1, AV.int (IntKind.wrap IntKind.i64 (i + (1 : Int))))] []))))) (K (Exit.exit 0) (sp 28 [(1, AV.int i)] []))) := by kernel_rfl
theorem lRt (κ : Kp) : LoopOk (BRp κ).E 12 71 1 (loopE 0 stRu sideRu outRu) := by
  refine loopE_ok (fun x => x.1.size - x.2) ?_
  rintro ⟨s, i⟩ K ⟨h1, h2⟩ ho
  simp only at h1 h2
  rw [show (BRp κ).E.P = Pr κ from rfl]
  refine Eq.mpr (xRt κ s i _ _ K) ?_
  have ho : K (.exit 0) (sp 28 [(1, .int ((i + wrdL ((bl s).drop i) : Nat) : Int))] []) := ho
  rw [Int.toNat_natCast, brn_iff]
  refine ⟨fun h => ?_, fun h => ?_⟩
  · have hi : i < s.size := by have := of_decide_eq_true h; omega
    obtain ⟨c, hd, hb⟩ := bl_at hi
    have hc : (decide ((0 : Int) ≤ (i : Int)) && decide ((i : Int) < (s.size : Int))) = true := by simp; omega
    have w4 : IntKind.wrap .i64 ((i : Int) + 1) = ((i + 1 : Nat) : Int) := by rw [wrap_ok (by omega) (by omega)]; rfl
    rw [hd, wrdL, isWb] at ho
    rw [hb, w4]
    have next : (isLe (c.toNat : Nat) || isDi (c.toNat : Nat)) = true → ∃ m, m < s.size - i ∧ invOf stRu sideRu outRu (fun x => x.1.size - x.2) K m (sp 28 [(0, .lit (.string s)), (1, .int ((i + 1 : Nat) : Int))] []) := fun e => by
      rw [e, cond_true] at ho
      refine ⟨s.size - (i + 1), by omega, ⟨s, i + 1⟩, rfl, ⟨h1, hi⟩, rfl, ?_⟩
      show K (.exit 0) (sp 28 [(1, .int ((i + 1 + wrdL ((bl s).drop (i + 1)) : Nat) : Int))] [])
      rw [show i + 1 + wrdL ((bl s).drop (i + 1)) = i + (wrdL ((bl s).drop (i + 1)) + 1) by omega]
      exact ho
    refine cnd_iff.2 ⟨hc, cnd_iff.2 ⟨hc, brn_iff.2 ⟨fun e => brn_iff.2 ⟨fun e2 => ?_, fun e2 => next ?_⟩, fun e => next ?_⟩⟩⟩
    · rw [Bool.not_eq_true'] at e e2
      rw [e, e2] at ho
      exact ho
    · rw [Bool.not_eq_false'] at e2; rw [e2, Bool.or_true]
    · rw [Bool.not_eq_false'] at e; rw [e]; rfl
  · have hi : i = s.size := by have := of_decide_eq_false h; omega
    rw [List.drop_eq_nil_of_le (by rw [bl_len]; omega)] at ho
    exact ho
noncomputable def BRtl (κ : Kp) : EB := (BRp κ).loop (lRt κ)
theorem yRt (κ : Kp) (s : ByteArray) (i : Int) (K : AV → List Dn.Obj → Prop) : (funA (BRtl κ).E 12 71 [.lit (.string s), .int i] [] K) = (
  loopCode (Pg.toProgram (Env.P (EB.E (BRp κ)))) 71 1 = loopCode (Pg.toProgram (Env.P (EB.E (BRp κ)))) 71 1 ∧ ∃ (a : ByteArray × Nat), sp 28 [(0, AV.str s), (1,
  AV.int i)] [] = stRu a ∧ sideRu a ∧ K (AV.int (↑(a.2 + wrdL (List.drop a.2 (bl a.1))) : Int)) []) := by kernel_rfl
theorem pRt (κ : Kp) : PureOk (BRtl κ).E 12 71 gRu := by
  intro args x hh
  unfold gRu at hh
  split at hh
  · rename_i s i
    simp only [Option.some.injEq, Prod.mk.injEq, decide_eq_true_eq] at hh
    obtain ⟨⟨h0, h1, h2⟩, rfl⟩ := hh
    obtain ⟨k, rfl⟩ : ∃ k : Nat, i = k := ⟨i.toNat, by omega⟩
    exact ⟨_, rfl, rfl, Eq.mpr (yRt κ s k _) ⟨rfl, ⟨s, k⟩, rfl, ⟨h2, by simp only; omega⟩, rfl⟩⟩
  · cases hh
noncomputable def BRt (κ : Kp) : EB := (BRtl κ).pure (pRt κ)
theorem xRg (κ : Kp) (s : ByteArray) (i : Int) (I : Nat → S → Prop) (N : Nat) (K : Exit → S → Prop) : (vc (BRt κ).E 12 38 none 0 (loopCode (Pr κ).toProgram 38 1) (sp 28 [(0, .lit (.string s)), (1, .int i)] []) (loopK (BRt κ).E 38 1 0 I N K)) = (
  brn (decide (i < (↑(ByteArray.size s) : Int))) (cnd (decide ((0 : Int) ≤ i) && decide (i < (↑(ByteArray.size s) : Int))) (cnd (decide ((0 : Int) ≤ i) && decide
  (i < (↑(ByteArray.size s) : Int))) (brn (!isLe (↑(byteAt s i.toNat) : Int)) (brn (!isDi (↑(byteAt s i.toNat) : Int)) (K (Exit.exit 0) (sp 28 [(1, AV.int i)]
  [])) (∃ (m : Nat), m < N ∧ I m (sp 28 [(0, AV.str s), (1, AV.int (IntKind.wrap IntKind.i64 (i + (1 : Int))))] []))) (∃ (m : Nat), m < N ∧ I m (sp 28 [(0,
  AV.str s), (1, AV.int (IntKind.wrap IntKind.i64 (i + (1 : Int))))] []))))) (K (Exit.exit 0) (sp 28 [(1, AV.int i)] []))) := by kernel_rfl
theorem lRg (κ : Kp) : LoopOk (BRt κ).E 12 38 1 (loopE 0 stRu sideRu outRu) := by
  refine loopE_ok (fun x => x.1.size - x.2) ?_
  rintro ⟨s, i⟩ K ⟨h1, h2⟩ ho
  simp only at h1 h2
  rw [show (BRt κ).E.P = Pr κ from rfl]
  refine Eq.mpr (xRg κ s i _ _ K) ?_
  have ho : K (.exit 0) (sp 28 [(1, .int ((i + wrdL ((bl s).drop i) : Nat) : Int))] []) := ho
  rw [Int.toNat_natCast, brn_iff]
  refine ⟨fun h => ?_, fun h => ?_⟩
  · have hi : i < s.size := by have := of_decide_eq_true h; omega
    obtain ⟨c, hd, hb⟩ := bl_at hi
    have hc : (decide ((0 : Int) ≤ (i : Int)) && decide ((i : Int) < (s.size : Int))) = true := by simp; omega
    have w4 : IntKind.wrap .i64 ((i : Int) + 1) = ((i + 1 : Nat) : Int) := by rw [wrap_ok (by omega) (by omega)]; rfl
    rw [hd, wrdL, isWb] at ho
    rw [hb, w4]
    have next : (isLe (c.toNat : Nat) || isDi (c.toNat : Nat)) = true → ∃ m, m < s.size - i ∧ invOf stRu sideRu outRu (fun x => x.1.size - x.2) K m (sp 28 [(0, .lit (.string s)), (1, .int ((i + 1 : Nat) : Int))] []) := fun e => by
      rw [e, cond_true] at ho
      refine ⟨s.size - (i + 1), by omega, ⟨s, i + 1⟩, rfl, ⟨h1, hi⟩, rfl, ?_⟩
      show K (.exit 0) (sp 28 [(1, .int ((i + 1 + wrdL ((bl s).drop (i + 1)) : Nat) : Int))] [])
      rw [show i + 1 + wrdL ((bl s).drop (i + 1)) = i + (wrdL ((bl s).drop (i + 1)) + 1) by omega]
      exact ho
    refine cnd_iff.2 ⟨hc, cnd_iff.2 ⟨hc, brn_iff.2 ⟨fun e => brn_iff.2 ⟨fun e2 => ?_, fun e2 => next ?_⟩, fun e => next ?_⟩⟩⟩
    · rw [Bool.not_eq_true'] at e e2
      rw [e, e2] at ho
      exact ho
    · rw [Bool.not_eq_false'] at e2; rw [e2, Bool.or_true]
    · rw [Bool.not_eq_false'] at e; rw [e]; rfl
  · have hi : i = s.size := by have := of_decide_eq_false h; omega
    rw [List.drop_eq_nil_of_le (by rw [bl_len]; omega)] at ho
    exact ho
noncomputable def BRgl (κ : Kp) : EB := (BRt κ).loop (lRg κ)
theorem yRg (κ : Kp) (s : ByteArray) (i : Int) (K : AV → List Dn.Obj → Prop) : (funA (BRgl κ).E 12 38 [.lit (.string s), .int i] [] K) = (
  loopCode (Pg.toProgram (Env.P (EB.E (BRt κ)))) 38 1 = loopCode (Pg.toProgram (Env.P (EB.E (BRt κ)))) 38 1 ∧ ∃ (a : ByteArray × Nat), sp 28 [(0, AV.str s), (1,
  AV.int i)] [] = stRu a ∧ sideRu a ∧ K (AV.int (↑(a.2 + wrdL (List.drop a.2 (bl a.1))) : Int)) []) := by kernel_rfl
theorem pRg (κ : Kp) : PureOk (BRgl κ).E 12 38 gRu := by
  intro args x hh
  unfold gRu at hh
  split at hh
  · rename_i s i
    simp only [Option.some.injEq, Prod.mk.injEq, decide_eq_true_eq] at hh
    obtain ⟨⟨h0, h1, h2⟩, rfl⟩ := hh
    obtain ⟨k, rfl⟩ : ∃ k : Nat, i = k := ⟨i.toNat, by omega⟩
    exact ⟨_, rfl, rfl, Eq.mpr (yRg κ s k _) ⟨rfl, ⟨s, k⟩, rfl, ⟨h2, by simp only; omega⟩, rfl⟩⟩
  · cases hh
noncomputable def BRg (κ : Kp) : EB := (BRgl κ).pure (pRg κ)
theorem xSa (κ : Kp) (l m : List AV) (i : Int) (I : Nat → S → Prop) (n : Nat) (K : Exit → S → Prop) : (vc (BRg κ).E 12 12 none 0 (loopCode (Pr κ).toProgram 12 4) (sp 26 [(0, .lst 31 l), (1, .lst 31 m), (5, .int i)] []) (loopK (BRg κ).E 12 4 0 I n K)) = (
  brn (decide (i < (↑(l.length) : Int))) (cnd (decide ((0 : Int) ≤ i) && decide (i < (↑(l.length) : Int))) (cnd (decide ((0 : Int) ≤ i) && decide (i < (↑(m.length)
  : Int))) (brn (!(toInt (fld (nth l i.toNat) 0) == toInt (fld (nth m i.toNat) 0) && (ByteArray.toList (toStr (fld (nth l i.toNat) 1)) == ByteArray.toList (toStr
  (fld (nth m i.toNat) 1)) && (toInt (fld (nth l i.toNat) 2) == toInt (fld (nth m i.toNat) 2) && true)))) (K Exit.ret (sp 26 [(4, AV.bool false)] [])) (∃ (m_1 :
  Nat), m_1 < n ∧ I m_1 (sp 26 [(0, AV.lst 31 l), (1, AV.lst 31 m), (5, AV.int (IntKind.wrap IntKind.i64 (i + (1 : Int))))] []))))) (K (Exit.exit 0) (sp 26 []
  []))) := by kernel_rfl
def keyS (x : AV) : Int × List UInt8 × Int := (toInt (fld x 0), (toStr (fld x 1)).toList, toInt (fld x 2))
abbrev stSa (a : List AV × List AV × Nat) : S := sp 26 [(0, .lst 31 a.1), (1, .lst 31 a.2.1), (5, .int a.2.2)] []
def outSa (a : List AV × List AV × Nat) : Out (Exit × S) := .brn (decide ((a.1.drop a.2.2).map keyS = (a.2.1.drop a.2.2).map keyS)) (.one (.exit 0, sp 26 [] [])) (.one (.ret, sp 26 [(4, .bool false)] []))
theorem lSa (κ : Kp) : LoopOk (BRg κ).E 12 12 4 (loopE 0 stSa sideAl outSa) := by
  refine loopE_ok (fun a => a.1.length - a.2.2) ?_
  rintro ⟨l, m, i⟩ K ⟨h1, h2, h3⟩ ho
  simp only at h1 h2 h3
  rw [show (BRg κ).E.P = Pr κ from rfl]
  refine Eq.mpr (xSa κ l m i _ _ K) ?_
  have ho : brn (decide ((l.drop i).map keyS = (m.drop i).map keyS)) (K (.exit 0) (sp 26 [] [])) (K .ret (sp 26 [(4, .bool false)] [])) := ho
  rw [brn_iff, decide_eq_true_eq, decide_eq_false_iff_not] at ho
  rw [Int.toNat_natCast, brn_iff]
  refine ⟨fun h => ?_, fun h => ?_⟩
  · have hi : i < l.length := by have := of_decide_eq_true h; omega
    have hi2 : i < m.length := by omega
    have hc : (decide ((0 : Int) ≤ (i : Int)) && decide ((i : Int) < (l.length : Int))) = true := by simp; omega
    have hc2 : (decide ((0 : Int) ≤ (i : Int)) && decide ((i : Int) < (m.length : Int))) = true := by simp; omega
    rw [List.drop_eq_getElem_cons hi, List.drop_eq_getElem_cons hi2, List.map_cons, List.map_cons, ← nth_get' l i hi, ← nth_get' m i hi2, List.cons.injEq] at ho
    have w3 : IntKind.wrap .i64 ((i : Int) + 1) = ((i + 1 : Nat) : Int) := by rw [wrap_ok (by omega) (by omega)]; rfl
    rw [w3]
    have hk : (toInt (fld (nth l i) 0) == toInt (fld (nth m i) 0) && ((toStr (fld (nth l i) 1)).toList == (toStr (fld (nth m i) 1)).toList && (toInt (fld (nth l i) 2) == toInt (fld (nth m i) 2) && true))) = decide (keyS (nth l i) = keyS (nth m i)) := by
      rw [Bool.eq_iff_iff]
      simp only [keyS, Bool.and_eq_true, beq_iff_eq, and_true, decide_eq_true_eq, Prod.mk.injEq]
    refine cnd_iff.2 ⟨hc, cnd_iff.2 ⟨hc2, brn_iff.2 ⟨fun e => ho.2 fun e2 => ?_, fun e => ?_⟩⟩⟩
    · rw [hk, Bool.not_eq_true', decide_eq_false_iff_not] at e
      exact e e2.1
    · rw [hk, Bool.not_eq_false', decide_eq_true_eq] at e
      refine ⟨l.length - (i + 1), by simp only; omega, ⟨l, m, i + 1⟩, rfl, ⟨h1, h2, hi⟩, rfl, ?_⟩
      show brn (decide ((l.drop (i + 1)).map keyS = (m.drop (i + 1)).map keyS)) (K (.exit 0) (sp 26 [] [])) (K .ret (sp 26 [(4, .bool false)] []))
      rw [brn_iff, decide_eq_true_eq, decide_eq_false_iff_not]
      exact ⟨fun e4 => ho.1 ⟨e, e4⟩, fun e4 => ho.2 fun e5 => e4 e5.2⟩
  · have hi : l.length ≤ i := by have := of_decide_eq_false h; omega
    refine ho.1 ?_
    rw [List.drop_eq_nil_of_le hi, List.drop_eq_nil_of_le (by omega)]
noncomputable def BSal (κ : Kp) : EB := (BRg κ).loop (lSa κ)
theorem ySa (κ : Kp) (l m : List AV) (K : AV → List Dn.Obj → Prop) : (funA (BSal κ).E 12 12 [.lst 31 l, .lst 31 m] [] K) = (
  brn ((↑(l.length) : Int) != (↑(m.length) : Int)) (K (AV.bool false) []) (loopCode (Pg.toProgram (Env.P (EB.E (BRg κ)))) 12 4 = loopCode (Pg.toProgram (Env.P
  (EB.E (BRg κ)))) 12 4 ∧ ∃ (a : List AV × List AV × Nat), sp 26 [(0, AV.lst 31 l), (1, AV.lst 31 m), (5, AV.int 0)] [] = stSa a ∧ sideAl a ∧ brn (decide
  (List.map keyS (List.drop a.2.2 a.1) = List.map keyS (List.drop a.2.2 a.2.1))) (K (AV.bool true) []) (K (AV.bool false) []))) := by kernel_rfl
def gSa : List AV → Option (Bool × AV)
  | [.lst 31 l, .lst 31 m] => some (decide (l.length ≤ 1000000000), .bool (decide (l.map keyS = m.map keyS)))
  | _ => none
theorem pSa (κ : Kp) : PureOk (BSal κ).E 12 12 gSa := by
  intro args x hh
  unfold gSa at hh
  split at hh
  · rename_i l m
    simp only [Option.some.injEq, Prod.mk.injEq, decide_eq_true_eq] at hh
    obtain ⟨h1, rfl⟩ := hh
    refine ⟨_, rfl, rfl, Eq.mpr (ySa κ l m _) ?_⟩
    rw [brn_iff]
    refine ⟨fun e => ?_, fun e => ⟨rfl, ⟨l, m, 0⟩, rfl, ⟨?_, h1, Nat.zero_le _⟩, ?_⟩⟩
    · rw [bne_iff_ne] at e
      rw [decide_eq_false]
      intro e2
      have := congrArg List.length e2
      rw [List.length_map, List.length_map] at this
      exact e (by rw [this])
    · rw [bne_eq_false_iff_eq] at e
      simp only
      omega
    · rw [List.drop_zero, List.drop_zero, brn_iff]
      exact ⟨fun e => (by simp only at e; rw [e]), fun e => (by simp only at e; rw [e])⟩
  · cases hh
noncomputable def BSa (κ : Kp) : EB := (BSal κ).pure (pSa κ)
end Go.Proofs.YtbppdpbagmbmpaaGreatDoor
