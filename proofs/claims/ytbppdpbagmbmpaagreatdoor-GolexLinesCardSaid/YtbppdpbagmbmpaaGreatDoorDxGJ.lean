import Derived.Test.YtbppdpbagmbmpaaGreatDoorDxGH
import Derived.Test.YtbppdpbagmbmpaaGreatDoorDxGI
namespace Go.Proofs.YtbppdpbagmbmpaaGreatDoor
open Go Go.Dn Go.Proofs
attribute [local irreducible] funA vc
set_option maxRecDepth 20000
theorem yCt (κ : Kp) (s : ByteArray) (K : AV → List Dn.Obj → Prop) : (funA (BRe κ).E 12 9 [.lit (.string s)] [] K) = (
  cnd (true && decide ((0 : Int) ≤ if (3000 : Int) < (↑(ByteArray.size s) : Int) then (3000 : Int) else (↑(ByteArray.size s) : Int)) && decide ((if (3000 : Int) <
  (↑(ByteArray.size s) : Int) then (3000 : Int) else (↑(ByteArray.size s) : Int)) ≤ (↑(ByteArray.size s) : Int))) (K (AV.str (ByteArray.extract s 0 (Int.toNat
  (if (3000 : Int) < (↑(ByteArray.size s) : Int) then (3000 : Int) else (↑(ByteArray.size s) : Int))))) [])) := by kernel_rfl
def cutB (s : ByteArray) : ByteArray := s.extract 0 (min s.size 3000)
def gCt : List AV → Option (Bool × AV)
  | [.lit (.string s)] => some (true, .lit (.string (cutB s)))
  | _ => none
theorem pCt (κ : Kp) : PureOk (BRe κ).E 12 9 gCt := by
  intro args x hh
  unfold gCt at hh
  split at hh
  · rename_i s
    simp only [Option.some.injEq, Prod.mk.injEq, true_and] at hh
    subst hh
    refine ⟨_, rfl, rfl, Eq.mpr (yCt κ s _) ?_⟩
    have h : (if (3000 : Int) < (s.size : Int) then (3000 : Int) else (s.size : Int)) = ((min s.size 3000 : Nat) : Int) := by
      split <;> omega
    rw [h]
    refine cnd_iff.2 ⟨by simp; omega, ?_⟩
    rw [Int.toNat_natCast]; rfl
  · cases hh
noncomputable def BCt (κ : Kp) : EB := (BRe κ).pure (pCt κ)
abbrev stC0 (s : ByteArray) (toks : List AV) (at' e n m i : Int) : S := sp 123 [(0, .lit (.string s)), (3, .bool true), (4, .slc 0 0 toks.length), (5, .int at'), (6, .int e), (7, .int n), (8, .int m), (9, .int i)] [.row 31 toks]
abbrev stC1 (s : ByteArray) (at' e n m i : Int) : S := sp 123 [(0, .lit (.string s)), (3, .bool true), (4, .nil), (5, .int at'), (6, .int e), (7, .int n), (8, .int m), (9, .int i)] []
theorem xC0 (κ : Kp) (s : ByteArray) (toks : List AV) (at' e n m i : Int) (I : Nat → S → Prop) (N : Nat) (K : Exit → S → Prop) : (vc (BCt κ).E 12 5 none 0 (loopCode (Pr κ).toProgram 5 7) (stC0 s toks at' e n m i) (loopK (BCt κ).E 5 7 0 I N K)) = (
  brn (decide (i < (↑(ByteArray.size s) : Int))) (cnd (decide ((0 : Int) ≤ i) && decide (i < (↑(ByteArray.size s) : Int))) (brn ((↑(byteAt s i.toNat) : Int) == (10
  : Int)) (cnd (decide ((0 : Int) ≤ i) && decide (i < (↑(ByteArray.size s) : Int))) (brn ((↑(byteAt s i.toNat) : Int) == (59 : Int)) (∃ (m_1 : Nat), m_1 < N ∧ I
  m_1 (sp 123 [(0, AV.str s), (3, AV.bool true), (4, AV.slc 0 0 toks.length), (5, AV.int at'), (6, AV.int e), (7, AV.int (IntKind.wrap IntKind.i64 (n + (1 :
  Int)))), (8, AV.int (IntKind.wrap IntKind.i64 (m + (1 : Int)))), (9, AV.int (IntKind.wrap IntKind.i64 (i + (1 : Int))))] [Obj.row 31 toks])) (∃ (m_1 : Nat),
  m_1 < N ∧ I m_1 (sp 123 [(0, AV.str s), (3, AV.bool true), (4, AV.slc 0 0 toks.length), (5, AV.int at'), (6, AV.int e), (7, AV.int (IntKind.wrap IntKind.i64 (n
  + (1 : Int)))), (8, AV.int m), (9, AV.int (IntKind.wrap IntKind.i64 (i + (1 : Int))))] [Obj.row 31 toks])))) (cnd (decide ((0 : Int) ≤ i) && decide (i <
  (↑(ByteArray.size s) : Int))) (brn ((↑(byteAt s i.toNat) : Int) == (59 : Int)) (∃ (m_1 : Nat), m_1 < N ∧ I m_1 (sp 123 [(0, AV.str s), (3, AV.bool true), (4,
  AV.slc 0 0 toks.length), (5, AV.int at'), (6, AV.int e), (7, AV.int n), (8, AV.int (IntKind.wrap IntKind.i64 (m + (1 : Int)))), (9, AV.int (IntKind.wrap
  IntKind.i64 (i + (1 : Int))))] [Obj.row 31 toks])) (∃ (m_1 : Nat), m_1 < N ∧ I m_1 (sp 123 [(0, AV.str s), (3, AV.bool true), (4, AV.slc 0 0 toks.length), (5,
  AV.int at'), (6, AV.int e), (7, AV.int n), (8, AV.int m), (9, AV.int (IntKind.wrap IntKind.i64 (i + (1 : Int))))] [Obj.row 31 toks])))))) (K (Exit.exit 0) (sp
  123 [(3, AV.bool true), (4, AV.slc 0 0 toks.length), (5, AV.int at'), (6, AV.int e), (7, AV.int n), (8, AV.int m)] [Obj.row 31 toks]))) := by kernel_rfl
theorem xC1 (κ : Kp) (s : ByteArray) (at' e n m i : Int) (I : Nat → S → Prop) (N : Nat) (K : Exit → S → Prop) : (vc (BCt κ).E 12 5 none 0 (loopCode (Pr κ).toProgram 5 7) (stC1 s at' e n m i) (loopK (BCt κ).E 5 7 0 I N K)) = (
  brn (decide (i < (↑(ByteArray.size s) : Int))) (cnd (decide ((0 : Int) ≤ i) && decide (i < (↑(ByteArray.size s) : Int))) (brn ((↑(byteAt s i.toNat) : Int) == (10
  : Int)) (cnd (decide ((0 : Int) ≤ i) && decide (i < (↑(ByteArray.size s) : Int))) (brn ((↑(byteAt s i.toNat) : Int) == (59 : Int)) (∃ (m_1 : Nat), m_1 < N ∧ I
  m_1 (sp 123 [(0, AV.str s), (3, AV.bool true), (4, AV.nil), (5, AV.int at'), (6, AV.int e), (7, AV.int (IntKind.wrap IntKind.i64 (n + (1 : Int)))), (8, AV.int
  (IntKind.wrap IntKind.i64 (m + (1 : Int)))), (9, AV.int (IntKind.wrap IntKind.i64 (i + (1 : Int))))] [])) (∃ (m_1 : Nat), m_1 < N ∧ I m_1 (sp 123 [(0, AV.str
  s), (3, AV.bool true), (4, AV.nil), (5, AV.int at'), (6, AV.int e), (7, AV.int (IntKind.wrap IntKind.i64 (n + (1 : Int)))), (8, AV.int m), (9, AV.int
  (IntKind.wrap IntKind.i64 (i + (1 : Int))))] [])))) (cnd (decide ((0 : Int) ≤ i) && decide (i < (↑(ByteArray.size s) : Int))) (brn ((↑(byteAt s i.toNat) : Int)
  == (59 : Int)) (∃ (m_1 : Nat), m_1 < N ∧ I m_1 (sp 123 [(0, AV.str s), (3, AV.bool true), (4, AV.nil), (5, AV.int at'), (6, AV.int e), (7, AV.int n), (8,
  AV.int (IntKind.wrap IntKind.i64 (m + (1 : Int)))), (9, AV.int (IntKind.wrap IntKind.i64 (i + (1 : Int))))] [])) (∃ (m_1 : Nat), m_1 < N ∧ I m_1 (sp 123 [(0,
  AV.str s), (3, AV.bool true), (4, AV.nil), (5, AV.int at'), (6, AV.int e), (7, AV.int n), (8, AV.int m), (9, AV.int (IntKind.wrap IntKind.i64 (i + (1 :
  Int))))] [])))))) (K (Exit.exit 0) (sp 123 [(3, AV.bool true), (4, AV.nil), (5, AV.int at'), (6, AV.int e), (7, AV.int n), (8, AV.int m)] []))) := by kernel_rfl
abbrev stD (toks : List AV) (at' n m g i : Int) : S := sp 123 [(3, .bool true), (4, .slc 0 0 toks.length), (5, .int at'), (7, .int n), (8, .int m), (10, .int g), (11, .int i)] [.row 31 toks]
end Go.Proofs.YtbppdpbagmbmpaaGreatDoor
namespace Go.Proofs.YtbppdpbagmbmpaaGreatDoor
open Go Go.Dn Go.Proofs
attribute [local irreducible] funA vc
set_option maxRecDepth 20000
def nA (s : ByteArray) (i : Nat) : Int := 1 + (((bl s).take i).count 10 : Nat)
def mA (s : ByteArray) (i : Nat) : Int := (((bl s).take i).count 59 : Nat)
theorem take_succ {s : ByteArray} {i : Nat} (h : i < s.size) : ∃ b : UInt8, (bl s).take (i + 1) = (bl s).take i ++ [b] ∧ byteAt s i = b.toNat := by
  obtain ⟨b, h1, h2⟩ := bl_at h
  refine ⟨b, ?_, h2⟩
  have h3 : (bl s)[i]? = some b := by
    have := congrArg (·[0]?) h1
    simpa using this
  rw [List.take_add_one, h3]; rfl
theorem nA_succ {s : ByteArray} {i : Nat} (h : i < s.size) : nA s (i + 1) = bif ((byteAt s i : Nat) : Int) == 10 then nA s i + 1 else nA s i := by
  obtain ⟨b, h1, h2⟩ := take_succ h
  unfold nA
  rw [h1, h2, show (10 : Int) = (((10 : UInt8).toNat : Nat) : Int) from rfl, u8_eq, List.count_append]
  cases e : b == 10 with
  | true => rw [beq_iff_eq] at e; subst e; simp; omega
  | false =>
    have : b ≠ 10 := fun e' => by rw [e'] at e; cases e
    simp [this]
theorem mA_succ {s : ByteArray} {i : Nat} (h : i < s.size) : mA s (i + 1) = bif ((byteAt s i : Nat) : Int) == 59 then mA s i + 1 else mA s i := by
  obtain ⟨b, h1, h2⟩ := take_succ h
  unfold mA
  rw [h1, h2, show (59 : Int) = (((59 : UInt8).toNat : Nat) : Int) from rfl, u8_eq, List.count_append]
  cases e : b == 59 with
  | true => rw [beq_iff_eq] at e; subst e; simp
  | false =>
    have : b ≠ 59 := fun e' => by rw [e'] at e; cases e
    simp [this]
theorem nA_le (s : ByteArray) (i : Nat) : 1 ≤ nA s i ∧ nA s i ≤ 1 + i := by
  have := List.count_le_length (a := (10 : UInt8)) (l := (bl s).take i)
  rw [List.length_take] at this
  unfold nA; omega
theorem mA_le (s : ByteArray) (i : Nat) : 0 ≤ mA s i ∧ mA s i ≤ i := by
  have := List.count_le_length (a := (59 : UInt8)) (l := (bl s).take i)
  rw [List.length_take] at this
  unfold mA; omega
structure ACn where
  s : ByteArray
  ok : Bool
  toks : List AV
  pl : Int
  e : Int
  i : Nat
def stCn (x : ACn) : S := match x.ok with
  | true => stC0 x.s x.toks x.pl x.e (nA x.s x.i) (mA x.s x.i) x.i
  | false => stC1 x.s x.pl x.e (nA x.s x.i) (mA x.s x.i) x.i
def sideCn (x : ACn) : Prop := x.s.size ≤ 3000 ∧ x.i ≤ x.s.size
def outCn (x : ACn) : Out (Exit × S) := .brn x.ok
  (.one (.exit 0, sp 123 [(3, .bool true), (4, .slc 0 0 x.toks.length), (5, .int x.pl), (6, .int x.e), (7, .int (nA x.s x.s.size)), (8, .int (mA x.s x.s.size))] [.row 31 x.toks]))
  (.one (.exit 0, sp 123 [(3, .bool true), (4, .nil), (5, .int x.pl), (6, .int x.e), (7, .int (nA x.s x.s.size)), (8, .int (mA x.s x.s.size))] []))
theorem lCn (κ : Kp) : LoopOk (BCt κ).E 12 5 7 (loopE 0 stCn sideCn outCn) := by
  refine loopE_ok (fun x => x.s.size - x.i) ?_
  rintro ⟨s, ok, toks, pl, e, i⟩ K ⟨h1, h2⟩ ho
  simp only at h1 h2
  rw [show (BCt κ).E.P = Pr κ from rfl]
  have hn := nA_le s i
  have hm := mA_le s i
  have w1 : IntKind.wrap .i64 (nA s i + 1) = nA s i + 1 := wrap_ok (by omega) (by omega)
  have w2 : IntKind.wrap .i64 (mA s i + 1) = mA s i + 1 := wrap_ok (by omega) (by omega)
  have w3 : IntKind.wrap .i64 ((i : Int) + 1) = ((i + 1 : Nat) : Int) := by rw [wrap_ok (by omega) (by omega)]; rfl
  cases ok with
  | true =>
    have ho := (brn_iff.1 ho).1 rfl
    refine Eq.mpr (xC0 κ s toks pl e (nA s i) (mA s i) i _ _ K) ?_
    rw [w1, w2, w3, Int.toNat_natCast, brn_iff]
    refine ⟨fun h => ?_, fun h => ?_⟩
    · have hi : i < s.size := by have := of_decide_eq_true h; omega
      have hc : (decide ((0 : Int) ≤ (i : Int)) && decide ((i : Int) < (s.size : Int))) = true := by simp; omega
      have n1 := nA_succ hi
      have m1 := mA_succ hi
      have next : ∀ n' m', n' = nA s (i + 1) → m' = mA s (i + 1) → ∃ M, M < s.size - i ∧ invOf stCn sideCn outCn (fun x => x.s.size - x.i) K M (stC0 s toks pl e n' m' ((i + 1 : Nat) : Int)) := fun n' m' hn hm => by
        subst hn hm
        exact ⟨s.size - (i + 1), by omega, ⟨s, true, toks, pl, e, i + 1⟩, rfl, ⟨h1, hi⟩, rfl, brn_iff.2 ⟨fun _ => ho, fun e => (by cases e)⟩⟩
      refine cnd_iff.2 ⟨hc, brn_iff.2 ⟨fun a => cnd_iff.2 ⟨hc, brn_iff.2 ⟨fun b => ?_, fun b => ?_⟩⟩, fun a => cnd_iff.2 ⟨hc, brn_iff.2 ⟨fun b => ?_, fun b => ?_⟩⟩⟩⟩
      all_goals
        rw [a] at n1
        rw [b] at m1
        exact next _ _ n1.symm m1.symm
    · obtain rfl : i = s.size := by have := of_decide_eq_false h; omega
      exact ho
  | false =>
    have ho := (brn_iff.1 ho).2 rfl
    refine Eq.mpr (xC1 κ s pl e (nA s i) (mA s i) i _ _ K) ?_
    rw [w1, w2, w3, Int.toNat_natCast, brn_iff]
    refine ⟨fun h => ?_, fun h => ?_⟩
    · have hi : i < s.size := by have := of_decide_eq_true h; omega
      have hc : (decide ((0 : Int) ≤ (i : Int)) && decide ((i : Int) < (s.size : Int))) = true := by simp; omega
      have n1 := nA_succ hi
      have m1 := mA_succ hi
      have next : ∀ n' m', n' = nA s (i + 1) → m' = mA s (i + 1) → ∃ M, M < s.size - i ∧ invOf stCn sideCn outCn (fun x => x.s.size - x.i) K M (stC1 s pl e n' m' ((i + 1 : Nat) : Int)) := fun n' m' hn hm => by
        subst hn hm
        exact ⟨s.size - (i + 1), by omega, ⟨s, false, toks, pl, e, i + 1⟩, rfl, ⟨h1, hi⟩, rfl, brn_iff.2 ⟨fun e => (by cases e), fun _ => ho⟩⟩
      refine cnd_iff.2 ⟨hc, brn_iff.2 ⟨fun a => cnd_iff.2 ⟨hc, brn_iff.2 ⟨fun b => ?_, fun b => ?_⟩⟩, fun a => cnd_iff.2 ⟨hc, brn_iff.2 ⟨fun b => ?_, fun b => ?_⟩⟩⟩⟩
      all_goals
        rw [a] at n1
        rw [b] at m1
        exact next _ _ n1.symm m1.symm
    · obtain rfl : i = s.size := by have := of_decide_eq_false h; omega
      exact ho
noncomputable def BCn (κ : Kp) : EB := (BCt κ).loop (lCn κ)
end Go.Proofs.YtbppdpbagmbmpaaGreatDoor
namespace Go.Proofs.YtbppdpbagmbmpaaGreatDoor
open Go Go.Dn Go.Proofs
attribute [local irreducible] funA vc
set_option maxRecDepth 20000
theorem nth_avT : ∀ (l : List TK) (i : Nat) (x : TK), l[i]? = some x → nth (l.map avT) i = avT x
  | [], i, x, h => by cases h
  | y :: l, 0, x, h => by cases h; rfl
  | y :: l, i + 1, x, h => nth_avT l i x h
structure ADn where
  toks : List TK
  pl : Int
  n : Int
  m : Int
  i : Nat
def smI (l : List TK) (i : Nat) : Int := (((l.take i).countP isSm : Nat) : Int)
def stDn (x : ADn) : S := stD (x.toks.map avT) x.pl x.n x.m (smI x.toks x.i) x.i
def sideDn (x : ADn) : Prop := x.i ≤ x.toks.length ∧ x.toks.length ≤ 1000000000 ∧ (∀ y ∈ x.toks, 1 ≤ y.2.2 ∧ y.2.2 ≤ x.n) ∧ x.toks.Pairwise fun a b => a.2.2 ≤ b.2.2
def outDn (x : ADn) : Out (Exit × S) := .one (.exit 2, sp 123 [(3, .bool true), (5, .int x.pl), (7, .int x.n), (8, .int x.m), (10, .int ((x.toks.countP isSm : Nat) : Int))] [])
theorem smI_succ {l : List TK} {i : Nat} {x : TK} (h : l[i]? = some x) : smI l (i + 1) = bif isSm x then smI l i + 1 else smI l i := by
  unfold smI
  rw [List.take_add_one, h, List.countP_append]
  cases e : isSm x with
  | true => simp [e]
  | false => simp [e]
theorem xD (κ : Kp) (toks : List AV) (at' n m g : Int) (i : Nat) (I : Nat → S → Prop) (N : Nat) (K : Exit → S → Prop) : (vc (BCn κ).E 12 5 none 0 (loopCode (Pr κ).toProgram 5 17) (stD toks at' n m g i) (loopK (BCn κ).E 5 17 0 I N K)) = (
  brn (decide ((↑i : Int) < (↑(toks.length) : Int))) (cnd (true && decide ((↑i : Int) < (↑(toks.length) : Int))) (brn (decide (toInt (fld (nth toks (0 + Int.toNat
  (↑i : Int))) 2) < (1 : Int))) (K Exit.ret (sp 123 [(2, AV.bool false)] [])) (cnd (true && decide ((↑i : Int) < (↑(toks.length) : Int))) (brn (decide (toInt
  (fld (nth toks (0 + Int.toNat (↑i : Int))) 2) > n)) (K Exit.ret (sp 123 [(2, AV.bool false)] [])) (brn (decide ((↑i : Int) > (0 : Int))) (cnd (true && decide
  ((↑i : Int) < (↑(toks.length) : Int))) (cnd (decide ((0 : Int) ≤ IntKind.wrap IntKind.i64 ((↑i : Int) - (1 : Int))) && decide (IntKind.wrap IntKind.i64 ((↑i :
  Int) - (1 : Int)) < (↑(toks.length) : Int))) (brn (decide (toInt (fld (nth toks (0 + Int.toNat (↑i : Int))) 2) < toInt (fld (nth toks (0 + Int.toNat
  (IntKind.wrap IntKind.i64 ((↑i : Int) - (1 : Int))))) 2))) (K Exit.ret (sp 123 [(2, AV.bool false)] [])) (cnd (true && decide ((↑i : Int) < (↑(toks.length) :
  Int))) (brn (toInt (fld (nth toks (0 + Int.toNat (↑i : Int))) 0) == (4 : Int)) (cnd (true && decide ((↑i : Int) < (↑(toks.length) : Int))) (brn
  (ByteArray.toList (toStr (fld (nth toks (0 + Int.toNat (↑i : Int))) 1)) == ByteArray.toList { data := #[OfNat.ofNat 59] }) (∃ (m_1 : Nat), m_1 < N ∧ I m_1 (sp
  123 [(3, AV.bool true), (4, AV.slc 0 0 toks.length), (5, AV.int at'), (7, AV.int n), (8, AV.int m), (10, AV.int (IntKind.wrap IntKind.i64 (g + (1 : Int)))),
  (11, AV.lit (Value.int IntKind.i64 (IntKind.wrap IntKind.i64 ((↑i : Int) + (1 : Int)))))] [Obj.row 31 toks])) (∃ (m_1 : Nat), m_1 < N ∧ I m_1 (sp 123 [(3,
  AV.bool true), (4, AV.slc 0 0 toks.length), (5, AV.int at'), (7, AV.int n), (8, AV.int m), (10, AV.int g), (11, AV.lit (Value.int IntKind.i64 (IntKind.wrap
  IntKind.i64 ((↑i : Int) + (1 : Int)))))] [Obj.row 31 toks])))) (∃ (m_1 : Nat), m_1 < N ∧ I m_1 (sp 123 [(3, AV.bool true), (4, AV.slc 0 0 toks.length), (5,
  AV.int at'), (7, AV.int n), (8, AV.int m), (10, AV.int g), (11, AV.int (IntKind.wrap IntKind.i64 ((↑i : Int) + (1 : Int))))] [Obj.row 31 toks]))))))) (cnd
  (true && decide ((↑i : Int) < (↑(toks.length) : Int))) (brn (toInt (fld (nth toks (0 + Int.toNat (↑i : Int))) 0) == (4 : Int)) (cnd (true && decide ((↑i : Int)
  < (↑(toks.length) : Int))) (brn (ByteArray.toList (toStr (fld (nth toks (0 + Int.toNat (↑i : Int))) 1)) == ByteArray.toList { data := #[OfNat.ofNat 59] }) (∃
  (m_1 : Nat), m_1 < N ∧ I m_1 (sp 123 [(3, AV.bool true), (4, AV.slc 0 0 toks.length), (5, AV.int at'), (7, AV.int n), (8, AV.int m), (10, AV.int (IntKind.wrap
  IntKind.i64 (g + (1 : Int)))), (11, AV.int (IntKind.wrap IntKind.i64 ((↑i : Int) + (1 : Int))))] [Obj.row 31 toks])) (∃ (m_1 : Nat), m_1 < N ∧ I m_1 (sp 123
  [(3, AV.bool true), (4, AV.slc 0 0 toks.length), (5, AV.int at'), (7, AV.int n), (8, AV.int m), (10, AV.int g), (11, AV.int (IntKind.wrap IntKind.i64 ((↑i :
  Int) + (1 : Int))))] [Obj.row 31 toks])))) (∃ (m_1 : Nat), m_1 < N ∧ I m_1 (sp 123 [(3, AV.bool true), (4, AV.slc 0 0 toks.length), (5, AV.int at'), (7, AV.int
  n), (8, AV.int m), (10, AV.int g), (11, AV.int (IntKind.wrap IntKind.i64 ((↑i : Int) + (1 : Int))))] [Obj.row 31 toks]))))))))) (K (Exit.exit 2) (sp 123 [(3,
  AV.bool true), (5, AV.int at'), (7, AV.int n), (8, AV.int m), (10, AV.int g)] []))) := by kernel_rfl
theorem lDn (κ : Kp) : LoopOk (BCn κ).E 12 5 17 (loopE 0 stDn sideDn outDn) := by
  refine loopE_ok (fun x => x.toks.length - x.i) ?_
  rintro ⟨toks, pl, n, m, i⟩ K ⟨h1, h2, h3, h4⟩ ho
  simp only at h1 h2 h3 h4
  rw [show (BCn κ).E.P = Pr κ from rfl]
  refine Eq.mpr (xD κ (toks.map avT) pl n m (smI toks i) i _ _ K) ?_
  have ho : K (.exit 2) (sp 123 [(3, .bool true), (5, .int pl), (7, .int n), (8, .int m), (10, .int ((toks.countP isSm : Nat) : Int))] []) := ho
  have hle : smI toks i ≤ i := by
    have := List.countP_le_length (p := isSm) (l := toks.take i)
    rw [List.length_take] at this
    unfold smI; omega
  have hl0 : 0 ≤ smI toks i := Int.natCast_nonneg _
  have w2 : IntKind.wrap .i64 (smI toks i + 1) = smI toks i + 1 := wrap_ok (by omega) (by omega)
  have w3 : IntKind.wrap .i64 ((i : Int) + 1) = ((i + 1 : Nat) : Int) := by rw [wrap_ok (by omega) (by omega)]; rfl
  have w4 : IntKind.wrap .i64 ((i : Int) - 1) = (i : Int) - 1 := wrap_ok (by omega) (by omega)
  have hlm : (toks.map avT).length = toks.length := List.length_map ..
  rw [w2, w3, w4, Int.toNat_natCast, Nat.zero_add, brn_iff]
  refine ⟨fun h => ?_, fun h => ?_⟩
  · have hi : i < toks.length := by have := of_decide_eq_true h; omega
    have hc : (true && decide ((i : Int) < ((toks.map avT).length : Int))) = true := by simp; omega
    have hx : toks[i]? = some toks[i] := List.getElem?_eq_getElem hi
    have hb := h3 toks[i] (List.getElem_mem hi)
    have hs := smI_succ hx
    have next : ∀ g', g' = smI toks (i + 1) → ∃ M, M < toks.length - i ∧ invOf stDn sideDn outDn (fun x => x.toks.length - x.i) K M (stD (toks.map avT) pl n m g' ((i + 1 : Nat) : Int)) := fun g' hg => by
      subst hg
      exact ⟨toks.length - (i + 1), by omega, ⟨toks, pl, n, m, i + 1⟩, rfl, ⟨hi, h2, h3, h4⟩, rfl, ho⟩
    rw [nth_avT toks i _ hx]
    have hp : 0 < i → nth (toks.map avT) (0 + ((i : Int) - 1).toNat) = avT toks[i - 1] := fun h0 => by
      rw [show (0 + ((i : Int) - 1).toNat) = i - 1 by omega]
      exact nth_avT toks (i - 1) _ (List.getElem?_eq_getElem (by omega))
    have hq : ∀ h0 : 0 < i, toks[i - 1].2.2 ≤ toks[i].2.2 := fun h0 => List.pairwise_iff_getElem.1 h4 (i - 1) i (by omega) hi (by omega)
    generalize toks[i] = x at hx hb hs hq ⊢
    obtain ⟨k, s, ln⟩ := x
    simp only at hb hq
    have fin : brn (k == 4) (cnd (true && decide ((i : Int) < ((toks.map avT).length : Int))) (brn (ByteArray.toList s == ByteArray.toList ⟨#[59]⟩) (∃ M, M < toks.length - i ∧ invOf stDn sideDn outDn (fun x => x.toks.length - x.i) K M (stD (toks.map avT) pl n m (smI toks i + 1) ((i + 1 : Nat) : Int))) (∃ M, M < toks.length - i ∧ invOf stDn sideDn outDn (fun x => x.toks.length - x.i) K M (stD (toks.map avT) pl n m (smI toks i) ((i + 1 : Nat) : Int))))) (∃ M, M < toks.length - i ∧ invOf stDn sideDn outDn (fun x => x.toks.length - x.i) K M (stD (toks.map avT) pl n m (smI toks i) ((i + 1 : Nat) : Int))) := by
      have e : isSm (k, s, ln) = ((k == 4) && (ByteArray.toList s == ByteArray.toList ⟨#[59]⟩)) := rfl
      rw [e] at hs
      refine brn_iff.2 ⟨fun a => cnd_iff.2 ⟨hc, brn_iff.2 ⟨fun b => ?_, fun b => ?_⟩⟩, fun a => ?_⟩
      · rw [a, b] at hs; exact next _ hs.symm
      · rw [a, b] at hs; exact next _ hs.symm
      · rw [a] at hs; exact next _ hs.symm
    refine cnd_iff.2 ⟨hc, brn_iff.2 ⟨fun e => ?_, fun _ => cnd_iff.2 ⟨hc, brn_iff.2 ⟨fun e => ?_, fun _ => brn_iff.2 ⟨fun e0 => cnd_iff.2 ⟨hc, cnd_iff.2 ⟨?_, ?_⟩⟩, fun _ => cnd_iff.2 ⟨hc, fin⟩⟩⟩⟩⟩⟩
    · have := of_decide_eq_true e
      have : ln < 1 := this
      omega
    · have := of_decide_eq_true e
      have : ln > n := this
      omega
    · have := of_decide_eq_true e0
      simp; omega
    · have h0 : 0 < i := by have := of_decide_eq_true e0; omega
      rw [hp h0]
      refine brn_iff.2 ⟨fun e => ?_, fun _ => cnd_iff.2 ⟨hc, fin⟩⟩
      have := of_decide_eq_true e
      have : ln < toks[i - 1].2.2 := this
      have := hq h0
      omega
  · obtain rfl : i = toks.length := by have := of_decide_eq_false h; omega
    unfold smI
    rw [List.take_length]
    exact ho
noncomputable def BDn (κ : Kp) : EB := (BCn κ).loop (lDn κ)
theorem yGl (κ : Kp) (s : ByteArray) (K : AV → List Dn.Obj → Prop) : (funA (BDn κ).E 12 5 [.lit (.string s)] [] K) = (
  ∃ (a : ByteArray), ([AV.str (cutB s)], []) = stLx a ∧ sideLx a ∧ brn (Option.isNone (Prod.snd (Prod.snd (lexA a)))) (loopCode (Pg.toProgram (Env.P (EB.E (BCt
  κ)))) 5 7 = loopCode (Pg.toProgram (Env.P (EB.E (BCt κ)))) 5 7 ∧ ∃ (a_1 : ACn), sp 123 [(0, AV.str (cutB s)), (3, AV.bool true), (4, AV.slc 0 0 (List.length
  (List.map avT (Prod.fst (lexA a))))), (5, AV.int 0), (6, AV.int 0), (7, AV.int 1), (8, AV.int 0), (9, AV.int 0)] [Obj.row 31 (List.map avT (Prod.fst (lexA
  a)))] = stCn a_1 ∧ sideCn a_1 ∧ brn a_1.ok (brn (a_1.e != (0 : Int)) (brn (decide (a_1.pl ≥ (1 : Int))) (brn (decide (a_1.pl ≤ nA a_1.s (ByteArray.size
  a_1.s))) (K (AV.bool ((↑(a_1.toks.length) : Int) == (0 : Int))) []) (K (AV.bool false) [])) (K (AV.bool false) [])) (loopCode (Pg.toProgram (Env.P (EB.E (BCn
  κ)))) 5 17 = loopCode (Pg.toProgram (Env.P (EB.E (BCn κ)))) 5 17 ∧ ∃ (a : ADn), sp 123 [(3, AV.bool true), (4, AV.slc 0 0 a_1.toks.length), (5, AV.int a_1.pl),
  (7, AV.int (nA a_1.s (ByteArray.size a_1.s))), (8, AV.int (mA a_1.s (ByteArray.size a_1.s))), (10, AV.int 0), (11, AV.int 0)] [Obj.row 31 a_1.toks] = stDn a ∧
  sideDn a ∧ brn (a.pl == (0 : Int)) (K (AV.bool (decide ((↑(List.countP isSm a.toks) : Int) ≤ IntKind.wrap IntKind.i64 (a.m + a.n)))) []) (K (AV.bool false)
  []))) (brn (a_1.e != (0 : Int)) (brn (decide (a_1.pl ≥ (1 : Int))) (brn (decide (a_1.pl ≤ nA a_1.s (ByteArray.size a_1.s))) (K (AV.bool true) []) (K (AV.bool
  false) [])) (K (AV.bool false) [])) (loopCode (Pg.toProgram (Env.P (EB.E (BCn κ)))) 5 17 = loopCode (Pg.toProgram (Env.P (EB.E (BCn κ)))) 5 17 ∧ ∃ (a : ADn),
  sp 123 [(3, AV.bool true), (4, AV.nil), (5, AV.int a_1.pl), (7, AV.int (nA a_1.s (ByteArray.size a_1.s))), (8, AV.int (mA a_1.s (ByteArray.size a_1.s))), (10,
  AV.int 0), (11, AV.int 0)] [] = stDn a ∧ sideDn a ∧ brn (a.pl == (0 : Int)) (K (AV.bool (decide ((↑(List.countP isSm a.toks) : Int) ≤ IntKind.wrap IntKind.i64
  (a.m + a.n)))) []) (K (AV.bool false) [])))) (loopCode (Pg.toProgram (Env.P (EB.E (BCt κ)))) 5 7 = loopCode (Pg.toProgram (Env.P (EB.E (BCt κ)))) 5 7 ∧ ∃ (a_1
  : ACn), sp 123 [(0, AV.str (cutB s)), (3, AV.bool true), (4, AV.nil), (5, AV.int (Prod.fst (Prod.snd (lexA a)))), (6, AV.int (Option.getD (Prod.snd (Prod.snd
  (lexA a))) (0 : Int))), (7, AV.int 1), (8, AV.int 0), (9, AV.int 0)] [] = stCn a_1 ∧ sideCn a_1 ∧ brn a_1.ok (brn (a_1.e != (0 : Int)) (brn (decide (a_1.pl ≥
  (1 : Int))) (brn (decide (a_1.pl ≤ nA a_1.s (ByteArray.size a_1.s))) (K (AV.bool ((↑(a_1.toks.length) : Int) == (0 : Int))) []) (K (AV.bool false) [])) (K
  (AV.bool false) [])) (loopCode (Pg.toProgram (Env.P (EB.E (BCn κ)))) 5 17 = loopCode (Pg.toProgram (Env.P (EB.E (BCn κ)))) 5 17 ∧ ∃ (a : ADn), sp 123 [(3,
  AV.bool true), (4, AV.slc 0 0 a_1.toks.length), (5, AV.int a_1.pl), (7, AV.int (nA a_1.s (ByteArray.size a_1.s))), (8, AV.int (mA a_1.s (ByteArray.size
  a_1.s))), (10, AV.int 0), (11, AV.int 0)] [Obj.row 31 a_1.toks] = stDn a ∧ sideDn a ∧ brn (a.pl == (0 : Int)) (K (AV.bool (decide ((↑(List.countP isSm a.toks)
  : Int) ≤ IntKind.wrap IntKind.i64 (a.m + a.n)))) []) (K (AV.bool false) []))) (brn (a_1.e != (0 : Int)) (brn (decide (a_1.pl ≥ (1 : Int))) (brn (decide (a_1.pl
  ≤ nA a_1.s (ByteArray.size a_1.s))) (K (AV.bool true) []) (K (AV.bool false) [])) (K (AV.bool false) [])) (loopCode (Pg.toProgram (Env.P (EB.E (BCn κ)))) 5 17
  = loopCode (Pg.toProgram (Env.P (EB.E (BCn κ)))) 5 17 ∧ ∃ (a : ADn), sp 123 [(3, AV.bool true), (4, AV.nil), (5, AV.int a_1.pl), (7, AV.int (nA a_1.s
  (ByteArray.size a_1.s))), (8, AV.int (mA a_1.s (ByteArray.size a_1.s))), (10, AV.int 0), (11, AV.int 0)] [] = stDn a ∧ sideDn a ∧ brn (a.pl == (0 : Int)) (K
  (AV.bool (decide ((↑(List.countP isSm a.toks) : Int) ≤ IntKind.wrap IntKind.i64 (a.m + a.n)))) []) (K (AV.bool false) []))))) := by kernel_rfl
end Go.Proofs.YtbppdpbagmbmpaaGreatDoor
namespace Go.Proofs.YtbppdpbagmbmpaaGreatDoor
open Go Go.Dn Go.Proofs
attribute [local irreducible] funA vc
set_option maxRecDepth 20000
theorem cut_size (s : ByteArray) : (cutB s).size ≤ 3000 := by
  unfold cutB
  rw [ByteArray.size_extract]; omega
theorem sum_mkB (f : List UInt8 → Nat) (l : List (List UInt8)) : (((l.map mkB)).map fun t => f (bl t)).sum = (l.map f).sum := by
  rw [List.map_map]
  congr 2
theorem simGl (κ : Kp) (s : ByteArray) : SimCall (Pr κ) 5 [.lit (.string s)] [] fun r _ => r = .bool true :=
  fun_sound (BDn κ).ok (BDn κ).mono (Eq.mpr (yGl κ s _) (by
    have hz := cut_size s
    generalize cutB s = t at hz ⊢
    obtain ⟨q1, q2⟩ := lexA_eq (s := t) (by omega)
    have hn : nA t t.size = ((linL (bl t)).length : Int) := by
      unfold nA
      rw [linL_len, List.take_of_length_le (by rw [bl_len]; exact Nat.le_refl _)]; omega
    have hm : mA t t.size = ((bl t).count 59 : Int) := by
      unfold mA
      rw [List.take_of_length_le (by rw [bl_len]; exact Nat.le_refl _)]
    have h0 : nA t 0 = 1 := rfl
    have h1 : mA t 0 = 0 := rfl
    have hll : (linL (bl t)).length ≤ 3001 := by
      rw [linL_len]
      have := List.count_le_length (a := (10 : UInt8)) (l := bl t)
      rw [bl_len] at this; omega
    have hcc : (bl t).count 59 ≤ 3000 := by
      have := List.count_le_length (a := (59 : UInt8)) (l := bl t)
      rw [bl_len] at this; omega
    refine ⟨t, rfl, trivial, brn_iff.2 ⟨fun e => ?_, fun e => ?_⟩⟩
    · cases hg : lexG (linB t) 0 with
      | none =>
        obtain ⟨a, ha⟩ := q2 hg
        rw [ha] at e; cases e
      | some l =>
        rw [q1 l hg]
        obtain ⟨g1, g2, g3⟩ := lexG_lines _ _ _ hg
        rw [List.length_map] at g1 g3
        rw [sum_mkB (fun x => x.count 59), linL_count (by decide)] at g3
        have hlen : l.length ≤ 1000000000 := by
          exact lexG_len (n := 1000000000) (by rw [sumL_lin]; omega) hg
        refine ⟨rfl, ⟨t, true, l.map avT, 0, 0, 0⟩, by rw [stCn, h0, h1]; rfl, ⟨hz, Nat.zero_le _⟩, brn_iff.2 ⟨fun _ => brn_iff.2 ⟨fun e => (by cases e), fun _ => ?_⟩, fun e => (by cases e)⟩⟩
        refine ⟨rfl, ⟨l, 0, nA t t.size, mA t t.size, 0⟩, rfl, ⟨Nat.zero_le _, hlen, fun y hy => ?_, g2⟩, brn_iff.2 ⟨fun _ => ?_, fun e => (by cases e)⟩⟩
        · have := g1 y hy
          show 1 ≤ y.2.2 ∧ y.2.2 ≤ nA t t.size
          rw [hn]; omega
        · show AV.bool _ = AV.bool true
          simp only
          rw [hn, hm, wrap_ok (by omega) (by omega), decide_eq_true (by omega)]
    · cases hg : lexG (linB t) 0 with
      | some l =>
        rw [q1 l hg] at e; cases e
      | none =>
        obtain ⟨a, ha⟩ := q2 hg
        rw [ha]
        have hb := badG_lines _ _ hg
        rw [List.length_map] at hb
        refine ⟨rfl, ⟨t, false, [], badG (linB t) 0, 160, 0⟩, by rw [stCn, h0, h1]; rfl, ⟨hz, Nat.zero_le _⟩, brn_iff.2 ⟨fun e => (by cases e), fun _ => brn_iff.2 ⟨fun _ => brn_iff.2 ⟨fun _ => brn_iff.2 ⟨fun _ => rfl, fun e => ?_⟩, fun e => ?_⟩, fun e => (by cases e)⟩⟩⟩
        · exfalso
          have := of_decide_eq_false e
          simp only at this
          rw [hn] at this; omega
        · exfalso
          have := of_decide_eq_false e
          simp only at this
          omega))
end Go.Proofs.YtbppdpbagmbmpaaGreatDoor
