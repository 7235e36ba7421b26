import Derived.Test.YtidmfjdechhnmaaDoorDsM5
/-
  DsafeFacts: the law's walk.
-/
namespace Go.Proofs.YtidmfjdechhnmaaDoor
open Go Go.Dn Go.Rl Go.Proofs
attribute [local irreducible] funA vc

structure A3 where
  rel : ByteArray
  ns : List AV
  ts : List AV
  i : Int

abbrev bx3a (rel : ByteArray) : List Dn.Obj := [.box 26 (.agg [.lit (.string rel), .nil])]
abbrev bx3b (rel : ByteArray) (ts : List AV) : List Dn.Obj := [.box 26 (.agg [.lit (.string rel), .slc 1 0 ts.length]), .row 28 ts]
def bx3 (rel : ByteArray) : List AV → List Dn.Obj
  | [] => bx3a rel
  | t :: ts => bx3b rel (t :: ts)

theorem x3a (κ : Kp) (rel : ByteArray) (ns : List AV) (i : Int) (I : Nat → S → Prop) (n : Nat) (K : Exit → S → Prop) : (vc (E6 κ) 12 3 none 0 (loopCode (Pr κ).toProgram 3 4) (sp 70 [(1, .lst 2 ns), (5, .bool true), (6, .ptr 0 0 [] 0), (7, .int i)] (bx3a rel)) (loopK (E6 κ) 3 4 0 I n K)) = (
  brn (decide (i < (↑(List.length ns) : Int))) (brn (decide (i < (8 : Int))) (cnd (decide ((0 : Int) ≤ i) && decide (i < (↑(List.length ns) : Int))) (((∃ (m :
  Nat), m < n ∧ I m (sp (70 : Nat) [((1 : Nat), AV.lst (2 : Nat) ns), ((5 : Nat), AV.lit (Value.bool true)), ((6 : Nat), AV.ptr (0 : Nat) (0 : Nat) [] (0 :
  Nat)), ((7 : Nat), AV.lit (Value.int IntKind.i64 (IntKind.wrap IntKind.i64 (i + (1 : Int)))))] [Obj.box (26 : Nat) (AV.agg [AV.lit (Value.string rel), AV.slc
  (1 : Nat) (0 : Nat) (1 : Nat)]), Obj.row (28 : Nat) [AV.agg [AV.lit (Value.int IntKind.i64 (2 : Int)), AV.lit (Value.string { data := #[] }), AV.lit (Value.int
  IntKind.i64 (toInt (nth ns (Int.toNat i)))), AV.lit (Value.slice none (0 : Nat) (0 : Nat))]]])) ∧ ∃ (m : Nat), m < n ∧ I m (sp (70 : Nat) [((1 : Nat), AV.lst
  (2 : Nat) ns), ((5 : Nat), AV.lit (Value.bool true)), ((6 : Nat), AV.ptr (0 : Nat) (0 : Nat) [] (0 : Nat)), ((7 : Nat), AV.lit (Value.int IntKind.i64
  (IntKind.wrap IntKind.i64 (i + (1 : Int)))))] [Obj.box (26 : Nat) (AV.agg [AV.lit (Value.string rel), AV.slc (1 : Nat) (0 : Nat) (1 : Nat)]), Obj.row (28 :
  Nat) [AV.agg [AV.lit (Value.int IntKind.i64 (2 : Int)), AV.lit (Value.string { data := #[] }), AV.lit (Value.int IntKind.i64 (toInt (nth ns (Int.toNat i)))),
  AV.lit (Value.slice none (0 : Nat) (0 : Nat))]]])) ∧ ∃ (m : Nat), m < n ∧ I m (sp (70 : Nat) [((1 : Nat), AV.lst (2 : Nat) ns), ((5 : Nat), AV.lit (Value.bool
  true)), ((6 : Nat), AV.ptr (0 : Nat) (0 : Nat) [] (0 : Nat)), ((7 : Nat), AV.lit (Value.int IntKind.i64 (IntKind.wrap IntKind.i64 (i + (1 : Int)))))] [Obj.box
  (26 : Nat) (AV.agg [AV.lit (Value.string rel), AV.slc (1 : Nat) (0 : Nat) (1 : Nat)]), Obj.row (28 : Nat) [AV.agg [AV.lit (Value.int IntKind.i64 (2 : Int)),
  AV.lit (Value.string { data := #[] }), AV.lit (Value.int IntKind.i64 (toInt (nth ns (Int.toNat i)))), AV.lit (Value.slice none (0 : Nat) (0 : Nat))]]]))) (K
  (Exit.exit (0 : Nat)) (sp (70 : Nat) [((5 : Nat), AV.lit (Value.bool true)), ((6 : Nat), AV.ptr (0 : Nat) (0 : Nat) [] (0 : Nat))] [Obj.box (26 : Nat) (AV.agg
  [AV.lit (Value.string rel), AV.lit (Value.slice none (0 : Nat) (0 : Nat))])]))) (K (Exit.exit (0 : Nat)) (sp (70 : Nat) [((5 : Nat), AV.lit (Value.bool true)),
  ((6 : Nat), AV.ptr (0 : Nat) (0 : Nat) [] (0 : Nat))] [Obj.box (26 : Nat) (AV.agg [AV.lit (Value.string rel), AV.lit (Value.slice none (0 : Nat) (0 :
  Nat))])]))) := by kernel_rfl


theorem x3b (κ : Kp) (rel : ByteArray) (ns : List AV) (i : Int) (ts : List AV) (I : Nat → S → Prop) (n : Nat) (K : Exit → S → Prop) : (vc (E6 κ) 12 3 none 0 (loopCode (Pr κ).toProgram 3 4) (sp 70 [(1, .lst 2 ns), (5, .bool true), (6, .ptr 0 0 [] 0), (7, .int i)] (bx3b rel ts)) (loopK (E6 κ) 3 4 0 I n K)) = (
  brn (decide (i < (↑(List.length ns) : Int))) (brn (decide (i < (8 : Int))) (cnd (decide ((0 : Int) ≤ i) && decide (i < (↑(List.length ns) : Int))) ((cnd (decide
  ((List.length ts + (1 : Nat) + (1 : Nat)) * (57 : Nat) ≤ (70368744177664 : Nat))) (∃ (m : Nat), m < n ∧ I m (sp (70 : Nat) [((1 : Nat), AV.lst (2 : Nat) ns),
  ((5 : Nat), AV.lit (Value.bool true)), ((6 : Nat), AV.ptr (0 : Nat) (0 : Nat) [] (0 : Nat)), ((7 : Nat), AV.lit (Value.int IntKind.i64 (IntKind.wrap
  IntKind.i64 (i + (1 : Int)))))] [Obj.box (26 : Nat) (AV.agg [AV.lit (Value.string rel), AV.slc (1 : Nat) (0 : Nat) (List.length ts + (1 : Nat))]), Obj.row (28
  : Nat) (List.take (List.length ts) ts ++ [AV.agg [AV.lit (Value.int IntKind.i64 (2 : Int)), AV.lit (Value.string { data := #[] }), AV.lit (Value.int
  IntKind.i64 (toInt (nth ns (Int.toNat i)))), AV.lit (Value.slice none (0 : Nat) (0 : Nat))]])])) ∧ cnd (decide ((List.length ts + (1 : Nat) + (1 : Nat)) * (57
  : Nat) ≤ (70368744177664 : Nat))) (∃ (m : Nat), m < n ∧ I m (sp (70 : Nat) [((1 : Nat), AV.lst (2 : Nat) ns), ((5 : Nat), AV.lit (Value.bool true)), ((6 :
  Nat), AV.ptr (0 : Nat) (0 : Nat) [] (0 : Nat)), ((7 : Nat), AV.lit (Value.int IntKind.i64 (IntKind.wrap IntKind.i64 (i + (1 : Int)))))] [Obj.box (26 : Nat)
  (AV.agg [AV.lit (Value.string rel), AV.slc (1 : Nat) (0 : Nat) (List.length ts + (1 : Nat))]), Obj.row (28 : Nat) (List.take (List.length ts) ts ++ [AV.agg
  [AV.lit (Value.int IntKind.i64 (2 : Int)), AV.lit (Value.string { data := #[] }), AV.lit (Value.int IntKind.i64 (toInt (nth ns (Int.toNat i)))), AV.lit
  (Value.slice none (0 : Nat) (0 : Nat))]])]))) ∧ cnd (decide ((List.length ts + (1 : Nat) + (1 : Nat)) * (57 : Nat) ≤ (70368744177664 : Nat))) (∃ (m : Nat), m <
  n ∧ I m (sp (70 : Nat) [((1 : Nat), AV.lst (2 : Nat) ns), ((5 : Nat), AV.lit (Value.bool true)), ((6 : Nat), AV.ptr (0 : Nat) (0 : Nat) [] (0 : Nat)), ((7 :
  Nat), AV.lit (Value.int IntKind.i64 (IntKind.wrap IntKind.i64 (i + (1 : Int)))))] [Obj.box (26 : Nat) (AV.agg [AV.lit (Value.string rel), AV.slc (1 : Nat) (0 :
  Nat) (List.length ts + (1 : Nat))]), Obj.row (28 : Nat) (List.take (List.length ts) ts ++ [AV.agg [AV.lit (Value.int IntKind.i64 (2 : Int)), AV.lit
  (Value.string { data := #[] }), AV.lit (Value.int IntKind.i64 (toInt (nth ns (Int.toNat i)))), AV.lit (Value.slice none (0 : Nat) (0 : Nat))]])])))) (K
  (Exit.exit (0 : Nat)) (sp (70 : Nat) [((5 : Nat), AV.lit (Value.bool true)), ((6 : Nat), AV.ptr (0 : Nat) (0 : Nat) [] (0 : Nat))] [Obj.box (26 : Nat) (AV.agg
  [AV.lit (Value.string rel), AV.slc (1 : Nat) (0 : Nat) (List.length ts)]), Obj.row (28 : Nat) ts]))) (K (Exit.exit (0 : Nat)) (sp (70 : Nat) [((5 : Nat),
  AV.lit (Value.bool true)), ((6 : Nat), AV.ptr (0 : Nat) (0 : Nat) [] (0 : Nat))] [Obj.box (26 : Nat) (AV.agg [AV.lit (Value.string rel), AV.slc (1 : Nat) (0 :
  Nat) (List.length ts)]), Obj.row (28 : Nat) ts]))) := by kernel_rfl


def factTs (ns : List AV) : List AV := (ns.take 8).map fun a => tiA (toInt a)

abbrev st3l (a : A3) : S := sp 70 [(1, .lst 2 a.ns), (5, .bool true), (6, .ptr 0 0 [] 0), (7, .int a.i)] (bx3 a.rel a.ts)
def side3l (a : A3) : Prop := 0 ≤ a.i ∧ a.i ≤ 8 ∧ a.i ≤ a.ns.length ∧ a.ts = (a.ns.take a.i.toNat).map fun a => tiA (toInt a)
def nilA (l : List AV) : Bool := match l with | [] => true | _ :: _ => false
def out3l (a : A3) : Out (Exit × S) := .brn (nilA (factTs a.ns)) (.one (.exit 0, sp 70 [(5, .bool true), (6, .ptr 0 0 [] 0)] (bx3a a.rel))) (.one (.exit 0, sp 70 [(5, .bool true), (6, .ptr 0 0 [] 0)] (bx3b a.rel (factTs a.ns))))

theorem l3 (κ : Kp) : LoopOk (E6 κ) 12 3 4 (loopE 0 st3l side3l out3l) := by
  refine loopE_ok (fun a => 8 - a.i.toNat) ?_
  rintro ⟨rel, ns, ts, i⟩ K ⟨h1, h2, h3, h4⟩ ho
  simp only at h1 h2 h3 h4
  rw [show (E6 κ).P = Pr κ from rfl]
  simp only [out3l, Out.run] at ho
  have hlen : ts.length = i.toNat := by rw [h4]; simp; omega
  have fin : (¬ i < ns.length ∨ ¬ i < 8) → K (.exit 0) (sp 70 [(5, .bool true), (6, .ptr 0 0 [] 0)] (bx3 rel ts)) := by
    intro h
    have e : factTs ns = ts := by
      rw [h4]; unfold factTs
      congr 1
      rcases h with h | h
      · rw [List.take_of_length_le (by omega), List.take_of_length_le (by omega)]
      · rw [show i.toNat = 8 by omega]
    rw [e] at ho
    cases ts with
    | nil => exact ho
    | cons t ts => exact ho
  have go : i < ns.length → i < 8 → ∃ m, m < 8 - i.toNat ∧ invOf st3l side3l out3l (fun a => 8 - a.i.toNat) K m (sp 70 [(1, .lst 2 ns), (5, .bool true), (6, .ptr 0 0 [] 0), (7, .int (IntKind.wrap .i64 (i + 1)))] (bx3 rel (ts ++ [tiA (toInt (nth ns i.toNat))]))) := by
    intro hi h8
    rw [wrap_ok (n := i + 1) (by omega) (by omega)]
    refine ⟨_, ?_, ⟨rel, ns, ts ++ [tiA (toInt (nth ns i.toNat))], i + 1⟩, rfl, ⟨by simp only; omega, by simp only; omega, by simp only; omega, ?_⟩, rfl, ?_⟩
    · simp only; omega
    · simp only [show (i + 1).toNat = i.toNat + 1 by omega]
      rw [List.take_succ_eq_append_getElem (by omega), List.map_append, ← h4, nth_get _ _ (by omega)]; rfl
    · simp only [out3l, Out.run]
      exact ho
  cases ts with
  | nil =>
    refine Eq.mpr (x3a κ rel ns i _ _ K) ?_
    simp only [and_self]
    simp only [brn_iff, cnd_iff, decide_eq_true_eq, decide_eq_false_iff_not, Bool.and_eq_true]
    refine ⟨fun hi => ⟨fun h8 => ⟨⟨h1, hi⟩, ?_⟩, fun h8 => fin (.inr h8)⟩, fun hi => fin (.inl hi)⟩
    exact go hi h8
  | cons t ts =>
    refine Eq.mpr (x3b κ rel ns i (t :: ts) _ _ K) ?_
    simp only [and_self]
    simp only [brn_iff, cnd_iff, decide_eq_true_eq, decide_eq_false_iff_not, Bool.and_eq_true]
    refine ⟨fun hi => ⟨fun h8 => ⟨⟨h1, hi⟩, ?_⟩, fun h8 => fin (.inr h8)⟩, fun hi => fin (.inl hi)⟩
    refine ⟨by omega, ?_⟩
    rw [List.take_length]
    have h := go hi h8
    have hb : ∀ x : AV, bx3 rel (t :: ts ++ [x]) = [.box 26 (.agg [.lit (.string rel), .slc 1 0 ((t :: ts).length + 1)]), .row 28 (t :: ts ++ [x])] := fun x => by
      simp only [List.cons_append, bx3, bx3b, List.length_cons, List.length_append, List.length_nil]
    rw [hb] at h
    exact h

noncomputable def E3l (κ : Kp) : Env := (E6 κ).addLoop 3 4 (loopE 0 st3l side3l out3l)
theorem e3l (κ : Kp) : EnvOK (E3l κ) := (e6 κ).addLoop (m6 κ) (l3 κ)
theorem m3l (κ : Kp) : EnvMono (E3l κ) := (m6 κ).addLoop loopE_mono

theorem y3 (κ : Kp) (rel : ByteArray) (ns : List AV) (K : AV → List Dn.Obj → Prop) : (funA (E3l κ) 12 3 [.lit (.string rel), .lst 2 ns] [] K) = (
  loopCode (Pg.toProgram (Env.P (E6 κ))) (3 : Nat) (4 : Nat) = loopCode (Pg.toProgram (Env.P (E6 κ))) (3 : Nat) (4 : Nat) ∧ ∃ (a : A3), sp (70 : Nat) [((1 : Nat),
  AV.lst (2 : Nat) ns), ((5 : Nat), AV.lit (Value.bool true)), ((6 : Nat), AV.ptr (0 : Nat) (0 : Nat) [] (0 : Nat)), ((7 : Nat), AV.lit (Value.int IntKind.i64 (0
  : Int)))] [Obj.box (26 : Nat) (AV.agg [AV.lit (Value.string rel), AV.lit (Value.slice none (0 : Nat) (0 : Nat))])] = sp (70 : Nat) [((1 : Nat), AV.lst (2 :
  Nat) (A3.ns a)), ((5 : Nat), AV.lit (Value.bool true)), ((6 : Nat), AV.ptr (0 : Nat) (0 : Nat) [] (0 : Nat)), ((7 : Nat), AV.lit (Value.int IntKind.i64 (A3.i
  a)))] (bx3 (A3.rel a) (A3.ts a)) ∧ ((0 : Int) ≤ A3.i a ∧ A3.i a ≤ (8 : Int) ∧ A3.i a ≤ (↑(List.length (A3.ns a)) : Int) ∧ A3.ts a = List.map (fun (a : AV) =>
  AV.agg [AV.lit (Value.int IntKind.i64 (2 : Int)), AV.lit (Value.string s0), AV.lit (Value.int IntKind.i64 (toInt a)), AV.lit (Value.slice none (0 : Nat) (0 :
  Nat))]) (List.take (Int.toNat (A3.i a)) (A3.ns a))) ∧ brn (nilA (factTs (A3.ns a))) (∃ (a_1 : A45), ([AV.agg [AV.agg [AV.lit (Value.string (A3.rel a)), AV.lst
  (28 : Nat) []], AV.lst (48 : Nat) [], AV.lit (Value.int IntKind.i64 (0 : Int))]], nilO) = ([AV.agg [AV.agg [AV.lit (Value.string (A45.rel a_1)), AV.lst (28 :
  Nat) (A45.hl a_1)], AV.lst (48 : Nat) (A45.bl a_1), AV.lit (Value.int IntKind.i64 (A45.line a_1))]], nilO) ∧ (cntL (tmsOf (ruleTs (28 : Nat) (A45.hl a_1)
  (A45.bl a_1))) ≤ (100000 : Nat) ∧ List.length (A45.bl a_1) ≤ (100000 : Nat)) ∧ brn (rightR (rOf a_1)) (brn (safeR (rOf a_1)) (∃ (a_2 : A45), ([AV.agg [AV.agg
  [AV.lit (Value.string (A3.rel a)), AV.lst (28 : Nat) []], AV.lst (48 : Nat) [], AV.lit (Value.int IntKind.i64 (0 : Int))]], nilO) = ([AV.agg [AV.agg [AV.lit
  (Value.string (A45.rel a_2)), AV.lst (28 : Nat) (A45.hl a_2)], AV.lst (48 : Nat) (A45.bl a_2), AV.lit (Value.int IntKind.i64 (A45.line a_2))]], nilO) ∧ (cntL
  (tmsOf (ruleTs (28 : Nat) (A45.hl a_2) (A45.bl a_2))) ≤ (100000 : Nat) ∧ List.length (A45.bl a_2) ≤ (100000 : Nat)) ∧ brn (rightR (rOf a_2)) (brn (safeR (rOf
  a_2)) (brn ((↑(List.length (walkR (rOf a_1))) : Int) == (0 : Int)) (brn (!invR (rOf a_2)) (K (AV.lit (Value.bool true)) []) (K (AV.lit (Value.bool false)) []))
  (K (AV.lit (Value.bool false)) [])) (brn ((↑(List.length (walkR (rOf a_1))) : Int) == (0 : Int)) (K (AV.lit (Value.bool false)) []) (K (AV.lit (Value.bool
  false)) []))) (brn ((↑(List.length (walkR (rOf a_1))) : Int) == (0 : Int)) (K (AV.lit (Value.bool false)) []) (K (AV.lit (Value.bool false)) []))) (∃ (a_2 :
  A45), ([AV.agg [AV.agg [AV.lit (Value.string (A3.rel a)), AV.lst (28 : Nat) []], AV.lst (48 : Nat) [], AV.lit (Value.int IntKind.i64 (0 : Int))]], nilO) =
  ([AV.agg [AV.agg [AV.lit (Value.string (A45.rel a_2)), AV.lst (28 : Nat) (A45.hl a_2)], AV.lst (48 : Nat) (A45.bl a_2), AV.lit (Value.int IntKind.i64 (A45.line
  a_2))]], nilO) ∧ (cntL (tmsOf (ruleTs (28 : Nat) (A45.hl a_2) (A45.bl a_2))) ≤ (100000 : Nat) ∧ List.length (A45.bl a_2) ≤ (100000 : Nat)) ∧ brn (rightR (rOf
  a_2)) (brn (safeR (rOf a_2)) (brn (!invR (rOf a_2)) (K (AV.lit (Value.bool false)) []) (K (AV.lit (Value.bool false)) [])) (K (AV.lit (Value.bool false)) []))
  (K (AV.lit (Value.bool false)) []))) (∃ (a_2 : A45), ([AV.agg [AV.agg [AV.lit (Value.string (A3.rel a)), AV.lst (28 : Nat) []], AV.lst (48 : Nat) [], AV.lit
  (Value.int IntKind.i64 (0 : Int))]], nilO) = ([AV.agg [AV.agg [AV.lit (Value.string (A45.rel a_2)), AV.lst (28 : Nat) (A45.hl a_2)], AV.lst (48 : Nat) (A45.bl
  a_2), AV.lit (Value.int IntKind.i64 (A45.line a_2))]], nilO) ∧ (cntL (tmsOf (ruleTs (28 : Nat) (A45.hl a_2) (A45.bl a_2))) ≤ (100000 : Nat) ∧ List.length
  (A45.bl a_2) ≤ (100000 : Nat)) ∧ brn (rightR (rOf a_2)) (brn (safeR (rOf a_2)) (brn (!invR (rOf a_2)) (K (AV.lit (Value.bool false)) []) (K (AV.lit (Value.bool
  false)) [])) (K (AV.lit (Value.bool false)) [])) (K (AV.lit (Value.bool true)) []))) (∃ (a_1 : A45), ([AV.agg [AV.agg [AV.lit (Value.string (A3.rel a)), AV.lst
  (28 : Nat) (List.take (List.length (factTs (A3.ns a))) (List.drop (0 : Nat) (factTs (A3.ns a))))], AV.lst (48 : Nat) [], AV.lit (Value.int IntKind.i64 (0 :
  Int))]], nilO) = ([AV.agg [AV.agg [AV.lit (Value.string (A45.rel a_1)), AV.lst (28 : Nat) (A45.hl a_1)], AV.lst (48 : Nat) (A45.bl a_1), AV.lit (Value.int
  IntKind.i64 (A45.line a_1))]], nilO) ∧ (cntL (tmsOf (ruleTs (28 : Nat) (A45.hl a_1) (A45.bl a_1))) ≤ (100000 : Nat) ∧ List.length (A45.bl a_1) ≤ (100000 :
  Nat)) ∧ brn (rightR (rOf a_1)) (brn (safeR (rOf a_1)) (∃ (a_2 : A45), ([AV.agg [AV.agg [AV.lit (Value.string (A3.rel a)), AV.lst (28 : Nat) (List.take
  (List.length (factTs (A3.ns a))) (List.drop (0 : Nat) (factTs (A3.ns a))))], AV.lst (48 : Nat) [], AV.lit (Value.int IntKind.i64 (0 : Int))]], nilO) = ([AV.agg
  [AV.agg [AV.lit (Value.string (A45.rel a_2)), AV.lst (28 : Nat) (A45.hl a_2)], AV.lst (48 : Nat) (A45.bl a_2), AV.lit (Value.int IntKind.i64 (A45.line a_2))]],
  nilO) ∧ (cntL (tmsOf (ruleTs (28 : Nat) (A45.hl a_2) (A45.bl a_2))) ≤ (100000 : Nat) ∧ List.length (A45.bl a_2) ≤ (100000 : Nat)) ∧ brn (rightR (rOf a_2)) (brn
  (safeR (rOf a_2)) (brn ((↑(List.length (walkR (rOf a_1))) : Int) == (0 : Int)) (brn (!invR (rOf a_2)) (K (AV.lit (Value.bool true)) []) (K (AV.lit (Value.bool
  false)) [])) (K (AV.lit (Value.bool false)) [])) (brn ((↑(List.length (walkR (rOf a_1))) : Int) == (0 : Int)) (K (AV.lit (Value.bool false)) []) (K (AV.lit
  (Value.bool false)) []))) (brn ((↑(List.length (walkR (rOf a_1))) : Int) == (0 : Int)) (K (AV.lit (Value.bool false)) []) (K (AV.lit (Value.bool false)) [])))
  (∃ (a_2 : A45), ([AV.agg [AV.agg [AV.lit (Value.string (A3.rel a)), AV.lst (28 : Nat) (List.take (List.length (factTs (A3.ns a))) (List.drop (0 : Nat) (factTs
  (A3.ns a))))], AV.lst (48 : Nat) [], AV.lit (Value.int IntKind.i64 (0 : Int))]], nilO) = ([AV.agg [AV.agg [AV.lit (Value.string (A45.rel a_2)), AV.lst (28 :
  Nat) (A45.hl a_2)], AV.lst (48 : Nat) (A45.bl a_2), AV.lit (Value.int IntKind.i64 (A45.line a_2))]], nilO) ∧ (cntL (tmsOf (ruleTs (28 : Nat) (A45.hl a_2)
  (A45.bl a_2))) ≤ (100000 : Nat) ∧ List.length (A45.bl a_2) ≤ (100000 : Nat)) ∧ brn (rightR (rOf a_2)) (brn (safeR (rOf a_2)) (brn (!invR (rOf a_2)) (K (AV.lit
  (Value.bool false)) []) (K (AV.lit (Value.bool false)) [])) (K (AV.lit (Value.bool false)) [])) (K (AV.lit (Value.bool false)) []))) (∃ (a_2 : A45), ([AV.agg
  [AV.agg [AV.lit (Value.string (A3.rel a)), AV.lst (28 : Nat) (List.take (List.length (factTs (A3.ns a))) (List.drop (0 : Nat) (factTs (A3.ns a))))], AV.lst (48
  : Nat) [], AV.lit (Value.int IntKind.i64 (0 : Int))]], nilO) = ([AV.agg [AV.agg [AV.lit (Value.string (A45.rel a_2)), AV.lst (28 : Nat) (A45.hl a_2)], AV.lst
  (48 : Nat) (A45.bl a_2), AV.lit (Value.int IntKind.i64 (A45.line a_2))]], nilO) ∧ (cntL (tmsOf (ruleTs (28 : Nat) (A45.hl a_2) (A45.bl a_2))) ≤ (100000 : Nat)
  ∧ List.length (A45.bl a_2) ≤ (100000 : Nat)) ∧ brn (rightR (rOf a_2)) (brn (safeR (rOf a_2)) (brn (!invR (rOf a_2)) (K (AV.lit (Value.bool false)) []) (K
  (AV.lit (Value.bool false)) [])) (K (AV.lit (Value.bool false)) [])) (K (AV.lit (Value.bool true)) [])))) := by kernel_rfl


theorem fact_vars : ∀ l : List AV, varsL (tmsOf (l.map fun a => tiA (toInt a))) = []
  | [] => rfl
  | a :: l => by
    have := fact_vars l
    simp only [tmsOf] at this
    simp only [tmsOf, List.map_cons, varsL, tm_ti, this]; rfl

theorem fact_cnt : ∀ l : List AV, cntL (tmsOf (l.map fun a => tiA (toInt a))) = l.length
  | [] => rfl
  | a :: l => by
    have := fact_cnt l
    simp only [tmsOf] at this
    simp only [tmsOf, List.map_cons, cntL, tm_ti, this, List.length_cons, ti, Tm.cnt]; omega

abbrev aF (rel : ByteArray) (ts : List AV) : A45 := ⟨[], [], rel, ts, [], 0, 0⟩

theorem fact_side (rel : ByteArray) (ns : List AV) : side42 (aF rel (factTs ns)) := by
  refine ⟨?_, by simp⟩
  have e : ruleTs 28 (factTs ns) [] = factTs ns := by simp [ruleTs]
  rw [e]
  unfold factTs
  rw [fact_cnt]
  simp; omega
theorem fact_walk (rel : ByteArray) (ts : List AV) : walkR (rOf (aF rel ts)) = [] := rfl
theorem fact_inv (rel : ByteArray) (ts : List AV) : invR (rOf (aF rel ts)) = false := rfl
theorem fact_safe (rel : ByteArray) (ns : List AV) : safeR (rOf (aF rel (factTs ns))) = true := by
  unfold safeR
  rw [fact_walk, show varsL (rOf (aF rel (factTs ns))).head.l = [] from fact_vars _]
  rfl

theorem sim3 (κ : Kp) (rel : ByteArray) (ns : List AV) : funA (E3l κ) 12 3 [.lit (.string rel), .lst 2 ns] [] (fun r _ => r = .bool true) := by
  refine Eq.mpr (y3 κ rel ns _) ?_
  refine ⟨rfl, ⟨rel, ns, [], 0⟩, rfl, ⟨by simp only; omega, by simp only; omega, by simp only; omega, rfl⟩, ?_⟩
  have hn : ∀ b, nilA (factTs ns) = b → (b = true → factTs ns = []) := fun b e hb => by
    subst hb
    unfold nilA at e
    split at e
    · rename_i h; exact h
    · cases e
  have hs := fact_side rel ns
  have hf := fact_safe rel ns
  rw [brn_iff]
  refine ⟨fun e => ?_, fun e => ?_⟩
  · have e0 := hn true e rfl
    rw [e0] at hs hf
    refine ⟨aF rel [], rfl, hs, ?_⟩
    rw [hf, fact_walk]
    cases hr : rightR (rOf (aF rel [])) with
    | true =>
      refine ⟨aF rel [], rfl, hs, ?_⟩
      rw [hr, hf, fact_inv]; rfl
    | false =>
      refine ⟨aF rel [], rfl, hs, ?_⟩
      rw [hr]; rfl
  · rw [List.drop_zero, List.take_length]
    refine ⟨aF rel (factTs ns), rfl, hs, ?_⟩
    rw [hf, fact_walk]
    cases hr : rightR (rOf (aF rel (factTs ns))) with
    | true =>
      refine ⟨aF rel (factTs ns), rfl, hs, ?_⟩
      rw [hr, hf, fact_inv]; rfl
    | false =>
      refine ⟨aF rel (factTs ns), rfl, hs, ?_⟩
      rw [hr]; rfl

theorem simF (κ : Kp) (rel : ByteArray) (ns : List AV) : SimCall (Pr κ) 3 [.lit (.string rel), .lst 2 ns] [] (fun r _ => r = .bool true) := fun_sound (e3l κ) (m3l κ) (sim3 κ rel ns)
end Go.Proofs.YtidmfjdechhnmaaDoor
