import Derived.Test.YtidmfjdechhnmaaDoorDsM5
import Derived.Test.YtidmfjdechhnmaaDoorDsM1
/-
  soritesref05.Place.
-/
namespace Go.Proofs.YtidmfjdechhnmaaDoor
open Go Go.Dn Go.Rl Go.Proofs
attribute [local irreducible] funA vc

theorem x27 (κ : Kp) (l : List AV) (s : ByteArray) (i : Int) (I : Nat → S → Prop) (n : Nat) (K : Exit → S → Prop) : (vc (E6 κ) 12 27 none 0 (loopCode (Pr κ).toProgram 27 2) (sp 19 [(0, .lst 9 l), (1, .lit (.string s)), (5, .int i)] []) (loopK (E6 κ) 27 2 0 I n K)) = (
  brn (decide (i < (↑(List.length l) : Int))) (cnd (decide ((0 : Int) ≤ i) && decide (i < (↑(List.length l) : Int))) (brn (ByteArray.toList (toStr (nth l
  (Int.toNat i))) == ByteArray.toList s) (K Exit.ret (sp (19 : Nat) [((4 : Nat), AV.lit (Value.int IntKind.i64 i))] [])) (∃ (m : Nat), m < n ∧ I m (sp (19 : Nat)
  [((0 : Nat), AV.lst (9 : Nat) l), ((1 : Nat), AV.lit (Value.string s)), ((5 : Nat), AV.lit (Value.int IntKind.i64 (IntKind.wrap IntKind.i64 (i + (1 : Int)))))]
  [])))) (K (Exit.exit (0 : Nat)) (sp (19 : Nat) [] []))) := by kernel_rfl


abbrev st27 (a : List AV × ByteArray × Int) : S := sp 19 [(0, .lst 9 a.1), (1, .lit (.string a.2.1)), (5, .int a.2.2)] []
def out27 (a : List AV × ByteArray × Int) : Out (Exit × S) := .brn (decide (placeS a.2.1 (a.1.drop a.2.2.toNat) a.2.2 ≥ 0)) (.one (.ret, sp 19 [(4, .int (placeS a.2.1 (a.1.drop a.2.2.toNat) a.2.2))] [])) (.one (.exit 0, sp 19 [] []))

theorem eqS_comm (a b : ByteArray) : eqS a b = eqS b a := by
  rw [eqS_eq, eqS_eq, Bool.eq_iff_iff, beq_iff_eq, beq_iff_eq]
  exact ⟨fun h => h.symm, fun h => h.symm⟩

theorem l27 (κ : Kp) : LoopOk (E6 κ) 12 27 2 (loopE 0 st27 side65 out27) := by
  refine loopE_ok (fun a => a.1.length - a.2.2.toNat) ?_
  rintro ⟨l, s, i⟩ K ⟨h1, h2, h3⟩ ho
  simp only at h1 h2 h3
  rw [show (E6 κ).P = Pr κ from rfl]
  refine Eq.mpr (x27 κ l s i _ _ K) ?_
  simp only [maxI] at h1
  simp only [out27, Out.run, brn_iff] at ho
  simp only [brn_iff, cnd_iff, decide_eq_true_eq, decide_eq_false_iff_not, Bool.and_eq_true]
  refine ⟨fun hi => ⟨⟨h2, hi⟩, fun e => ?_, fun e => ?_⟩, fun hi => ?_⟩
  · rw [List.drop_eq_getElem_cons (show i.toNat < l.length by omega), ← nth_get l i.toNat (by omega), placeS, eqS_comm, show eqS (toStr (nth l i.toNat)) s = true from e, cond_true, decide_eq_true (show i ≥ 0 from h2)] at ho
    exact ho.1 rfl
  · rw [wrap_ok (n := i + 1) (by omega) (by omega)]
    refine ⟨_, ?_, (l, s, i + 1), rfl, ⟨by simpa [maxI] using h1, by simp only; omega, by simp only; omega⟩, rfl, ?_⟩
    · simp only; omega
    · rw [List.drop_eq_getElem_cons (show i.toNat < l.length by omega), ← nth_get l i.toNat (by omega), placeS, eqS_comm, show eqS (toStr (nth l i.toNat)) s = false from e, cond_false] at ho
      simp only [out27, Out.run, brn_iff, show (i + 1).toNat = i.toNat + 1 by omega]
      exact ho
  · rw [List.drop_eq_nil_of_le (by omega)] at ho
    exact ho.2 rfl

noncomputable def E27l (κ : Kp) : Env := (E6 κ).addLoop 27 2 (loopE 0 st27 side65 out27)
theorem e27l (κ : Kp) : EnvOK (E27l κ) := (e6 κ).addLoop (m6 κ) (l27 κ)
theorem m27l (κ : Kp) : EnvMono (E27l κ) := (m6 κ).addLoop loopE_mono

theorem y27 (κ : Kp) (l : List AV) (s : ByteArray) (K : AV → List Dn.Obj → Prop) : (funA (E27l κ) 12 27 [.lst 9 l, .lit (.string s)] [] K) = (
  loopCode (Pg.toProgram (Env.P (E6 κ))) (27 : Nat) (2 : Nat) = loopCode (Pg.toProgram (Env.P (E6 κ))) (27 : Nat) (2 : Nat) ∧ ∃ (a : List AV × ByteArray × Int), sp
  (19 : Nat) [((0 : Nat), AV.lst (9 : Nat) l), ((1 : Nat), AV.lit (Value.string s)), ((5 : Nat), AV.lit (Value.int IntKind.i64 (0 : Int)))] [] = sp (19 : Nat)
  [((0 : Nat), AV.lst (9 : Nat) (Prod.fst a)), ((1 : Nat), AV.lit (Value.string (Prod.fst (Prod.snd a)))), ((5 : Nat), AV.lit (Value.int IntKind.i64 (Prod.snd
  (Prod.snd a))))] [] ∧ (List.length (Prod.fst a) ≤ (9223372036854775807 : Nat) ∧ (0 : Int) ≤ Prod.snd (Prod.snd a) ∧ Prod.snd (Prod.snd a) ≤ (↑(List.length
  (Prod.fst a)) : Int)) ∧ brn (decide (placeS (Prod.fst (Prod.snd a)) (List.drop (Int.toNat (Prod.snd (Prod.snd a))) (Prod.fst a)) (Prod.snd (Prod.snd a)) ≥ (0 :
  Int))) (K (AV.lit (Value.int IntKind.i64 (placeS (Prod.fst (Prod.snd a)) (List.drop (Int.toNat (Prod.snd (Prod.snd a))) (Prod.fst a)) (Prod.snd (Prod.snd
  a))))) []) (K (AV.lit (Value.int IntKind.i64 (-1 : Int))) [])) := by kernel_rfl


theorem p27 (κ : Kp) : PureOk (E27l κ) 12 27 g65 := by
  intro args x hh
  unfold g65 at hh
  split at hh
  · rename_i l s
    simp only [Option.some.injEq, Prod.mk.injEq, decide_eq_true_eq] at hh
    obtain ⟨h1, rfl⟩ := hh
    refine ⟨_, rfl, rfl, ?_⟩
    refine Eq.mpr (y27 κ l s _) ?_
    refine ⟨rfl, (l, s, 0), rfl, ⟨h1, by simp only; omega, by simp only; omega⟩, ?_⟩
    simp only [Int.toNat_zero, List.drop_zero, brn_iff, decide_eq_true_eq, decide_eq_false_iff_not]
    exact ⟨fun _ => trivial, fun e => by rw [placeS_neg s l 0 e (by omega)]⟩
  · cases hh

noncomputable def E27 (κ : Kp) : Env := (E27l κ).addPure 27 g65
theorem e27 (κ : Kp) : EnvOK (E27 κ) := (e27l κ).addPure (m27l κ) (p27 κ)
theorem m27 (κ : Kp) : EnvMono (E27 κ) := (m27l κ).addPure

theorem y11 (κ : Kp) (l : List AV) (s : ByteArray) (K : AV → List Dn.Obj → Prop) : (funA (E27 κ) 12 11 [.lst 9 l, .lit (.string s)] [] K) = (
  cnd (decide (List.length l ≤ (9223372036854775807 : Nat))) (K (AV.lit (Value.int IntKind.i64 (placeS s l (0 : Int)))) [])) := by kernel_rfl


theorem p11 (κ : Kp) : PureOk (E27 κ) 12 11 g65 := by
  intro args x hh
  unfold g65 at hh
  split at hh
  · rename_i l s
    simp only [Option.some.injEq, Prod.mk.injEq, decide_eq_true_eq] at hh
    obtain ⟨h1, rfl⟩ := hh
    refine ⟨_, rfl, rfl, ?_⟩
    refine Eq.mpr (y11 κ l s _) ?_
    rw [cnd_iff, decide_eq_true_eq]
    exact ⟨h1, rfl⟩
  · cases hh

noncomputable def E11 (κ : Kp) : Env := (E27 κ).addPure 11 g65
theorem e11 (κ : Kp) : EnvOK (E11 κ) := (e27 κ).addPure (m27 κ) (p11 κ)
theorem m11 (κ : Kp) : EnvMono (E11 κ) := (m27 κ).addPure
end Go.Proofs.YtidmfjdechhnmaaDoor

/-
  DsafeOnce: the law's walk.
-/
namespace Go.Proofs.YtidmfjdechhnmaaDoor
open Go Go.Dn Go.Rl Go.Proofs
attribute [local irreducible] funA vc

theorem placeS_mem {l : List ByteArray} {s : ByteArray} (h : s ∈ l) : 0 ≤ placeS s (strs l) 0 := by
  have := placeS_ge s l 0 (by omega)
  rw [List.contains_iff_mem.2 h, decide_eq_true_eq] at this
  exact this

/-! ### What was bound stays so -/
structure A4b where
  a : A45
  ws : List AV
  met : List AV
  i : Int
  xs : List ByteArray
  ys : List ByteArray
  k : Int

abbrev st4b (a : A4b) : S := sp 152 [(1, .ptr 0 0 [] 0), (3, .bool true), (4, .slc 1 0 a.ws.length), (6, .slc 2 0 a.met.length), (7, .int a.i), (8, .lst 9 (strs a.xs)), (10, .lst 9 (strs a.ys)), (12, .int a.k)] [.box 35 (rl45 a.a), .row 3 a.ws, .row 4 a.met]

theorem x4b (κ : Kp) (a : A4b) (I : Nat → S → Prop) (n : Nat) (K : Exit → S → Prop) : (vc (E11 κ) 12 4 none 0 (loopCode (Pr κ).toProgram 4 19) (st4b a) (loopK (E11 κ) 4 19 0 I n K)) = (
  brn (decide (A4b.k a < (↑(List.length (strs (A4b.xs a))) : Int))) (cnd (decide ((0 : Int) ≤ A4b.k a) && decide (A4b.k a < (↑(List.length (strs (A4b.xs a))) :
  Int))) (cnd (decide (List.length (strs (A4b.ys a)) ≤ (9223372036854775807 : Nat))) (brn (decide (placeS (toStr (nth (strs (A4b.xs a)) (Int.toNat (A4b.k a))))
  (strs (A4b.ys a)) (0 : Int) < (0 : Int))) (K Exit.ret (sp (152 : Nat) [((2 : Nat), AV.lit (Value.bool false))] [])) (∃ (m : Nat), m < n ∧ I m (sp (152 : Nat)
  [((1 : Nat), AV.ptr (0 : Nat) (0 : Nat) [] (0 : Nat)), ((3 : Nat), AV.lit (Value.bool true)), ((4 : Nat), AV.slc (1 : Nat) (0 : Nat) (List.length (A4b.ws a))),
  ((6 : Nat), AV.slc (2 : Nat) (0 : Nat) (List.length (A4b.met a))), ((7 : Nat), AV.lit (Value.int IntKind.i64 (A4b.i a))), ((8 : Nat), AV.lst (9 : Nat) (strs
  (A4b.xs a))), ((10 : Nat), AV.lst (9 : Nat) (strs (A4b.ys a))), ((12 : Nat), AV.lit (Value.int IntKind.i64 (IntKind.wrap IntKind.i64 (A4b.k a + (1 : Int)))))]
  [Obj.box (35 : Nat) (AV.agg [AV.agg [AV.lit (Value.string (A45.rel (A4b.a a))), AV.lst (28 : Nat) (A45.hl (A4b.a a))], AV.lst (48 : Nat) (A45.bl (A4b.a a)),
  AV.lit (Value.int IntKind.i64 (A45.line (A4b.a a)))]), Obj.row (3 : Nat) (A4b.ws a), Obj.row (4 : Nat) (A4b.met a)]))))) (K (Exit.exit (2 : Nat)) (sp (152 :
  Nat) [((1 : Nat), AV.ptr (0 : Nat) (0 : Nat) [] (0 : Nat)), ((3 : Nat), AV.lit (Value.bool true)), ((4 : Nat), AV.slc (1 : Nat) (0 : Nat) (List.length (A4b.ws
  a))), ((6 : Nat), AV.slc (2 : Nat) (0 : Nat) (List.length (A4b.met a))), ((7 : Nat), AV.lit (Value.int IntKind.i64 (A4b.i a)))] [Obj.box (35 : Nat) (AV.agg
  [AV.agg [AV.lit (Value.string (A45.rel (A4b.a a))), AV.lst (28 : Nat) (A45.hl (A4b.a a))], AV.lst (48 : Nat) (A45.bl (A4b.a a)), AV.lit (Value.int IntKind.i64
  (A45.line (A4b.a a)))]), Obj.row (3 : Nat) (A4b.ws a), Obj.row (4 : Nat) (A4b.met a)]))) := by kernel_rfl


def side4b (a : A4b) : Prop := a.xs.length ≤ maxI ∧ a.ys.length ≤ maxI ∧ 0 ≤ a.k ∧ a.k ≤ a.xs.length ∧ ∀ s, s ∈ a.xs → s ∈ a.ys
def out4b (a : A4b) : Out (Exit × S) := .one (.exit 2, sp 152 [(1, .ptr 0 0 [] 0), (3, .bool true), (4, .slc 1 0 a.ws.length), (6, .slc 2 0 a.met.length), (7, .int a.i)] [.box 35 (rl45 a.a), .row 3 a.ws, .row 4 a.met])

theorem l4b (κ : Kp) : LoopOk (E11 κ) 12 4 19 (loopE 0 st4b side4b out4b) := by
  refine loopE_ok (fun a => a.xs.length - a.k.toNat) ?_
  rintro ⟨a, ws, met, i, xs, ys, k⟩ K ⟨h1, h2, h3, h4, h5⟩ ho
  simp only at h1 h2 h3 h4 h5
  rw [show (E11 κ).P = Pr κ from rfl]
  refine Eq.mpr (x4b κ ⟨a, ws, met, i, xs, ys, k⟩ _ _ K) ?_
  simp only [out4b, Out.run] at ho
  simp only [maxI] at h1 h2
  simp only [brn_iff, cnd_iff, decide_eq_true_eq, decide_eq_false_iff_not, Bool.and_eq_true, strs_len]
  refine ⟨fun hi => ⟨⟨h3, hi⟩, by omega, fun e => ?_, fun _ => ?_⟩, fun hi => ?_⟩
  · have hk : k.toNat < xs.length := by omega
    rw [strs_nth xs _ hk] at e
    have := placeS_mem (h5 _ (List.getElem_mem hk))
    exact absurd (show placeS xs[k.toNat] (strs ys) 0 < 0 from e) (by omega)
  · rw [wrap_ok (n := k + 1) (by omega) (by omega)]
    refine ⟨_, ?_, ⟨a, ws, met, i, xs, ys, k + 1⟩, by simp only [st4b, strs_len], ⟨by simpa [maxI] using h1, by simpa [maxI] using h2, by simp only; omega, by simp only; omega, h5⟩, rfl, ho⟩
    simp only; omega
  · exact ho

noncomputable def E4b (κ : Kp) : Env := (E11 κ).addLoop 4 19 (loopE 0 st4b side4b out4b)
theorem e4b (κ : Kp) : EnvOK (E4b κ) := (e11 κ).addLoop (m11 κ) (l4b κ)
theorem m4b (κ : Kp) : EnvMono (E4b κ) := (m11 κ).addLoop loopE_mono

/-! ### Each part has its place once -/
structure A4a where
  a : A45
  ws : List Nat
  met : List Bool
  i : Int

abbrev st4a (a : A4a) : S := sp 152 [(1, .ptr 0 0 [] 0), (3, .bool true), (4, .slc 1 0 (ints a.ws).length), (6, .slc 2 0 (bools a.met).length), (7, .int a.i)] [.box 35 (rl45 a.a), .row 3 (ints a.ws), .row 4 (bools a.met)]

theorem x4a (κ : Kp) (a : A45) (ws met : List AV) (i : Int) (I : Nat → S → Prop) (n : Nat) (K : Exit → S → Prop) : (vc (E4b κ) 12 4 none 0 (loopCode (Pr κ).toProgram 4 9) (sp 152 [(1, .ptr 0 0 [] 0), (3, .bool true), (4, .slc 1 0 ws.length), (6, .slc 2 0 met.length), (7, .int i)] [.box 35 (rl45 a), .row 3 ws, .row 4 met]) (loopK (E4b κ) 4 9 0 I n K)) = (
  brn (decide (i < (↑(List.length ws) : Int))) (cnd (decide ((0 : Int) ≤ i) && decide (i < (↑(List.length ws) : Int))) (brn (decide (toInt (nth ws ((0 : Nat) +
  Int.toNat i)) < (0 : Int))) (K Exit.ret (sp (152 : Nat) [((2 : Nat), AV.lit (Value.bool false))] [])) (cnd (decide ((0 : Int) ≤ i) && decide (i <
  (↑(List.length ws) : Int))) (brn (decide (toInt (nth ws ((0 : Nat) + Int.toNat i)) ≥ (↑(List.length met) : Int))) (K Exit.ret (sp (152 : Nat) [((2 : Nat),
  AV.lit (Value.bool false))] [])) (cnd (decide ((0 : Int) ≤ i) && decide (i < (↑(List.length ws) : Int))) (cnd (decide ((0 : Int) ≤ toInt (nth ws ((0 : Nat) +
  Int.toNat i))) && decide (toInt (nth ws ((0 : Nat) + Int.toNat i)) < (↑(List.length met) : Int))) (brn (Dn.toBool (nth met ((0 : Nat) + Int.toNat (toInt (nth
  ws ((0 : Nat) + Int.toNat i)))))) (K Exit.ret (sp (152 : Nat) [((2 : Nat), AV.lit (Value.bool false))] [])) (cnd (decide ((0 : Int) ≤ i) && decide (i <
  (↑(List.length ws) : Int))) (cnd (decide ((0 : Int) ≤ toInt (nth ws ((0 : Nat) + Int.toNat i))) && decide (toInt (nth ws ((0 : Nat) + Int.toNat i)) <
  (↑(List.length met) : Int))) (∃ (a_1 : A45 × Int), ([AV.agg [AV.agg [AV.lit (Value.string (A45.rel a)), AV.lst (28 : Nat) (A45.hl a)], AV.lst (48 : Nat)
  (A45.bl a), AV.lit (Value.int IntKind.i64 (A45.line a))], AV.lit (Value.int IntKind.i64 i)], nilO) = ([AV.agg [AV.agg [AV.lit (Value.string (A45.rel (Prod.fst
  a_1))), AV.lst (28 : Nat) (A45.hl (Prod.fst a_1))], AV.lst (48 : Nat) (A45.bl (Prod.fst a_1)), AV.lit (Value.int IntKind.i64 (A45.line (Prod.fst a_1)))],
  AV.lit (Value.int IntKind.i64 (Prod.snd a_1))], nilO) ∧ (cntL (tmsOf (ruleTs (28 : Nat) (A45.hl (Prod.fst a_1)) (A45.bl (Prod.fst a_1)))) ≤ (100000 : Nat) ∧
  List.length (A45.bl (Prod.fst a_1)) ≤ (100000 : Nat)) ∧ brn (rightR (rOf (Prod.fst a_1))) (brn (safeR (rOf (Prod.fst a_1))) (brn (decide (Prod.snd a_1 < (0 :
  Int)) || decide ((↑(List.length (A45.bl (Prod.fst a_1))) : Int) < Prod.snd a_1)) (∃ (a_2 : A45 × Int), ([AV.agg [AV.agg [AV.lit (Value.string (A45.rel a)),
  AV.lst (28 : Nat) (A45.hl a)], AV.lst (48 : Nat) (A45.bl a), AV.lit (Value.int IntKind.i64 (A45.line a))], AV.lit (Value.int IntKind.i64 (IntKind.wrap
  IntKind.i64 (i + (1 : Int))))], nilO) = ([AV.agg [AV.agg [AV.lit (Value.string (A45.rel (Prod.fst a_2))), AV.lst (28 : Nat) (A45.hl (Prod.fst a_2))], AV.lst
  (48 : Nat) (A45.bl (Prod.fst a_2)), AV.lit (Value.int IntKind.i64 (A45.line (Prod.fst a_2)))], AV.lit (Value.int IntKind.i64 (Prod.snd a_2))], nilO) ∧ (cntL
  (tmsOf (ruleTs (28 : Nat) (A45.hl (Prod.fst a_2)) (A45.bl (Prod.fst a_2)))) ≤ (100000 : Nat) ∧ List.length (A45.bl (Prod.fst a_2)) ≤ (100000 : Nat)) ∧ brn
  (rightR (rOf (Prod.fst a_2))) (brn (safeR (rOf (Prod.fst a_2))) (brn (decide (Prod.snd a_2 < (0 : Int)) || decide ((↑(List.length (A45.bl (Prod.fst a_2))) :
  Int) < Prod.snd a_2)) (K Exit.ret (sp (152 : Nat) [((2 : Nat), AV.lit (Value.bool false))] [])) (K Exit.ret (sp (152 : Nat) [((2 : Nat), AV.lit (Value.bool
  false))] []))) (K Exit.ret (sp (152 : Nat) [((2 : Nat), AV.lit (Value.bool false))] []))) (K Exit.ret (sp (152 : Nat) [((2 : Nat), AV.lit (Value.bool false))]
  []))) (∃ (a_2 : A45 × Int), ([AV.agg [AV.agg [AV.lit (Value.string (A45.rel a)), AV.lst (28 : Nat) (A45.hl a)], AV.lst (48 : Nat) (A45.bl a), AV.lit (Value.int
  IntKind.i64 (A45.line a))], AV.lit (Value.int IntKind.i64 (IntKind.wrap IntKind.i64 (i + (1 : Int))))], nilO) = ([AV.agg [AV.agg [AV.lit (Value.string (A45.rel
  (Prod.fst a_2))), AV.lst (28 : Nat) (A45.hl (Prod.fst a_2))], AV.lst (48 : Nat) (A45.bl (Prod.fst a_2)), AV.lit (Value.int IntKind.i64 (A45.line (Prod.fst
  a_2)))], AV.lit (Value.int IntKind.i64 (Prod.snd a_2))], nilO) ∧ (cntL (tmsOf (ruleTs (28 : Nat) (A45.hl (Prod.fst a_2)) (A45.bl (Prod.fst a_2)))) ≤ (100000 :
  Nat) ∧ List.length (A45.bl (Prod.fst a_2)) ≤ (100000 : Nat)) ∧ brn (rightR (rOf (Prod.fst a_2))) (brn (safeR (rOf (Prod.fst a_2))) (brn (decide (Prod.snd a_2 <
  (0 : Int)) || decide ((↑(List.length (A45.bl (Prod.fst a_2))) : Int) < Prod.snd a_2)) (K Exit.ret (sp (152 : Nat) [((2 : Nat), AV.lit (Value.bool false))] []))
  (brn (decide ((↑(List.length (strs (boundV (rOf (Prod.fst a_1)) (Int.toNat (Prod.snd a_1))))) : Int) > (↑(List.length (strs (boundV (rOf (Prod.fst a_2))
  (Int.toNat (Prod.snd a_2))))) : Int))) (K Exit.ret (sp (152 : Nat) [((2 : Nat), AV.lit (Value.bool false))] [])) (loopCode (Pg.toProgram (Env.P (E11 κ))) (4 :
  Nat) (19 : Nat) = loopCode (Pg.toProgram (Env.P (E11 κ))) (4 : Nat) (19 : Nat) ∧ ∃ (a_3 : A4b), sp (152 : Nat) [((1 : Nat), AV.ptr (0 : Nat) (0 : Nat) [] (0 :
  Nat)), ((3 : Nat), AV.lit (Value.bool true)), ((4 : Nat), AV.slc (1 : Nat) (0 : Nat) (List.length ws)), ((6 : Nat), AV.slc (2 : Nat) (0 : Nat) (List.length
  met)), ((7 : Nat), AV.lit (Value.int IntKind.i64 i)), ((8 : Nat), AV.lst (9 : Nat) (strs (boundV (rOf (Prod.fst a_1)) (Int.toNat (Prod.snd a_1))))), ((10 :
  Nat), AV.lst (9 : Nat) (strs (boundV (rOf (Prod.fst a_2)) (Int.toNat (Prod.snd a_2))))), ((12 : Nat), AV.lit (Value.int IntKind.i64 (0 : Int)))] [Obj.box (35 :
  Nat) (AV.agg [AV.agg [AV.lit (Value.string (A45.rel a)), AV.lst (28 : Nat) (A45.hl a)], AV.lst (48 : Nat) (A45.bl a), AV.lit (Value.int IntKind.i64 (A45.line
  a))]), Obj.row (3 : Nat) ws, Obj.row (4 : Nat) (setN met ((0 : Nat) + Int.toNat (toInt (nth ws ((0 : Nat) + Int.toNat i)))) (AV.lit (Value.bool true)))] = sp
  (152 : Nat) [((1 : Nat), AV.ptr (0 : Nat) (0 : Nat) [] (0 : Nat)), ((3 : Nat), AV.lit (Value.bool true)), ((4 : Nat), AV.slc (1 : Nat) (0 : Nat) (List.length
  (A4b.ws a_3))), ((6 : Nat), AV.slc (2 : Nat) (0 : Nat) (List.length (A4b.met a_3))), ((7 : Nat), AV.lit (Value.int IntKind.i64 (A4b.i a_3))), ((8 : Nat),
  AV.lst (9 : Nat) (strs (A4b.xs a_3))), ((10 : Nat), AV.lst (9 : Nat) (strs (A4b.ys a_3))), ((12 : Nat), AV.lit (Value.int IntKind.i64 (A4b.k a_3)))] [Obj.box
  (35 : Nat) (AV.agg [AV.agg [AV.lit (Value.string (A45.rel (A4b.a a_3))), AV.lst (28 : Nat) (A45.hl (A4b.a a_3))], AV.lst (48 : Nat) (A45.bl (A4b.a a_3)),
  AV.lit (Value.int IntKind.i64 (A45.line (A4b.a a_3)))]), Obj.row (3 : Nat) (A4b.ws a_3), Obj.row (4 : Nat) (A4b.met a_3)] ∧ (List.length (A4b.xs a_3) ≤
  (9223372036854775807 : Nat) ∧ List.length (A4b.ys a_3) ≤ (9223372036854775807 : Nat) ∧ (0 : Int) ≤ A4b.k a_3 ∧ A4b.k a_3 ≤ (↑(List.length (A4b.xs a_3)) : Int)
  ∧ ∀ (s : ByteArray), List.Mem s (A4b.xs a_3) → List.Mem s (A4b.ys a_3)) ∧ ∃ (m : Nat), m < n ∧ I m (sp (152 : Nat) [((1 : Nat), AV.ptr (0 : Nat) (0 : Nat) []
  (0 : Nat)), ((3 : Nat), AV.lit (Value.bool true)), ((4 : Nat), AV.slc (1 : Nat) (0 : Nat) (List.length (A4b.ws a_3))), ((6 : Nat), AV.slc (2 : Nat) (0 : Nat)
  (List.length (A4b.met a_3))), ((7 : Nat), AV.lit (Value.int IntKind.i64 (IntKind.wrap IntKind.i64 (A4b.i a_3 + (1 : Int)))))] [Obj.box (35 : Nat) (AV.agg
  [AV.agg [AV.lit (Value.string (A45.rel (A4b.a a_3))), AV.lst (28 : Nat) (A45.hl (A4b.a a_3))], AV.lst (48 : Nat) (A45.bl (A4b.a a_3)), AV.lit (Value.int
  IntKind.i64 (A45.line (A4b.a a_3)))]), Obj.row (3 : Nat) (A4b.ws a_3), Obj.row (4 : Nat) (A4b.met a_3)])))) (K Exit.ret (sp (152 : Nat) [((2 : Nat), AV.lit
  (Value.bool false))] []))) (K Exit.ret (sp (152 : Nat) [((2 : Nat), AV.lit (Value.bool false))] [])))) (∃ (a_2 : A45 × Int), ([AV.agg [AV.agg [AV.lit
  (Value.string (A45.rel a)), AV.lst (28 : Nat) (A45.hl a)], AV.lst (48 : Nat) (A45.bl a), AV.lit (Value.int IntKind.i64 (A45.line a))], AV.lit (Value.int
  IntKind.i64 (IntKind.wrap IntKind.i64 (i + (1 : Int))))], nilO) = ([AV.agg [AV.agg [AV.lit (Value.string (A45.rel (Prod.fst a_2))), AV.lst (28 : Nat) (A45.hl
  (Prod.fst a_2))], AV.lst (48 : Nat) (A45.bl (Prod.fst a_2)), AV.lit (Value.int IntKind.i64 (A45.line (Prod.fst a_2)))], AV.lit (Value.int IntKind.i64 (Prod.snd
  a_2))], nilO) ∧ (cntL (tmsOf (ruleTs (28 : Nat) (A45.hl (Prod.fst a_2)) (A45.bl (Prod.fst a_2)))) ≤ (100000 : Nat) ∧ List.length (A45.bl (Prod.fst a_2)) ≤
  (100000 : Nat)) ∧ brn (rightR (rOf (Prod.fst a_2))) (brn (safeR (rOf (Prod.fst a_2))) (brn (decide (Prod.snd a_2 < (0 : Int)) || decide ((↑(List.length (A45.bl
  (Prod.fst a_2))) : Int) < Prod.snd a_2)) (K Exit.ret (sp (152 : Nat) [((2 : Nat), AV.lit (Value.bool false))] [])) (K Exit.ret (sp (152 : Nat) [((2 : Nat),
  AV.lit (Value.bool false))] []))) (K Exit.ret (sp (152 : Nat) [((2 : Nat), AV.lit (Value.bool false))] []))) (K Exit.ret (sp (152 : Nat) [((2 : Nat), AV.lit
  (Value.bool false))] [])))) (∃ (a_2 : A45 × Int), ([AV.agg [AV.agg [AV.lit (Value.string (A45.rel a)), AV.lst (28 : Nat) (A45.hl a)], AV.lst (48 : Nat) (A45.bl
  a), AV.lit (Value.int IntKind.i64 (A45.line a))], AV.lit (Value.int IntKind.i64 (IntKind.wrap IntKind.i64 (i + (1 : Int))))], nilO) = ([AV.agg [AV.agg [AV.lit
  (Value.string (A45.rel (Prod.fst a_2))), AV.lst (28 : Nat) (A45.hl (Prod.fst a_2))], AV.lst (48 : Nat) (A45.bl (Prod.fst a_2)), AV.lit (Value.int IntKind.i64
  (A45.line (Prod.fst a_2)))], AV.lit (Value.int IntKind.i64 (Prod.snd a_2))], nilO) ∧ (cntL (tmsOf (ruleTs (28 : Nat) (A45.hl (Prod.fst a_2)) (A45.bl (Prod.fst
  a_2)))) ≤ (100000 : Nat) ∧ List.length (A45.bl (Prod.fst a_2)) ≤ (100000 : Nat)) ∧ brn (rightR (rOf (Prod.fst a_2))) (brn (safeR (rOf (Prod.fst a_2))) (brn
  (decide (Prod.snd a_2 < (0 : Int)) || decide ((↑(List.length (A45.bl (Prod.fst a_2))) : Int) < Prod.snd a_2)) (K Exit.ret (sp (152 : Nat) [((2 : Nat), AV.lit
  (Value.bool false))] [])) (K Exit.ret (sp (152 : Nat) [((2 : Nat), AV.lit (Value.bool false))] []))) (K Exit.ret (sp (152 : Nat) [((2 : Nat), AV.lit
  (Value.bool false))] []))) (K Exit.ret (sp (152 : Nat) [((2 : Nat), AV.lit (Value.bool false))] []))))))))))))) (K (Exit.exit (0 : Nat)) (sp (152 : Nat) [((1 :
  Nat), AV.ptr (0 : Nat) (0 : Nat) [] (0 : Nat)), ((3 : Nat), AV.lit (Value.bool true)), ((4 : Nat), AV.slc (1 : Nat) (0 : Nat) (List.length ws))] [Obj.box (35 :
  Nat) (AV.agg [AV.agg [AV.lit (Value.string (A45.rel a)), AV.lst (28 : Nat) (A45.hl a)], AV.lst (48 : Nat) (A45.bl a), AV.lit (Value.int IntKind.i64 (A45.line
  a))]), Obj.row (3 : Nat) ws]))) := by kernel_rfl


def side4a (a : A4a) : Prop := rightR (rOf a.a) = true ∧ safeR (rOf a.a) = true ∧ side42 a.a ∧ a.ws = walkR (rOf a.a) ∧ 0 ≤ a.i ∧ a.i ≤ a.ws.length ∧ a.met.length = a.a.bl.length ∧ ∀ k, Rl.nthB a.met k = true → k ∈ a.ws.take a.i.toNat
def out4a (a : A4a) : Out (Exit × S) := .one (.exit 0, sp 152 [(1, .ptr 0 0 [] 0), (3, .bool true), (4, .slc 1 0 (ints a.ws).length)] [.box 35 (rl45 a.a), .row 3 (ints a.ws)])

theorem bound_len {a : A45} (h : side42 a) (k : Nat) : (boundV (rOf a) k).length ≤ 100000 := by
  have h5 : (ruleV (rOf a)).length ≤ 100000 := by
    have h6 := varsL_le (tmsOf (ruleTs 28 a.hl a.bl))
    rw [ruleTs_vars 28 a.rel a.hl a.bl] at h6
    exact Nat.le_trans h6 h.1
  have h7 := ddup_len (ruleV (rOf a)) []
  refine Nat.le_trans (List.length_filter_le _ _) ?_
  unfold varsR
  cases rightR (rOf a)
  · simp
  · rw [cond_true]; omega

theorem l4a (κ : Kp) : LoopOk (E4b κ) 12 4 9 (loopE 0 st4a side4a out4a) := by
  refine loopE_ok (fun a => a.ws.length - a.i.toNat) ?_
  rintro ⟨a, ws, met, i⟩ K ⟨h1, h2, h3, h4, h5, h6, h7, h8⟩ ho
  simp only at h1 h2 h3 h4 h5 h6 h7 h8
  rw [show (E4b κ).P = Pr κ from rfl]
  refine Eq.mpr (x4a κ a (ints ws) (bools met) i _ _ K) ?_
  simp only [out4a, Out.run] at ho
  have hw := walk_full h2
  rw [← h4] at hw
  have hl := h3.2
  have hil := ints_len ws
  have hbl := bools_len met
  rw [brn_iff, decide_eq_true_eq, decide_eq_false_iff_not]
  refine ⟨fun hi => ?_, fun hi => ho⟩
  have hi' : i.toNat < ws.length := by omega
  have hk : ws[i.toNat] < a.bl.length := by
    have : ws[i.toNat] ∈ walkR (rOf a) := by rw [← h4]; exact List.getElem_mem hi'
    have := walkR_lt this
    rwa [body_len] at this
  have hnm : Rl.nthB met ws[i.toNat] = false := by
    rw [Bool.eq_false_iff]
    intro e
    have hm := h8 _ e
    have hnd : ws.Nodup := by rw [h4]; exact walkR_nodup _
    rw [← List.take_append_drop i.toNat ws, List.drop_eq_getElem_cons hi'] at hnd
    exact (List.nodup_append.1 hnd).2.2 _ hm _ List.mem_cons_self rfl
  simp only [Nat.zero_add, ints_nth ws _ hi', Int.toNat_natCast, bools_nth, hnm, hil, hbl]
  rw [wrap_ok (n := i + 1) (by omega) (by omega)]
  have c1 : (decide (0 ≤ i) && decide (i < (ws.length : Int))) = true := by simp; omega
  have c2 : decide ((ws[i.toNat] : Int) < 0) = false := decide_eq_false (by omega)
  have c3 : decide ((ws[i.toNat] : Int) ≥ (met.length : Int)) = false := decide_eq_false (by omega)
  have c4 : (decide (0 ≤ (ws[i.toNat] : Int)) && decide ((ws[i.toNat] : Int) < (met.length : Int))) = true := by simp; omega
  rw [c1, c2, c3, c4]
  have d1 : (decide (i < 0) || decide ((a.bl.length : Int) < i)) = false := by simp; omega
  have d2 : (decide (i + 1 < 0) || decide ((a.bl.length : Int) < i + 1)) = false := by simp; omega
  refine ⟨(a, i), rfl, h3, ?_⟩
  simp only [h1, h2, d1]
  refine ⟨(a, i + 1), rfl, h3, ?_⟩
  simp only [h1, h2, d2]
  have hb0 := bound_len h3 i.toNat
  have hb1 := bound_len h3 (i.toNat + 1)
  have hb2 := boundV_len (rOf a) i.toNat
  have e1 : (i + 1).toNat = i.toNat + 1 := by omega
  rw [e1]
  have d3 : decide (((strs (boundV (rOf a) i.toNat)).length : Int) > ((strs (boundV (rOf a) (i.toNat + 1))).length : Int)) = false := decide_eq_false (by rw [strs_len, strs_len]; omega)
  simp only [d3]
  refine ⟨trivial, ⟨a, ints ws, setN (bools met) ws[i.toNat] (.lit (.bool true)), i, boundV (rOf a) i.toNat, boundV (rOf a) (i.toNat + 1), 0⟩, ?_, ⟨by simp only [maxI]; omega, by simp only [maxI]; omega, by simp only; omega, by simp only; omega, fun s hs => boundV_mono _ _ hs⟩, ?_⟩
  · simp only [st4b, setN_len, ints_len, bools_len]
  · refine ⟨_, ?_, ⟨a, ws, met.set ws[i.toNat] true, i + 1⟩, ?_, ⟨h1, h2, h3, h4, by simp only; omega, by simp only; omega, by simpa using h7, ?_⟩, rfl, ho⟩
    · simp only; omega
    · simp only [st4a, setN_bools, bools_len, ints_len, List.length_set, wrap_ok (n := i + 1) (by omega) (by omega)]
    · intro k hk2
      simp only [e1]
      rw [List.take_succ_eq_append_getElem hi', List.mem_append, List.mem_singleton]
      simp only [Rl.nthB, List.getD_eq_getElem?_getD, List.getElem?_set] at hk2
      split at hk2
      · rename_i e; exact .inr e.symm
      · exact .inl (h8 k (by simpa [Rl.nthB, List.getD_eq_getElem?_getD] using hk2))

noncomputable def E4a (κ : Kp) : Env := (E4b κ).addLoop 4 9 (loopE 0 st4a side4a out4a)
theorem e4a (κ : Kp) : EnvOK (E4a κ) := (e4b κ).addLoop (m4b κ) (l4a κ)
theorem m4a (κ : Kp) : EnvMono (E4a κ) := (m4b κ).addLoop loopE_mono

/-! ### What is bound are variables of the rule -/
structure A4c where
  a : A45
  ws : List AV
  bs : List ByteArray
  hs : List ByteArray
  k : Int

abbrev st4c (a : A4c) : S := sp 152 [(1, .ptr 0 0 [] 0), (3, .bool true), (4, .slc 1 0 a.ws.length), (13, .lst 9 (strs a.bs)), (14, .int 0), (15, .slc 2 0 (strs a.hs).length), (16, .int a.k)] [.box 35 (rl45 a.a), .row 3 a.ws, .row 9 (strs a.hs)]

theorem x4c (κ : Kp) (a : A4c) (I : Nat → S → Prop) (n : Nat) (K : Exit → S → Prop) : (vc (E4a κ) 12 4 none 0 (loopCode (Pr κ).toProgram 4 26) (st4c a) (loopK (E4a κ) 4 26 0 I n K)) = (
  brn (decide (A4c.k a < (↑(List.length (strs (A4c.bs a))) : Int))) (cnd (decide ((0 : Int) ≤ A4c.k a) && decide (A4c.k a < (↑(List.length (strs (A4c.bs a))) :
  Int))) (cnd (decide (List.length (List.take (List.length (strs (A4c.hs a))) (List.drop (0 : Nat) (strs (A4c.hs a)))) ≤ (9223372036854775807 : Nat))) (brn
  (decide (placeS (toStr (nth (strs (A4c.bs a)) (Int.toNat (A4c.k a)))) (List.take (List.length (strs (A4c.hs a))) (List.drop (0 : Nat) (strs (A4c.hs a)))) (0 :
  Int) < (0 : Int))) (K Exit.ret (sp (152 : Nat) [((2 : Nat), AV.lit (Value.bool false))] [])) (∃ (m : Nat), m < n ∧ I m (sp (152 : Nat) [((1 : Nat), AV.ptr (0 :
  Nat) (0 : Nat) [] (0 : Nat)), ((3 : Nat), AV.lit (Value.bool true)), ((4 : Nat), AV.slc (1 : Nat) (0 : Nat) (List.length (A4c.ws a))), ((13 : Nat), AV.lst (9 :
  Nat) (strs (A4c.bs a))), ((14 : Nat), AV.lit (Value.int IntKind.i64 (0 : Int))), ((15 : Nat), AV.slc (2 : Nat) (0 : Nat) (List.length (strs (A4c.hs a)))), ((16
  : Nat), AV.lit (Value.int IntKind.i64 (IntKind.wrap IntKind.i64 (A4c.k a + (1 : Int)))))] [Obj.box (35 : Nat) (AV.agg [AV.agg [AV.lit (Value.string (A45.rel
  (A4c.a a))), AV.lst (28 : Nat) (A45.hl (A4c.a a))], AV.lst (48 : Nat) (A45.bl (A4c.a a)), AV.lit (Value.int IntKind.i64 (A45.line (A4c.a a)))]), Obj.row (3 :
  Nat) (A4c.ws a), Obj.row (9 : Nat) (strs (A4c.hs a))]))))) (K (Exit.exit (4 : Nat)) (sp (152 : Nat) [((1 : Nat), AV.ptr (0 : Nat) (0 : Nat) [] (0 : Nat)), ((3
  : Nat), AV.lit (Value.bool true)), ((4 : Nat), AV.slc (1 : Nat) (0 : Nat) (List.length (A4c.ws a))), ((14 : Nat), AV.lit (Value.int IntKind.i64 (0 : Int)))]
  [Obj.box (35 : Nat) (AV.agg [AV.agg [AV.lit (Value.string (A45.rel (A4c.a a))), AV.lst (28 : Nat) (A45.hl (A4c.a a))], AV.lst (48 : Nat) (A45.bl (A4c.a a)),
  AV.lit (Value.int IntKind.i64 (A45.line (A4c.a a)))]), Obj.row (3 : Nat) (A4c.ws a)]))) := by kernel_rfl


def side4c (a : A4c) : Prop := a.bs.length ≤ maxI ∧ a.hs.length ≤ maxI ∧ 0 ≤ a.k ∧ a.k ≤ a.bs.length ∧ ∀ s, s ∈ a.bs → s ∈ a.hs
def out4c (a : A4c) : Out (Exit × S) := .one (.exit 4, sp 152 [(1, .ptr 0 0 [] 0), (3, .bool true), (4, .slc 1 0 a.ws.length), (14, .int 0)] [.box 35 (rl45 a.a), .row 3 a.ws])

theorem l4c (κ : Kp) : LoopOk (E4a κ) 12 4 26 (loopE 0 st4c side4c out4c) := by
  refine loopE_ok (fun a => a.bs.length - a.k.toNat) ?_
  rintro ⟨a, ws, bs, hs, k⟩ K ⟨h1, h2, h3, h4, h5⟩ ho
  simp only at h1 h2 h3 h4 h5
  rw [show (E4a κ).P = Pr κ from rfl]
  refine Eq.mpr (x4c κ ⟨a, ws, bs, hs, k⟩ _ _ K) ?_
  simp only [out4c, Out.run] at ho
  simp only [maxI] at h1 h2
  simp only [List.drop_zero, List.take_length]
  simp only [brn_iff, cnd_iff, decide_eq_true_eq, decide_eq_false_iff_not, Bool.and_eq_true, strs_len]
  refine ⟨fun hi => ⟨⟨h3, hi⟩, by omega, fun e => ?_, fun _ => ?_⟩, fun hi => ?_⟩
  · have hk : k.toNat < bs.length := by omega
    rw [strs_nth bs _ hk] at e
    have := placeS_mem (h5 _ (List.getElem_mem hk))
    exact absurd (show placeS bs[k.toNat] (strs hs) 0 < 0 from e) (by omega)
  · rw [wrap_ok (n := k + 1) (by omega) (by omega)]
    refine ⟨_, ?_, ⟨a, ws, bs, hs, k + 1⟩, by simp only [st4c, strs_len], ⟨by simpa [maxI] using h1, by simpa [maxI] using h2, by simp only; omega, by simp only; omega, h5⟩, rfl, ho⟩
    simp only; omega
  · exact ho

noncomputable def E4c (κ : Kp) : Env := (E4a κ).addLoop 4 26 (loopE 0 st4c side4c out4c)
theorem e4c (κ : Kp) : EnvOK (E4c κ) := (e4a κ).addLoop (m4a κ) (l4c κ)
theorem m4c (κ : Kp) : EnvMono (E4c κ) := (m4a κ).addLoop loopE_mono

theorem y4 (κ : Kp) (a : A45) (K : AV → List Dn.Obj → Prop) : (funA (E4c κ) 12 4 [rl45 a] [] K) = (
  brn (!smallR { head := { rel := A45.rel a, l := tmsOf (A45.hl a) }, body := ltsOf (A45.bl a) }) (K (AV.lit (Value.bool true)) []) (∃ (a_1 : A45), ([AV.agg
  [AV.agg [AV.lit (Value.string (A45.rel a)), AV.lst (28 : Nat) (A45.hl a)], AV.lst (48 : Nat) (A45.bl a), AV.lit (Value.int IntKind.i64 (A45.line a))]], nilO) =
  ([AV.agg [AV.agg [AV.lit (Value.string (A45.rel a_1)), AV.lst (28 : Nat) (A45.hl a_1)], AV.lst (48 : Nat) (A45.bl a_1), AV.lit (Value.int IntKind.i64 (A45.line
  a_1))]], nilO) ∧ (cntL (tmsOf (ruleTs (28 : Nat) (A45.hl a_1) (A45.bl a_1))) ≤ (100000 : Nat) ∧ List.length (A45.bl a_1) ≤ (100000 : Nat)) ∧ brn (rightR (rOf
  a_1)) (brn (safeR (rOf a_1)) (cnd (true && decide ((↑(List.length (A45.bl a)) : Int) ≤ (↑(List.length (A45.bl a)) : Int)) && decide ((Int.toNat (↑(List.length
  (A45.bl a)) : Int) + (1 : Nat)) * (2 : Nat) ≤ (70368744177664 : Nat)) && true) (loopCode (Pg.toProgram (Env.P (E4b κ))) (4 : Nat) (9 : Nat) = loopCode
  (Pg.toProgram (Env.P (E4b κ))) (4 : Nat) (9 : Nat) ∧ ∃ (a_2 : A4a), sp (152 : Nat) [((1 : Nat), AV.ptr (0 : Nat) (0 : Nat) [] (0 : Nat)), ((3 : Nat), AV.lit
  (Value.bool true)), ((4 : Nat), AV.slc (1 : Nat) (0 : Nat) (List.length (walkR (rOf a_1)))), ((6 : Nat), AV.slc (2 : Nat) (0 : Nat) (Int.toNat (↑(List.length
  (A45.bl a)) : Int))), ((7 : Nat), AV.lit (Value.int IntKind.i64 (0 : Int)))] [Obj.box (35 : Nat) (AV.agg [AV.agg [AV.lit (Value.string (A45.rel a)), AV.lst (28
  : Nat) (A45.hl a)], AV.lst (48 : Nat) (A45.bl a), AV.lit (Value.int IntKind.i64 (A45.line a))]), Obj.row (3 : Nat) (ints (walkR (rOf a_1))), Obj.row (4 : Nat)
  (zerosA (AV.lit (Value.bool false)) (Int.toNat (↑(List.length (A45.bl a)) : Int)))] = sp (152 : Nat) [((1 : Nat), AV.ptr (0 : Nat) (0 : Nat) [] (0 : Nat)), ((3
  : Nat), AV.lit (Value.bool true)), ((4 : Nat), AV.slc (1 : Nat) (0 : Nat) (List.length (ints (A4a.ws a_2)))), ((6 : Nat), AV.slc (2 : Nat) (0 : Nat)
  (List.length (bools (A4a.met a_2)))), ((7 : Nat), AV.lit (Value.int IntKind.i64 (A4a.i a_2)))] [Obj.box (35 : Nat) (AV.agg [AV.agg [AV.lit (Value.string
  (A45.rel (A4a.a a_2))), AV.lst (28 : Nat) (A45.hl (A4a.a a_2))], AV.lst (48 : Nat) (A45.bl (A4a.a a_2)), AV.lit (Value.int IntKind.i64 (A45.line (A4a.a
  a_2)))]), Obj.row (3 : Nat) (ints (A4a.ws a_2)), Obj.row (4 : Nat) (bools (A4a.met a_2))] ∧ (rightR (rOf (A4a.a a_2)) = true ∧ safeR (rOf (A4a.a a_2)) = true ∧
  (cntL (tmsOf (ruleTs (28 : Nat) (A45.hl (A4a.a a_2)) (A45.bl (A4a.a a_2)))) ≤ (100000 : Nat) ∧ List.length (A45.bl (A4a.a a_2)) ≤ (100000 : Nat)) ∧ A4a.ws a_2
  = walkR (rOf (A4a.a a_2)) ∧ (0 : Int) ≤ A4a.i a_2 ∧ A4a.i a_2 ≤ (↑(List.length (A4a.ws a_2)) : Int) ∧ List.length (A4a.met a_2) = List.length (A45.bl (A4a.a
  a_2)) ∧ ∀ (k : Nat), Rl.nthB (A4a.met a_2) k = true → List.Mem k (List.take (Int.toNat (A4a.i a_2)) (A4a.ws a_2))) ∧ ∃ (a : A45 × Int), ([AV.agg [AV.agg
  [AV.lit (Value.string (A45.rel (A4a.a a_2))), AV.lst (28 : Nat) (A45.hl (A4a.a a_2))], AV.lst (48 : Nat) (A45.bl (A4a.a a_2)), AV.lit (Value.int IntKind.i64
  (A45.line (A4a.a a_2)))], AV.lit (Value.int IntKind.i64 (↑(List.length (ints (A4a.ws a_2))) : Int))], nilO) = ([AV.agg [AV.agg [AV.lit (Value.string (A45.rel
  (Prod.fst a))), AV.lst (28 : Nat) (A45.hl (Prod.fst a))], AV.lst (48 : Nat) (A45.bl (Prod.fst a)), AV.lit (Value.int IntKind.i64 (A45.line (Prod.fst a)))],
  AV.lit (Value.int IntKind.i64 (Prod.snd a))], nilO) ∧ (cntL (tmsOf (ruleTs (28 : Nat) (A45.hl (Prod.fst a)) (A45.bl (Prod.fst a)))) ≤ (100000 : Nat) ∧
  List.length (A45.bl (Prod.fst a)) ≤ (100000 : Nat)) ∧ brn (rightR (rOf (Prod.fst a))) (brn (safeR (rOf (Prod.fst a))) (brn (decide (Prod.snd a < (0 : Int)) ||
  decide ((↑(List.length (A45.bl (Prod.fst a))) : Int) < Prod.snd a)) (∃ (a : A45), ([AV.agg [AV.agg [AV.lit (Value.string (A45.rel (A4a.a a_2))), AV.lst (28 :
  Nat) (A45.hl (A4a.a a_2))], AV.lst (48 : Nat) (A45.bl (A4a.a a_2)), AV.lit (Value.int IntKind.i64 (0 : Int))]], nilO) = ([AV.agg [AV.agg [AV.lit (Value.string
  (A45.rel a)), AV.lst (28 : Nat) (A45.hl a)], AV.lst (48 : Nat) (A45.bl a), AV.lit (Value.int IntKind.i64 (A45.line a))]], nilO) ∧ (rightR (rOf a) = true ∧ cntL
  (tmsOf (ruleTs (28 : Nat) (A45.hl a) (A45.bl a))) ≤ (100000 : Nat) ∧ List.length (A45.bl a) ≤ (100000 : Nat)) ∧ loopCode (Pg.toProgram (Env.P (E4a κ))) (4 :
  Nat) (26 : Nat) = loopCode (Pg.toProgram (Env.P (E4a κ))) (4 : Nat) (26 : Nat) ∧ ∃ (a_3 : A4c), sp (152 : Nat) [((1 : Nat), AV.ptr (0 : Nat) (0 : Nat) [] (0 :
  Nat)), ((3 : Nat), AV.lit (Value.bool true)), ((4 : Nat), AV.slc (1 : Nat) (0 : Nat) (List.length (ints (A4a.ws a_2)))), ((13 : Nat), AV.lit (Value.slice none
  (0 : Nat) (0 : Nat))), ((14 : Nat), AV.lit (Value.int IntKind.i64 (2 : Int))), ((15 : Nat), AV.slc (2 : Nat) (0 : Nat) (List.length (varsR (rOf a)))), ((16 :
  Nat), AV.lit (Value.int IntKind.i64 (0 : Int)))] [Obj.box (35 : Nat) (AV.agg [AV.agg [AV.lit (Value.string (A45.rel (A4a.a a_2))), AV.lst (28 : Nat) (A45.hl
  (A4a.a a_2))], AV.lst (48 : Nat) (A45.bl (A4a.a a_2)), AV.lit (Value.int IntKind.i64 (A45.line (A4a.a a_2)))]), Obj.row (3 : Nat) (ints (A4a.ws a_2)), Obj.row
  (9 : Nat) (strs (varsR (rOf a)))] = sp (152 : Nat) [((1 : Nat), AV.ptr (0 : Nat) (0 : Nat) [] (0 : Nat)), ((3 : Nat), AV.lit (Value.bool true)), ((4 : Nat),
  AV.slc (1 : Nat) (0 : Nat) (List.length (A4c.ws a_3))), ((13 : Nat), AV.lst (9 : Nat) (strs (A4c.bs a_3))), ((14 : Nat), AV.lit (Value.int IntKind.i64 (0 :
  Int))), ((15 : Nat), AV.slc (2 : Nat) (0 : Nat) (List.length (strs (A4c.hs a_3)))), ((16 : Nat), AV.lit (Value.int IntKind.i64 (A4c.k a_3)))] [Obj.box (35 :
  Nat) (AV.agg [AV.agg [AV.lit (Value.string (A45.rel (A4c.a a_3))), AV.lst (28 : Nat) (A45.hl (A4c.a a_3))], AV.lst (48 : Nat) (A45.bl (A4c.a a_3)), AV.lit
  (Value.int IntKind.i64 (A45.line (A4c.a a_3)))]), Obj.row (3 : Nat) (A4c.ws a_3), Obj.row (9 : Nat) (strs (A4c.hs a_3))] ∧ (List.length (A4c.bs a_3) ≤
  (9223372036854775807 : Nat) ∧ List.length (A4c.hs a_3) ≤ (9223372036854775807 : Nat) ∧ (0 : Int) ≤ A4c.k a_3 ∧ A4c.k a_3 ≤ (↑(List.length (A4c.bs a_3)) : Int)
  ∧ ∀ (s : ByteArray), List.Mem s (A4c.bs a_3) → List.Mem s (A4c.hs a_3)) ∧ brn ((↑(List.length (A4c.ws a_3)) : Int) == (↑(List.length (A45.bl (A4c.a a_3))) :
  Int)) (K (AV.lit (Value.bool true)) []) (K (AV.lit (Value.bool false)) [])) (∃ (a_3 : A45), ([AV.agg [AV.agg [AV.lit (Value.string (A45.rel (A4a.a a_2))),
  AV.lst (28 : Nat) (A45.hl (A4a.a a_2))], AV.lst (48 : Nat) (A45.bl (A4a.a a_2)), AV.lit (Value.int IntKind.i64 (0 : Int))]], nilO) = ([AV.agg [AV.agg [AV.lit
  (Value.string (A45.rel a_3)), AV.lst (28 : Nat) (A45.hl a_3)], AV.lst (48 : Nat) (A45.bl a_3), AV.lit (Value.int IntKind.i64 (A45.line a_3))]], nilO) ∧ (rightR
  (rOf a_3) = true ∧ cntL (tmsOf (ruleTs (28 : Nat) (A45.hl a_3) (A45.bl a_3))) ≤ (100000 : Nat) ∧ List.length (A45.bl a_3) ≤ (100000 : Nat)) ∧ loopCode
  (Pg.toProgram (Env.P (E4a κ))) (4 : Nat) (26 : Nat) = loopCode (Pg.toProgram (Env.P (E4a κ))) (4 : Nat) (26 : Nat) ∧ ∃ (a_4 : A4c), sp (152 : Nat) [((1 : Nat),
  AV.ptr (0 : Nat) (0 : Nat) [] (0 : Nat)), ((3 : Nat), AV.lit (Value.bool true)), ((4 : Nat), AV.slc (1 : Nat) (0 : Nat) (List.length (ints (A4a.ws a_2)))),
  ((13 : Nat), AV.lst (9 : Nat) (strs (boundV (rOf (Prod.fst a)) (Int.toNat (Prod.snd a))))), ((14 : Nat), AV.lit (Value.int IntKind.i64 (0 : Int))), ((15 :
  Nat), AV.slc (2 : Nat) (0 : Nat) (List.length (varsR (rOf a_3)))), ((16 : Nat), AV.lit (Value.int IntKind.i64 (0 : Int)))] [Obj.box (35 : Nat) (AV.agg [AV.agg
  [AV.lit (Value.string (A45.rel (A4a.a a_2))), AV.lst (28 : Nat) (A45.hl (A4a.a a_2))], AV.lst (48 : Nat) (A45.bl (A4a.a a_2)), AV.lit (Value.int IntKind.i64
  (A45.line (A4a.a a_2)))]), Obj.row (3 : Nat) (ints (A4a.ws a_2)), Obj.row (9 : Nat) (strs (varsR (rOf a_3)))] = sp (152 : Nat) [((1 : Nat), AV.ptr (0 : Nat) (0
  : Nat) [] (0 : Nat)), ((3 : Nat), AV.lit (Value.bool true)), ((4 : Nat), AV.slc (1 : Nat) (0 : Nat) (List.length (A4c.ws a_4))), ((13 : Nat), AV.lst (9 : Nat)
  (strs (A4c.bs a_4))), ((14 : Nat), AV.lit (Value.int IntKind.i64 (0 : Int))), ((15 : Nat), AV.slc (2 : Nat) (0 : Nat) (List.length (strs (A4c.hs a_4)))), ((16
  : Nat), AV.lit (Value.int IntKind.i64 (A4c.k a_4)))] [Obj.box (35 : Nat) (AV.agg [AV.agg [AV.lit (Value.string (A45.rel (A4c.a a_4))), AV.lst (28 : Nat)
  (A45.hl (A4c.a a_4))], AV.lst (48 : Nat) (A45.bl (A4c.a a_4)), AV.lit (Value.int IntKind.i64 (A45.line (A4c.a a_4)))]), Obj.row (3 : Nat) (A4c.ws a_4), Obj.row
  (9 : Nat) (strs (A4c.hs a_4))] ∧ (List.length (A4c.bs a_4) ≤ (9223372036854775807 : Nat) ∧ List.length (A4c.hs a_4) ≤ (9223372036854775807 : Nat) ∧ (0 : Int) ≤
  A4c.k a_4 ∧ A4c.k a_4 ≤ (↑(List.length (A4c.bs a_4)) : Int) ∧ ∀ (s : ByteArray), List.Mem s (A4c.bs a_4) → List.Mem s (A4c.hs a_4)) ∧ brn ((↑(List.length
  (A4c.ws a_4)) : Int) == (↑(List.length (A45.bl (A4c.a a_4))) : Int)) (K (AV.lit (Value.bool true)) []) (K (AV.lit (Value.bool false)) []))) (∃ (a : A45),
  ([AV.agg [AV.agg [AV.lit (Value.string (A45.rel (A4a.a a_2))), AV.lst (28 : Nat) (A45.hl (A4a.a a_2))], AV.lst (48 : Nat) (A45.bl (A4a.a a_2)), AV.lit
  (Value.int IntKind.i64 (0 : Int))]], nilO) = ([AV.agg [AV.agg [AV.lit (Value.string (A45.rel a)), AV.lst (28 : Nat) (A45.hl a)], AV.lst (48 : Nat) (A45.bl a),
  AV.lit (Value.int IntKind.i64 (A45.line a))]], nilO) ∧ (rightR (rOf a) = true ∧ cntL (tmsOf (ruleTs (28 : Nat) (A45.hl a) (A45.bl a))) ≤ (100000 : Nat) ∧
  List.length (A45.bl a) ≤ (100000 : Nat)) ∧ loopCode (Pg.toProgram (Env.P (E4a κ))) (4 : Nat) (26 : Nat) = loopCode (Pg.toProgram (Env.P (E4a κ))) (4 : Nat) (26
  : Nat) ∧ ∃ (a_3 : A4c), sp (152 : Nat) [((1 : Nat), AV.ptr (0 : Nat) (0 : Nat) [] (0 : Nat)), ((3 : Nat), AV.lit (Value.bool true)), ((4 : Nat), AV.slc (1 :
  Nat) (0 : Nat) (List.length (ints (A4a.ws a_2)))), ((13 : Nat), AV.lit (Value.slice none (0 : Nat) (0 : Nat))), ((14 : Nat), AV.lit (Value.int IntKind.i64 (60
  : Int))), ((15 : Nat), AV.slc (2 : Nat) (0 : Nat) (List.length (varsR (rOf a)))), ((16 : Nat), AV.lit (Value.int IntKind.i64 (0 : Int)))] [Obj.box (35 : Nat)
  (AV.agg [AV.agg [AV.lit (Value.string (A45.rel (A4a.a a_2))), AV.lst (28 : Nat) (A45.hl (A4a.a a_2))], AV.lst (48 : Nat) (A45.bl (A4a.a a_2)), AV.lit
  (Value.int IntKind.i64 (A45.line (A4a.a a_2)))]), Obj.row (3 : Nat) (ints (A4a.ws a_2)), Obj.row (9 : Nat) (strs (varsR (rOf a)))] = sp (152 : Nat) [((1 :
  Nat), AV.ptr (0 : Nat) (0 : Nat) [] (0 : Nat)), ((3 : Nat), AV.lit (Value.bool true)), ((4 : Nat), AV.slc (1 : Nat) (0 : Nat) (List.length (A4c.ws a_3))), ((13
  : Nat), AV.lst (9 : Nat) (strs (A4c.bs a_3))), ((14 : Nat), AV.lit (Value.int IntKind.i64 (0 : Int))), ((15 : Nat), AV.slc (2 : Nat) (0 : Nat) (List.length
  (strs (A4c.hs a_3)))), ((16 : Nat), AV.lit (Value.int IntKind.i64 (A4c.k a_3)))] [Obj.box (35 : Nat) (AV.agg [AV.agg [AV.lit (Value.string (A45.rel (A4c.a
  a_3))), AV.lst (28 : Nat) (A45.hl (A4c.a a_3))], AV.lst (48 : Nat) (A45.bl (A4c.a a_3)), AV.lit (Value.int IntKind.i64 (A45.line (A4c.a a_3)))]), Obj.row (3 :
  Nat) (A4c.ws a_3), Obj.row (9 : Nat) (strs (A4c.hs a_3))] ∧ (List.length (A4c.bs a_3) ≤ (9223372036854775807 : Nat) ∧ List.length (A4c.hs a_3) ≤
  (9223372036854775807 : Nat) ∧ (0 : Int) ≤ A4c.k a_3 ∧ A4c.k a_3 ≤ (↑(List.length (A4c.bs a_3)) : Int) ∧ ∀ (s : ByteArray), List.Mem s (A4c.bs a_3) → List.Mem s
  (A4c.hs a_3)) ∧ brn ((↑(List.length (A4c.ws a_3)) : Int) == (↑(List.length (A45.bl (A4c.a a_3))) : Int)) (K (AV.lit (Value.bool true)) []) (K (AV.lit
  (Value.bool false)) []))) (∃ (a : A45), ([AV.agg [AV.agg [AV.lit (Value.string (A45.rel (A4a.a a_2))), AV.lst (28 : Nat) (A45.hl (A4a.a a_2))], AV.lst (48 :
  Nat) (A45.bl (A4a.a a_2)), AV.lit (Value.int IntKind.i64 (0 : Int))]], nilO) = ([AV.agg [AV.agg [AV.lit (Value.string (A45.rel a)), AV.lst (28 : Nat) (A45.hl
  a)], AV.lst (48 : Nat) (A45.bl a), AV.lit (Value.int IntKind.i64 (A45.line a))]], nilO) ∧ (rightR (rOf a) = true ∧ cntL (tmsOf (ruleTs (28 : Nat) (A45.hl a)
  (A45.bl a))) ≤ (100000 : Nat) ∧ List.length (A45.bl a) ≤ (100000 : Nat)) ∧ loopCode (Pg.toProgram (Env.P (E4a κ))) (4 : Nat) (26 : Nat) = loopCode
  (Pg.toProgram (Env.P (E4a κ))) (4 : Nat) (26 : Nat) ∧ ∃ (a_3 : A4c), sp (152 : Nat) [((1 : Nat), AV.ptr (0 : Nat) (0 : Nat) [] (0 : Nat)), ((3 : Nat), AV.lit
  (Value.bool true)), ((4 : Nat), AV.slc (1 : Nat) (0 : Nat) (List.length (ints (A4a.ws a_2)))), ((13 : Nat), AV.lit (Value.slice none (0 : Nat) (0 : Nat))),
  ((14 : Nat), AV.lit (Value.int IntKind.i64 (30 : Int))), ((15 : Nat), AV.slc (2 : Nat) (0 : Nat) (List.length (varsR (rOf a)))), ((16 : Nat), AV.lit (Value.int
  IntKind.i64 (0 : Int)))] [Obj.box (35 : Nat) (AV.agg [AV.agg [AV.lit (Value.string (A45.rel (A4a.a a_2))), AV.lst (28 : Nat) (A45.hl (A4a.a a_2))], AV.lst (48
  : Nat) (A45.bl (A4a.a a_2)), AV.lit (Value.int IntKind.i64 (A45.line (A4a.a a_2)))]), Obj.row (3 : Nat) (ints (A4a.ws a_2)), Obj.row (9 : Nat) (strs (varsR
  (rOf a)))] = sp (152 : Nat) [((1 : Nat), AV.ptr (0 : Nat) (0 : Nat) [] (0 : Nat)), ((3 : Nat), AV.lit (Value.bool true)), ((4 : Nat), AV.slc (1 : Nat) (0 :
  Nat) (List.length (A4c.ws a_3))), ((13 : Nat), AV.lst (9 : Nat) (strs (A4c.bs a_3))), ((14 : Nat), AV.lit (Value.int IntKind.i64 (0 : Int))), ((15 : Nat),
  AV.slc (2 : Nat) (0 : Nat) (List.length (strs (A4c.hs a_3)))), ((16 : Nat), AV.lit (Value.int IntKind.i64 (A4c.k a_3)))] [Obj.box (35 : Nat) (AV.agg [AV.agg
  [AV.lit (Value.string (A45.rel (A4c.a a_3))), AV.lst (28 : Nat) (A45.hl (A4c.a a_3))], AV.lst (48 : Nat) (A45.bl (A4c.a a_3)), AV.lit (Value.int IntKind.i64
  (A45.line (A4c.a a_3)))]), Obj.row (3 : Nat) (A4c.ws a_3), Obj.row (9 : Nat) (strs (A4c.hs a_3))] ∧ (List.length (A4c.bs a_3) ≤ (9223372036854775807 : Nat) ∧
  List.length (A4c.hs a_3) ≤ (9223372036854775807 : Nat) ∧ (0 : Int) ≤ A4c.k a_3 ∧ A4c.k a_3 ≤ (↑(List.length (A4c.bs a_3)) : Int) ∧ ∀ (s : ByteArray), List.Mem
  s (A4c.bs a_3) → List.Mem s (A4c.hs a_3)) ∧ brn ((↑(List.length (A4c.ws a_3)) : Int) == (↑(List.length (A45.bl (A4c.a a_3))) : Int)) (K (AV.lit (Value.bool
  true)) []) (K (AV.lit (Value.bool false)) [])))) (K (AV.lit (Value.bool true)) [])) (K (AV.lit (Value.bool true)) []))) := by kernel_rfl

theorem sim4 (κ : Kp) (a : A45) : funA (E4c κ) 12 4 [rl45 a] [] (fun r _ => r = .bool true) := by
  refine Eq.mpr (y4 κ a _) ?_
  have hr : smallR ⟨⟨a.rel, tmsOf a.hl⟩, ltsOf a.bl⟩ = smallR (rOf a) := rfl
  rw [hr]
  cases hs : smallR (rOf a) with
  | false => rfl
  | true =>
    obtain ⟨h2, _⟩ := small_side hs
    have hl := h2.2
    refine ⟨a, rfl, h2, ?_⟩
    cases h1 : rightR (rOf a) with
    | false => rfl
    | true =>
      cases h3 : safeR (rOf a) with
      | false => rfl
      | true =>
        have hw := walk_full h3
        simp only [brn]
        simp only [cnd_iff, Bool.and_eq_true, decide_eq_true_eq, Int.toNat_natCast]
        refine ⟨⟨⟨⟨trivial, by omega⟩, by omega⟩, trivial⟩, trivial, ⟨a, walkR (rOf a), List.replicate a.bl.length false, 0⟩, ?_, ⟨h1, h3, h2, rfl, by simp only; omega, by simp only; omega, by simp, ?_⟩, (a, ((ints (walkR (rOf a))).length : Int)), rfl, h2, ?_⟩
        · simp only [zeros_bools, bools_len, ints_len, List.length_replicate]
        · intro k hk
          simp [Rl.nthB, List.getD_eq_getElem?_getD, List.getElem?_replicate] at hk
          split at hk <;> simp at hk
        · have d1 : (decide (((ints (walkR (rOf a))).length : Int) < 0) || decide ((a.bl.length : Int) < ((ints (walkR (rOf a))).length : Int))) = false := by
            rw [ints_len, hw]; simp
          simp only [h1, h3, d1]
          have hb := bound_len h2 (Int.toNat ((ints (walkR (rOf a))).length : Int))
          have h5 : (varsR (rOf a)).length ≤ 100000 := by
            have h6 := varsL_le (tmsOf (ruleTs 28 a.hl a.bl))
            rw [ruleTs_vars 28 a.rel a.hl a.bl] at h6
            have h7 := ddup_len (ruleV (rOf a)) []
            unfold varsR
            rw [h1, cond_true]
            exact Nat.le_trans h7 (Nat.le_trans h6 h2.1)
          refine ⟨⟨a.xs, a.more, a.rel, a.hl, a.bl, 0, a.i⟩, rfl, ⟨h1, h2⟩, trivial, ⟨a, ints (walkR (rOf a)), boundV (rOf a) (Int.toNat ((ints (walkR (rOf a))).length : Int)), varsR (rOf a), 0⟩, ?_, ⟨by simp only; omega, by simp only; omega, by simp only; omega, by simp only; omega, fun s hs => boundV_sub _ _ hs⟩, ?_⟩
          · simp only [strs_len]; rfl
          · rw [ints_len, hw]; simp

theorem simO (κ : Kp) (a : A45) : SimCall (Pr κ) 4 [rl45 a] [] (fun r _ => r = .bool true) := fun_sound (e4c κ) (m4c κ) (sim4 κ a)
end Go.Proofs.YtidmfjdechhnmaaDoor
