import Derived.Test.YtidmfjdechhnmaaDoorDsM5
import Derived.Test.YtidmfjdechhnmaaDoorDsM1
/-
  soritesref05.Place.
-/
namespace Go.Proofs.YtidmfjdechhnmaaDoor
open Go Go.Dn Go.Rl Go.Proofs
attribute [local irreducible] funA vc
set_option maxRecDepth 20000

theorem x27 (κ : Kp) (l : List AV) (s : ByteArray) (i : Int) (I : Nat → S → Prop) (n : Nat) (K : Exit → S → Prop) : (vc (E6 κ) 12 27 none 0 (loopCode (Pr κ).toProgram 27 2) (sp 19 [(0, .lst 9 l), (1, .lit (.string s)), (5, .int i)] []) (loopK (E6 κ) 27 2 0 I n K)) = (
  brn (decide (i < (↑(List.length l) : Int))) (cnd (decide ((0 : Int) ≤ i) && decide (i < (↑(List.length l) : Int))) (brn (ByteArray.toList (toStr (nth l
  (Int.toNat i))) == ByteArray.toList s) (K Exit.ret (sp 19 [(4, AV.int i)] [])) (∃ (m : Nat), m < n ∧ I m (sp 19 [(0, AV.lst 9 l), (1, AV.str s), (5, AV.int
  (IntKind.wrap IntKind.i64 (i + (1 : Int))))] [])))) (K (Exit.exit 0) (sp 19 [] []))) := by kernel_rfl


abbrev st27 (a : List AV × ByteArray × Int) : S := sp 19 [(0, .lst 9 a.1), (1, .lit (.string a.2.1)), (5, .int a.2.2)] []
def out27 (a : List AV × ByteArray × Int) : Out (Exit × S) := .brn (decide (placeS a.2.1 (a.1.drop a.2.2.toNat) a.2.2 ≥ 0)) (.one (.ret, sp 19 [(4, .int (placeS a.2.1 (a.1.drop a.2.2.toNat) a.2.2))] [])) (.one (.exit 0, sp 19 [] []))

theorem eqS_comm (a b : ByteArray) : eqS a b = eqS b a := by
  rw [eqS_eq, eqS_eq, Bool.eq_iff_iff, beq_iff_eq, beq_iff_eq]
  exact ⟨fun h => h.symm, fun h => h.symm⟩

theorem l27 (κ : Kp) : LoopOk (E6 κ) 12 27 2 (loopE 0 st27 side65 out27) := by
  refine loopE_ok (fun a => a.1.length - a.2.2.toNat) ?_
  rintro ⟨l, s, i⟩ K ⟨h1, h2, h3⟩ ho
  simp only at h1 h2 h3
  rw [show (E6 κ).P = Pr κ from rfl]
  refine Eq.mpr (x27 κ l s i _ _ K) ?_
  simp only [maxI] at h1
  simp only [out27, Out.run, brn_iff] at ho
  simp only [brn_iff, cnd_iff, decide_eq_true_eq, decide_eq_false_iff_not, Bool.and_eq_true]
  refine ⟨fun hi => ⟨⟨h2, hi⟩, fun e => ?_, fun e => ?_⟩, fun hi => ?_⟩
  · rw [List.drop_eq_getElem_cons (show i.toNat < l.length by omega), ← nth_get l i.toNat (by omega), placeS, eqS_comm, show eqS (toStr (nth l i.toNat)) s = true from e, cond_true, decide_eq_true (show i ≥ 0 from h2)] at ho
    exact ho.1 rfl
  · rw [wrap_ok (n := i + 1) (by omega) (by omega)]
    refine ⟨_, ?_, (l, s, i + 1), rfl, ⟨by simpa [maxI] using h1, by simp only; omega, by simp only; omega⟩, rfl, ?_⟩
    · simp only; omega
    · rw [List.drop_eq_getElem_cons (show i.toNat < l.length by omega), ← nth_get l i.toNat (by omega), placeS, eqS_comm, show eqS (toStr (nth l i.toNat)) s = false from e, cond_false] at ho
      simp only [out27, Out.run, brn_iff, show (i + 1).toNat = i.toNat + 1 by omega]
      exact ho
  · rw [List.drop_eq_nil_of_le (by omega)] at ho
    exact ho.2 rfl

noncomputable def E27l (κ : Kp) : Env := (E6 κ).addLoop 27 2 (loopE 0 st27 side65 out27)
theorem e27l (κ : Kp) : EnvOK (E27l κ) := (e6 κ).addLoop (m6 κ) (l27 κ)
theorem m27l (κ : Kp) : EnvMono (E27l κ) := (m6 κ).addLoop loopE_mono

theorem y27 (κ : Kp) (l : List AV) (s : ByteArray) (K : AV → List Dn.Obj → Prop) : (funA (E27l κ) 12 27 [.lst 9 l, .lit (.string s)] [] K) = (
  loopCode (Pg.toProgram (Env.P (E6 κ))) 27 2 = loopCode (Pg.toProgram (Env.P (E6 κ))) 27 2 ∧ ∃ (a : List AV × ByteArray × Int), sp 19 [(0, AV.lst 9 l), (1, AV.str
  s), (5, AV.int 0)] [] = sp 19 [(0, AV.lst 9 (Prod.fst a)), (1, AV.str (Prod.fst (Prod.snd a))), (5, AV.int (Prod.snd (Prod.snd a)))] [] ∧ (List.length
  (Prod.fst a) ≤ 9223372036854775807 ∧ (0 : Int) ≤ Prod.snd (Prod.snd a) ∧ Prod.snd (Prod.snd a) ≤ (↑(List.length (Prod.fst a)) : Int)) ∧ brn (decide (placeS
  (Prod.fst (Prod.snd a)) (List.drop (Int.toNat (Prod.snd (Prod.snd a))) (Prod.fst a)) (Prod.snd (Prod.snd a)) ≥ (0 : Int))) (K (AV.int (placeS (Prod.fst
  (Prod.snd a)) (List.drop (Int.toNat (Prod.snd (Prod.snd a))) (Prod.fst a)) (Prod.snd (Prod.snd a)))) []) (K (AV.int (-1)) [])) := by kernel_rfl


theorem p27 (κ : Kp) : PureOk (E27l κ) 12 27 g65 := by
  intro args x hh
  unfold g65 at hh
  split at hh
  · rename_i l s
    simp only [Option.some.injEq, Prod.mk.injEq, decide_eq_true_eq] at hh
    obtain ⟨h1, rfl⟩ := hh
    refine ⟨_, rfl, rfl, ?_⟩
    refine Eq.mpr (y27 κ l s _) ?_
    refine ⟨rfl, (l, s, 0), rfl, ⟨h1, by simp only; omega, by simp only; omega⟩, ?_⟩
    simp only [Int.toNat_zero, List.drop_zero, brn_iff, decide_eq_true_eq, decide_eq_false_iff_not]
    exact ⟨fun _ => trivial, fun e => by rw [placeS_neg s l 0 e (by omega)]⟩
  · cases hh

noncomputable def E27 (κ : Kp) : Env := (E27l κ).addPure 27 g65
theorem e27 (κ : Kp) : EnvOK (E27 κ) := (e27l κ).addPure (m27l κ) (p27 κ)
theorem m27 (κ : Kp) : EnvMono (E27 κ) := (m27l κ).addPure

theorem y11 (κ : Kp) (l : List AV) (s : ByteArray) (K : AV → List Dn.Obj → Prop) : (funA (E27 κ) 12 11 [.lst 9 l, .lit (.string s)] [] K) = (
  cnd (decide (List.length l ≤ 9223372036854775807)) (K (AV.int (placeS s l (0 : Int))) [])) := by kernel_rfl


theorem p11 (κ : Kp) : PureOk (E27 κ) 12 11 g65 := by
  intro args x hh
  unfold g65 at hh
  split at hh
  · rename_i l s
    simp only [Option.some.injEq, Prod.mk.injEq, decide_eq_true_eq] at hh
    obtain ⟨h1, rfl⟩ := hh
    refine ⟨_, rfl, rfl, ?_⟩
    refine Eq.mpr (y11 κ l s _) ?_
    rw [cnd_iff, decide_eq_true_eq]
    exact ⟨h1, rfl⟩
  · cases hh

noncomputable def E11 (κ : Kp) : Env := (E27 κ).addPure 11 g65
theorem e11 (κ : Kp) : EnvOK (E11 κ) := (e27 κ).addPure (m27 κ) (p11 κ)
theorem m11 (κ : Kp) : EnvMono (E11 κ) := (m27 κ).addPure
end Go.Proofs.YtidmfjdechhnmaaDoor

/-
  DsafeMore: the law's walk.
-/
namespace Go.Proofs.YtidmfjdechhnmaaDoor
open Go Go.Dn Go.Rl Go.Proofs
attribute [local irreducible] funA vc
set_option maxRecDepth 20000

/-! ### The new part's arguments -/
def argA (b : List ByteArray) (x : Int) : AV := bif decide (0 ≤ x) && decide (x < b.length) then tvA (b.getD x.toNat s0) else tiA x
def moreTs (b : List ByteArray) (ns : List AV) : List AV := (ns.take 5).map fun a => argA b (toInt a)

theorem argA_tm (b : List ByteArray) (x : Int) : (∃ s, s ∈ b ∧ tmOf (argA b x) = tv s) ∨ ∃ n, tmOf (argA b x) = ti n := by
  unfold argA
  cases h : decide (0 ≤ x) && decide (x < b.length) with
  | true =>
    simp only [Bool.and_eq_true, decide_eq_true_eq] at h
    left
    have hx : x.toNat < b.length := by omega
    refine ⟨b[x.toNat], List.getElem_mem hx, ?_⟩
    rw [cond_true, tm_tv, List.getD_eq_getElem?_getD, List.getElem?_eq_getElem hx]; rfl
  | false => exact .inr ⟨x, by rw [cond_false, tm_ti]⟩

theorem more_reck (b : List ByteArray) : ∀ l : List AV, reckL (tmsOf (l.map fun a => argA b (toInt a))) = []
  | [] => rfl
  | a :: l => by
    have ih := more_reck b l
    simp only [tmsOf] at ih
    simp only [tmsOf, List.map_cons, reckL, ih, List.append_nil]
    rcases argA_tm b (toInt a) with ⟨s, _, e⟩ | ⟨n, e⟩ <;> rw [e] <;> rfl

theorem more_vars (b : List ByteArray) : ∀ (l : List AV) (s : ByteArray), s ∈ varsL (tmsOf (l.map fun a => argA b (toInt a))) → s ∈ b
  | [], s, h => by simp [tmsOf, varsL] at h
  | a :: l, s, h => by
    have ih := more_vars b l s
    simp only [tmsOf] at ih
    simp only [tmsOf, List.map_cons, varsL, List.mem_append] at h
    rcases h with h | h
    · rcases argA_tm b (toInt a) with ⟨t, ht, e⟩ | ⟨n, e⟩
      · rw [e] at h
        simp [tv, Tm.vars, varsL] at h
        rw [h]; exact ht
      · rw [e] at h
        simp [ti, Tm.vars, varsL] at h
    · exact ih h

theorem more_cnt (b : List ByteArray) : ∀ l : List AV, cntL (tmsOf (l.map fun a => argA b (toInt a))) = l.length
  | [] => rfl
  | a :: l => by
    have ih := more_cnt b l
    simp only [tmsOf] at ih
    simp only [tmsOf, List.map_cons, cntL, ih, List.length_cons]
    rcases argA_tm b (toInt a) with ⟨s, _, e⟩ | ⟨n, e⟩ <;> rw [e] <;> simp [tv, ti, Tm.cnt, cntL] <;> omega

/-- The new part, as a value. -/
abbrev newA (q : ByteArray) (ts : List AV) : AV := .agg [.int 1, .agg [.lit (.string q), .lst 28 ts], zTA, zTA]
abbrev moreA (a : A45) (q : ByteArray) (ts : List AV) : A45 := ⟨[], [], a.rel, a.hl, a.bl ++ [newA q ts], a.line, 0⟩

def newLt (q : ByteArray) (ts : List AV) : Lt := ⟨1, ⟨q, tmsOf ts⟩, t0, t0⟩
theorem lt_new (q : ByteArray) (ts : List AV) : ltOf (newA q ts) = newLt q ts := by
  simp only [ltOf, atOf, fld, nth, tm_z, toLst, toInt, toStr]; rfl
theorem rOf_more (a : A45) (q : ByteArray) (ts : List AV) : rOf (moreA a q ts) = moreR (rOf a) (newLt q ts) := by
  simp only [rOf, moreR, ltsOf, List.map_append, List.map_cons, List.map_nil, lt_new]

theorem more_side {a : A45} (h : ruleC (rOf a) + a.bl.length ≤ 2000) (q : ByteArray) (b : List ByteArray) (ns : List AV) : side42 (moreA a q (moreTs b ns)) := by
  refine ⟨?_, by simp only [List.length_append, List.length_singleton]; omega⟩
  rw [ruleTs_cnt 28 (moreA a q (moreTs b ns)).rel (moreA a q (moreTs b ns)).hl (moreA a q (moreTs b ns)).bl]
  have e := rOf_more a q (moreTs b ns)
  have : (⟨⟨(moreA a q (moreTs b ns)).rel, tmsOf (moreA a q (moreTs b ns)).hl⟩, ltsOf (moreA a q (moreTs b ns)).bl⟩ : Rl) = moreR (rOf a) (newLt q (moreTs b ns)) := e
  rw [this]
  have hc := more_cnt b (ns.take 5)
  have : litC (newLt q (moreTs b ns)) ≤ 7 := by
    unfold litC newLt moreTs
    simp only [hc]
    simp [cntL, t0, Tm.cnt]; omega
  unfold ruleC at h ⊢
  simp only [moreR, List.map_append, List.map_cons, List.map_nil, List.sum_append, List.sum_cons, List.sum_nil]
  omega

theorem new_ok {a : A45} (h1 : rightR (rOf a) = true) (q : ByteArray) (ns : List AV) (h : rightR (moreR (rOf a) (newLt q (moreTs (boundV (rOf a) a.bl.length) ns))) = true) : NewOk (rOf a) (newLt q (moreTs (boundV (rOf a) a.bl.length) ns)) := by
  refine ⟨h1, h, rfl, more_reck _ _, fun s hs => ?_⟩
  simp only [litV, newLt, List.mem_append] at hs
  rcases hs with hs | hs
  · simp [varsL, t0, Tm.vars] at hs
  · have := more_vars _ _ _ hs
    unfold boundV at this
    have := (List.mem_filter.1 this).2
    rw [List.contains_iff_mem] at this
    simp only [gainsL, List.mem_flatMap] at this ⊢
    obtain ⟨k, k1, k2⟩ := this
    exact ⟨k, List.mem_of_mem_take k1, k2⟩

structure A5 where
  a : A45
  q : ByteArray
  b : List ByteArray
  ns : List AV
  ts : List AV
  i : Int

abbrev bx5a (a : A45) (q : ByteArray) : List Dn.Obj := [.box 35 (rl45 a), .box 26 (.agg [.lit (.string q), .nil])]
abbrev bx5b (a : A45) (q : ByteArray) (ts : List AV) : List Dn.Obj := [.box 35 (rl45 a), .box 26 (.agg [.lit (.string q), .slc 2 0 ts.length]), .row 28 ts]
def bx5 (a : A45) (q : ByteArray) : List AV → List Dn.Obj
  | [] => bx5a a q
  | t :: ts => bx5b a q (t :: ts)
abbrev rg5 (b : List ByteArray) (ns : List AV) (i : Int) : List (Nat × AV) := [(2, .lst 3 ns), (3, .ptr 0 0 [] 0), (7, .bool true), (10, .lst 9 (strs b)), (12, .ptr 1 0 [] 0), (13, .int i)]
abbrev rg5x : List (Nat × AV) := [(3, .ptr 0 0 [] 0), (7, .bool true), (12, .ptr 1 0 [] 0)]

theorem x5a (κ : Kp) (a : A45) (q : ByteArray) (b : List ByteArray) (ns : List AV) (i : Int) (I : Nat → S → Prop) (n : Nat) (K : Exit → S → Prop) : (vc (E6 κ) 12 5 none 0 (loopCode (Pr κ).toProgram 5 10) (sp 143 (rg5 b ns i) (bx5a a q)) (loopK (E6 κ) 5 10 0 I n K)) = (
  brn (decide (i < (↑(List.length ns) : Int))) (brn (decide (i < (5 : Int))) (cnd (decide ((0 : Int) ≤ i) && decide (i < (↑(List.length ns) : Int))) (brn (decide
  (toInt (nth ns (Int.toNat i)) ≥ (0 : Int))) (cnd (decide ((0 : Int) ≤ i) && decide (i < (↑(List.length ns) : Int))) (brn (decide (toInt (nth ns (Int.toNat i))
  < (↑(List.length (strs b)) : Int))) (cnd (decide ((0 : Int) ≤ i) && decide (i < (↑(List.length ns) : Int))) (cnd (decide ((0 : Int) ≤ toInt (nth ns (Int.toNat
  i))) && decide (toInt (nth ns (Int.toNat i)) < (↑(List.length (strs b)) : Int))) ((∃ (m : Nat), m < n ∧ I m (sp 143 [(2, AV.lst 3 ns), (3, AV.ptr 0 0 [] 0),
  (7, AV.bool true), (10, AV.lst 9 (strs b)), (12, AV.ptr 1 0 [] 0), (13, AV.int (IntKind.wrap IntKind.i64 (i + (1 : Int))))] [Obj.box 35 (AV.agg [AV.agg [AV.str
  (A45.rel a), AV.lst 28 (A45.hl a)], AV.lst 48 (A45.bl a), AV.int (A45.line a)]), Obj.box 26 (AV.agg [AV.str q, AV.slc 2 0 1]), Obj.row 28 [AV.agg [AV.int 1,
  AV.lit (Value.string (toStr (nth (strs b) (Int.toNat (toInt (nth ns (Int.toNat i))))))), AV.int 0, AV.lst 28 []]]])) ∧ ∃ (m : Nat), m < n ∧ I m (sp 143 [(2,
  AV.lst 3 ns), (3, AV.ptr 0 0 [] 0), (7, AV.bool true), (10, AV.lst 9 (strs b)), (12, AV.ptr 1 0 [] 0), (13, AV.int (IntKind.wrap IntKind.i64 (i + (1 : Int))))]
  [Obj.box 35 (AV.agg [AV.agg [AV.str (A45.rel a), AV.lst 28 (A45.hl a)], AV.lst 48 (A45.bl a), AV.int (A45.line a)]), Obj.box 26 (AV.agg [AV.str q, AV.slc 2 0
  1]), Obj.row 28 [AV.agg [AV.int 1, AV.lit (Value.string (toStr (nth (strs b) (Int.toNat (toInt (nth ns (Int.toNat i))))))), AV.int 0, AV.lst 28 []]]])))) (cnd
  (decide ((0 : Int) ≤ i) && decide (i < (↑(List.length ns) : Int))) ((∃ (m : Nat), m < n ∧ I m (sp 143 [(2, AV.lst 3 ns), (3, AV.ptr 0 0 [] 0), (7, AV.bool
  true), (10, AV.lst 9 (strs b)), (12, AV.ptr 1 0 [] 0), (13, AV.int (IntKind.wrap IntKind.i64 (i + (1 : Int))))] [Obj.box 35 (AV.agg [AV.agg [AV.str (A45.rel
  a), AV.lst 28 (A45.hl a)], AV.lst 48 (A45.bl a), AV.int (A45.line a)]), Obj.box 26 (AV.agg [AV.str q, AV.slc 2 0 1]), Obj.row 28 [AV.agg [AV.int 2, AV.str
  { data := #[] }, AV.int (toInt (nth ns (Int.toNat i))), AV.nil]]])) ∧ ∃ (m : Nat), m < n ∧ I m (sp 143 [(2, AV.lst 3 ns), (3, AV.ptr 0 0 [] 0), (7, AV.bool
  true), (10, AV.lst 9 (strs b)), (12, AV.ptr 1 0 [] 0), (13, AV.int (IntKind.wrap IntKind.i64 (i + (1 : Int))))] [Obj.box 35 (AV.agg [AV.agg [AV.str (A45.rel
  a), AV.lst 28 (A45.hl a)], AV.lst 48 (A45.bl a), AV.int (A45.line a)]), Obj.box 26 (AV.agg [AV.str q, AV.slc 2 0 1]), Obj.row 28 [AV.agg [AV.int 2, AV.str
  { data := #[] }, AV.int (toInt (nth ns (Int.toNat i))), AV.nil]]]))))) (cnd (decide ((0 : Int) ≤ i) && decide (i < (↑(List.length ns) : Int))) ((∃ (m : Nat), m
  < n ∧ I m (sp 143 [(2, AV.lst 3 ns), (3, AV.ptr 0 0 [] 0), (7, AV.bool true), (10, AV.lst 9 (strs b)), (12, AV.ptr 1 0 [] 0), (13, AV.int (IntKind.wrap
  IntKind.i64 (i + (1 : Int))))] [Obj.box 35 (AV.agg [AV.agg [AV.str (A45.rel a), AV.lst 28 (A45.hl a)], AV.lst 48 (A45.bl a), AV.int (A45.line a)]), Obj.box 26
  (AV.agg [AV.str q, AV.slc 2 0 1]), Obj.row 28 [AV.agg [AV.int 2, AV.str { data := #[] }, AV.int (toInt (nth ns (Int.toNat i))), AV.nil]]])) ∧ ∃ (m : Nat), m <
  n ∧ I m (sp 143 [(2, AV.lst 3 ns), (3, AV.ptr 0 0 [] 0), (7, AV.bool true), (10, AV.lst 9 (strs b)), (12, AV.ptr 1 0 [] 0), (13, AV.int (IntKind.wrap
  IntKind.i64 (i + (1 : Int))))] [Obj.box 35 (AV.agg [AV.agg [AV.str (A45.rel a), AV.lst 28 (A45.hl a)], AV.lst 48 (A45.bl a), AV.int (A45.line a)]), Obj.box 26
  (AV.agg [AV.str q, AV.slc 2 0 1]), Obj.row 28 [AV.agg [AV.int 2, AV.str { data := #[] }, AV.int (toInt (nth ns (Int.toNat i))), AV.nil]]]))))) (K (Exit.exit 0)
  (sp 143 [(3, AV.ptr 0 0 [] 0), (7, AV.bool true), (12, AV.ptr 1 0 [] 0)] [Obj.box 35 (AV.agg [AV.agg [AV.str (A45.rel a), AV.lst 28 (A45.hl a)], AV.lst 48
  (A45.bl a), AV.int (A45.line a)]), Obj.box 26 (AV.agg [AV.str q, AV.nil])]))) (K (Exit.exit 0) (sp 143 [(3, AV.ptr 0 0 [] 0), (7, AV.bool true), (12, AV.ptr 1
  0 [] 0)] [Obj.box 35 (AV.agg [AV.agg [AV.str (A45.rel a), AV.lst 28 (A45.hl a)], AV.lst 48 (A45.bl a), AV.int (A45.line a)]), Obj.box 26 (AV.agg [AV.str q,
  AV.nil])]))) := by kernel_rfl


theorem x5b (κ : Kp) (a : A45) (q : ByteArray) (b : List ByteArray) (ns : List AV) (ts : List AV) (i : Int) (I : Nat → S → Prop) (n : Nat) (K : Exit → S → Prop) : (vc (E6 κ) 12 5 none 0 (loopCode (Pr κ).toProgram 5 10) (sp 143 (rg5 b ns i) (bx5b a q ts)) (loopK (E6 κ) 5 10 0 I n K)) = (
  brn (decide (i < (↑(List.length ns) : Int))) (brn (decide (i < (5 : Int))) (cnd (decide ((0 : Int) ≤ i) && decide (i < (↑(List.length ns) : Int))) (brn (decide
  (toInt (nth ns (Int.toNat i)) ≥ (0 : Int))) (cnd (decide ((0 : Int) ≤ i) && decide (i < (↑(List.length ns) : Int))) (brn (decide (toInt (nth ns (Int.toNat i))
  < (↑(List.length (strs b)) : Int))) (cnd (decide ((0 : Int) ≤ i) && decide (i < (↑(List.length ns) : Int))) (cnd (decide ((0 : Int) ≤ toInt (nth ns (Int.toNat
  i))) && decide (toInt (nth ns (Int.toNat i)) < (↑(List.length (strs b)) : Int))) (cnd (decide ((List.length ts + 1 + 1) * 57 ≤ 70368744177664)) (∃ (m : Nat), m
  < n ∧ I m (sp 143 [(2, AV.lst 3 ns), (3, AV.ptr 0 0 [] 0), (7, AV.bool true), (10, AV.lst 9 (strs b)), (12, AV.ptr 1 0 [] 0), (13, AV.int (IntKind.wrap
  IntKind.i64 (i + (1 : Int))))] [Obj.box 35 (AV.agg [AV.agg [AV.str (A45.rel a), AV.lst 28 (A45.hl a)], AV.lst 48 (A45.bl a), AV.int (A45.line a)]), Obj.box 26
  (AV.agg [AV.str q, AV.slc 2 0 (List.length ts + 1)]), Obj.row 28 (List.take (List.length ts) ts ++ [AV.agg [AV.int 1, AV.lit (Value.string (toStr (nth (strs b)
  (Int.toNat (toInt (nth ns (Int.toNat i))))))), AV.int 0, AV.lst 28 []]])])) ∧ cnd (decide ((List.length ts + 1 + 1) * 57 ≤ 70368744177664)) (∃ (m : Nat), m < n
  ∧ I m (sp 143 [(2, AV.lst 3 ns), (3, AV.ptr 0 0 [] 0), (7, AV.bool true), (10, AV.lst 9 (strs b)), (12, AV.ptr 1 0 [] 0), (13, AV.int (IntKind.wrap IntKind.i64
  (i + (1 : Int))))] [Obj.box 35 (AV.agg [AV.agg [AV.str (A45.rel a), AV.lst 28 (A45.hl a)], AV.lst 48 (A45.bl a), AV.int (A45.line a)]), Obj.box 26 (AV.agg
  [AV.str q, AV.slc 2 0 (List.length ts + 1)]), Obj.row 28 (List.take (List.length ts) ts ++ [AV.agg [AV.int 1, AV.lit (Value.string (toStr (nth (strs b)
  (Int.toNat (toInt (nth ns (Int.toNat i))))))), AV.int 0, AV.lst 28 []]])]))))) (cnd (decide ((0 : Int) ≤ i) && decide (i < (↑(List.length ns) : Int))) (cnd
  (decide ((List.length ts + 1 + 1) * 57 ≤ 70368744177664)) (∃ (m : Nat), m < n ∧ I m (sp 143 [(2, AV.lst 3 ns), (3, AV.ptr 0 0 [] 0), (7, AV.bool true), (10,
  AV.lst 9 (strs b)), (12, AV.ptr 1 0 [] 0), (13, AV.int (IntKind.wrap IntKind.i64 (i + (1 : Int))))] [Obj.box 35 (AV.agg [AV.agg [AV.str (A45.rel a), AV.lst 28
  (A45.hl a)], AV.lst 48 (A45.bl a), AV.int (A45.line a)]), Obj.box 26 (AV.agg [AV.str q, AV.slc 2 0 (List.length ts + 1)]), Obj.row 28 (List.take (List.length
  ts) ts ++ [AV.agg [AV.int 2, AV.str { data := #[] }, AV.int (toInt (nth ns (Int.toNat i))), AV.nil]])])) ∧ cnd (decide ((List.length ts + 1 + 1) * 57 ≤
  70368744177664)) (∃ (m : Nat), m < n ∧ I m (sp 143 [(2, AV.lst 3 ns), (3, AV.ptr 0 0 [] 0), (7, AV.bool true), (10, AV.lst 9 (strs b)), (12, AV.ptr 1 0 [] 0),
  (13, AV.int (IntKind.wrap IntKind.i64 (i + (1 : Int))))] [Obj.box 35 (AV.agg [AV.agg [AV.str (A45.rel a), AV.lst 28 (A45.hl a)], AV.lst 48 (A45.bl a), AV.int
  (A45.line a)]), Obj.box 26 (AV.agg [AV.str q, AV.slc 2 0 (List.length ts + 1)]), Obj.row 28 (List.take (List.length ts) ts ++ [AV.agg [AV.int 2, AV.str
  { data := #[] }, AV.int (toInt (nth ns (Int.toNat i))), AV.nil]])])))))) (cnd (decide ((0 : Int) ≤ i) && decide (i < (↑(List.length ns) : Int))) (cnd (decide
  ((List.length ts + 1 + 1) * 57 ≤ 70368744177664)) (∃ (m : Nat), m < n ∧ I m (sp 143 [(2, AV.lst 3 ns), (3, AV.ptr 0 0 [] 0), (7, AV.bool true), (10, AV.lst 9
  (strs b)), (12, AV.ptr 1 0 [] 0), (13, AV.int (IntKind.wrap IntKind.i64 (i + (1 : Int))))] [Obj.box 35 (AV.agg [AV.agg [AV.str (A45.rel a), AV.lst 28 (A45.hl
  a)], AV.lst 48 (A45.bl a), AV.int (A45.line a)]), Obj.box 26 (AV.agg [AV.str q, AV.slc 2 0 (List.length ts + 1)]), Obj.row 28 (List.take (List.length ts) ts ++
  [AV.agg [AV.int 2, AV.str { data := #[] }, AV.int (toInt (nth ns (Int.toNat i))), AV.nil]])])) ∧ cnd (decide ((List.length ts + 1 + 1) * 57 ≤ 70368744177664))
  (∃ (m : Nat), m < n ∧ I m (sp 143 [(2, AV.lst 3 ns), (3, AV.ptr 0 0 [] 0), (7, AV.bool true), (10, AV.lst 9 (strs b)), (12, AV.ptr 1 0 [] 0), (13, AV.int
  (IntKind.wrap IntKind.i64 (i + (1 : Int))))] [Obj.box 35 (AV.agg [AV.agg [AV.str (A45.rel a), AV.lst 28 (A45.hl a)], AV.lst 48 (A45.bl a), AV.int (A45.line
  a)]), Obj.box 26 (AV.agg [AV.str q, AV.slc 2 0 (List.length ts + 1)]), Obj.row 28 (List.take (List.length ts) ts ++ [AV.agg [AV.int 2, AV.str { data := #[] },
  AV.int (toInt (nth ns (Int.toNat i))), AV.nil]])])))))) (K (Exit.exit 0) (sp 143 [(3, AV.ptr 0 0 [] 0), (7, AV.bool true), (12, AV.ptr 1 0 [] 0)] [Obj.box 35
  (AV.agg [AV.agg [AV.str (A45.rel a), AV.lst 28 (A45.hl a)], AV.lst 48 (A45.bl a), AV.int (A45.line a)]), Obj.box 26 (AV.agg [AV.str q, AV.slc 2 0 (List.length
  ts)]), Obj.row 28 ts]))) (K (Exit.exit 0) (sp 143 [(3, AV.ptr 0 0 [] 0), (7, AV.bool true), (12, AV.ptr 1 0 [] 0)] [Obj.box 35 (AV.agg [AV.agg [AV.str (A45.rel
  a), AV.lst 28 (A45.hl a)], AV.lst 48 (A45.bl a), AV.int (A45.line a)]), Obj.box 26 (AV.agg [AV.str q, AV.slc 2 0 (List.length ts)]), Obj.row 28 ts]))) := by kernel_rfl


abbrev st5l (a : A5) : S := sp 143 (rg5 a.b a.ns a.i) (bx5 a.a a.q a.ts)
def side5l (a : A5) : Prop := a.b.length ≤ maxI ∧ 0 ≤ a.i ∧ a.i ≤ 5 ∧ a.i ≤ a.ns.length ∧ a.ts = (a.ns.take a.i.toNat).map fun x => argA a.b (toInt x)
def nilA (l : List AV) : Bool := match l with | [] => true | _ :: _ => false
def out5l (a : A5) : Out (Exit × S) := .brn (nilA (moreTs a.b a.ns)) (.one (.exit 0, sp 143 rg5x (bx5a a.a a.q))) (.one (.exit 0, sp 143 rg5x (bx5b a.a a.q (moreTs a.b a.ns))))

theorem argA_in {b : List ByteArray} {x : Int} (h1 : 0 ≤ x) (h2 : x < b.length) : argA b x = tvA (toStr (nth (strs b) x.toNat)) := by
  have hx : x.toNat < b.length := by omega
  unfold argA
  rw [decide_eq_true h1, decide_eq_true h2, strs_nth b _ hx, List.getD_eq_getElem?_getD, List.getElem?_eq_getElem hx]; rfl
theorem argA_out {b : List ByteArray} {x : Int} (h : ¬ (0 ≤ x ∧ x < b.length)) : argA b x = tiA x := by
  unfold argA
  have : (decide (0 ≤ x) && decide (x < b.length)) = false := by
    rw [Bool.eq_false_iff]; intro e
    rw [Bool.and_eq_true, decide_eq_true_eq, decide_eq_true_eq] at e
    exact h e
  rw [this]; rfl

theorem l5 (κ : Kp) : LoopOk (E6 κ) 12 5 10 (loopE 0 st5l side5l out5l) := by
  refine loopE_ok (fun a => 5 - a.i.toNat) ?_
  rintro ⟨a, q, b, ns, ts, i⟩ K ⟨h0, h1, h2, h3, h4⟩ ho
  simp only at h0 h1 h2 h3 h4
  rw [show (E6 κ).P = Pr κ from rfl]
  simp only [out5l, Out.run] at ho
  have hlen : ts.length = i.toNat := by rw [h4]; simp; omega
  have fin : (¬ i < ns.length ∨ ¬ i < 5) → K (.exit 0) (sp 143 rg5x (bx5 a q ts)) := by
    intro h
    have e : moreTs b ns = ts := by
      rw [h4]; unfold moreTs
      congr 1
      rcases h with h | h
      · rw [List.take_of_length_le (by omega), List.take_of_length_le (by omega)]
      · rw [show i.toNat = 5 by omega]
    rw [e] at ho
    cases ts with
    | nil => exact ho
    | cons t ts => exact ho
  have go : i < ns.length → i < 5 → ∃ m, m < 5 - i.toNat ∧ invOf st5l side5l out5l (fun a => 5 - a.i.toNat) K m (sp 143 [(2, .lst 3 ns), (3, .ptr 0 0 [] 0), (7, .bool true), (10, .lst 9 (strs b)), (12, .ptr 1 0 [] 0), (13, .int (IntKind.wrap .i64 (i + 1)))] (bx5 a q (ts ++ [argA b (toInt (nth ns i.toNat))]))) := by
    intro hi h8
    rw [wrap_ok (n := i + 1) (by omega) (by omega)]
    refine ⟨_, ?_, ⟨a, q, b, ns, ts ++ [argA b (toInt (nth ns i.toNat))], i + 1⟩, rfl, ⟨h0, by simp only; omega, by simp only; omega, by simp only; omega, ?_⟩, rfl, ?_⟩
    · simp only; omega
    · simp only [show (i + 1).toNat = i.toNat + 1 by omega]
      rw [List.take_succ_eq_append_getElem (by omega), List.map_append, ← h4, nth_get _ _ (by omega)]; rfl
    · simp only [out5l, Out.run]
      exact ho
  cases ts with
  | nil =>
    refine Eq.mpr (x5a κ a q b ns i _ _ K) ?_
    simp only [and_self]
    simp only [brn_iff, cnd_iff, decide_eq_true_eq, decide_eq_false_iff_not, Bool.and_eq_true, strs_len]
    refine ⟨fun hi => ⟨fun h8 => ⟨⟨h1, hi⟩, fun hg => ⟨⟨h1, hi⟩, fun hl => ⟨⟨h1, hi⟩, ⟨hg, hl⟩, ?_⟩, fun hl => ⟨⟨h1, hi⟩, ?_⟩⟩, fun hg => ⟨⟨h1, hi⟩, ?_⟩⟩, fun h8 => fin (.inr h8)⟩, fun hi => fin (.inl hi)⟩
    · have h := go hi h8
      rw [argA_in hg hl] at h; exact h
    · have h := go hi h8
      rw [argA_out (by omega)] at h; exact h
    · have h := go hi h8
      rw [argA_out (by omega)] at h; exact h
  | cons t ts =>
    refine Eq.mpr (x5b κ a q b ns (t :: ts) i _ _ K) ?_
    simp only [and_self]
    simp only [brn_iff, cnd_iff, decide_eq_true_eq, decide_eq_false_iff_not, Bool.and_eq_true, strs_len, List.take_length]
    have hb : ∀ x : AV, bx5 a q (t :: ts ++ [x]) = [.box 35 (rl45 a), .box 26 (.agg [.lit (.string q), .slc 2 0 ((t :: ts).length + 1)]), .row 28 (t :: ts ++ [x])] := fun x => by
      simp only [List.cons_append, bx5, bx5b, List.length_cons, List.length_append, List.length_nil]
    refine ⟨fun hi => ⟨fun h8 => ⟨⟨h1, hi⟩, fun hg => ⟨⟨h1, hi⟩, fun hl => ⟨⟨h1, hi⟩, ⟨hg, hl⟩, ⟨by omega, ?_⟩⟩, fun hl => ⟨⟨h1, hi⟩, ⟨by omega, ?_⟩⟩⟩, fun hg => ⟨⟨h1, hi⟩, ⟨by omega, ?_⟩⟩⟩, fun h8 => fin (.inr h8)⟩, fun hi => fin (.inl hi)⟩
    · have h := go hi h8
      rw [argA_in hg hl, hb] at h; exact h
    · have h := go hi h8
      rw [argA_out (by omega), hb] at h; exact h
    · have h := go hi h8
      rw [argA_out (by omega), hb] at h; exact h

/-! One way out at a time. -/
abbrev st5n (a : A5) : S := sp 143 (rg5 a.b [] 0) (bx5a a.a a.q)
def side5n (a : A5) : Prop := a.b.length ≤ maxI
def out5n (a : A5) : Out (Exit × S) := .one (.exit 0, sp 143 rg5x (bx5a a.a a.q))
def side5m (a : A5) : Prop := a.b.length ≤ maxI ∧ a.ns ≠ []
abbrev st5m (a : A5) : S := sp 143 (rg5 a.b a.ns 0) (bx5a a.a a.q)
def out5m (a : A5) : Out (Exit × S) := .one (.exit 0, sp 143 rg5x (bx5b a.a a.q (moreTs a.b a.ns)))

theorem loopWeak {E : Env} {N f k : Nat} {sp sp' : LoopSpec} (h : LoopOk E N f k sp) (hw : ∀ rd base s K, sp' rd base s K → sp rd base s K) : LoopOk E N f k sp' := fun rd base s K hs => h rd base s K (hw rd base s K hs)

theorem l5n (κ : Kp) : LoopOk (E6 κ) 12 5 10 (loopE 0 st5n side5n out5n) := by
  refine loopWeak (l5 κ) ?_
  intro rd base s K h
  rw [loopE_iff] at h ⊢
  obtain ⟨h1, h2, ⟨a, q, b, ns, ts, i⟩, h3, h4, h5⟩ := h
  exact ⟨h1, h2, ⟨a, q, b, [], [], 0⟩, h3, ⟨h4, by simp only; omega, by simp only; omega, by simp, by simp⟩, h5⟩

theorem l5m (κ : Kp) : LoopOk (E6 κ) 12 5 10 (loopE 0 st5m side5m out5m) := by
  refine loopWeak (l5 κ) ?_
  intro rd base s K h
  rw [loopE_iff] at h ⊢
  obtain ⟨h1, h2, ⟨a, q, b, ns, ts, i⟩, h3, h4, h5⟩ := h
  refine ⟨h1, h2, ⟨a, q, b, ns, [], 0⟩, h3, ⟨h4.1, by simp only; omega, by simp only; omega, by simp, by simp⟩, ?_⟩
  obtain ⟨x, l, e⟩ := List.exists_cons_of_ne_nil h4.2
  simp only at e
  subst e
  exact h5

noncomputable def E5n (κ : Kp) : Env := (E6 κ).addLoop 5 10 (loopE 0 st5n side5n out5n)
theorem e5n (κ : Kp) : EnvOK (E5n κ) := (e6 κ).addLoop (m6 κ) (l5n κ)
theorem m5n (κ : Kp) : EnvMono (E5n κ) := (m6 κ).addLoop loopE_mono

noncomputable def E5m (κ : Kp) : Env := (E6 κ).addLoop 5 10 (loopE 0 st5m side5m out5m)
theorem e5m (κ : Kp) : EnvOK (E5m κ) := (e6 κ).addLoop (m6 κ) (l5m κ)
theorem m5m (κ : Kp) : EnvMono (E5m κ) := (m6 κ).addLoop loopE_mono

theorem y5n (κ : Kp) (a : A45) (rel : ByteArray) (K : AV → List Dn.Obj → Prop) : (funA (E5n κ) 12 5 [rl45 a, .lit (.string rel), .lst 3 []] [] K) = (
  brn (!smallR { head := { rel := A45.rel a, l := tmsOf (A45.hl a) }, body := ltsOf (A45.bl a) }) (K (AV.bool true) []) (brn ((↑(List.length (A45.bl a)) : Int) ==
  (0 : Int)) (K (AV.bool true) []) (∃ (a_1 : A45), ([AV.agg [AV.agg [AV.str (A45.rel a), AV.lst 28 (A45.hl a)], AV.lst 48 (A45.bl a), AV.int (A45.line a)]],
  nilO) = ([AV.agg [AV.agg [AV.str (A45.rel a_1), AV.lst 28 (A45.hl a_1)], AV.lst 48 (A45.bl a_1), AV.int (A45.line a_1)]], nilO) ∧ (cntL (tmsOf (ruleTs 28
  (A45.hl a_1) (A45.bl a_1))) ≤ 100000 ∧ List.length (A45.bl a_1) ≤ 100000) ∧ brn (rightR (rOf a_1)) (brn (safeR (rOf a_1)) (∃ (a_2 : A45 × Int), ([AV.agg
  [AV.agg [AV.str (A45.rel a), AV.lst 28 (A45.hl a)], AV.lst 48 (A45.bl a), AV.int (A45.line a)], AV.int (↑(List.length (A45.bl a)) : Int)], nilO) = ([AV.agg
  [AV.agg [AV.str (A45.rel (Prod.fst a_2)), AV.lst 28 (A45.hl (Prod.fst a_2))], AV.lst 48 (A45.bl (Prod.fst a_2)), AV.int (A45.line (Prod.fst a_2))], AV.int
  (Prod.snd a_2)], nilO) ∧ (cntL (tmsOf (ruleTs 28 (A45.hl (Prod.fst a_2)) (A45.bl (Prod.fst a_2)))) ≤ 100000 ∧ List.length (A45.bl (Prod.fst a_2)) ≤ 100000) ∧
  brn (rightR (rOf (Prod.fst a_2))) (brn (safeR (rOf (Prod.fst a_2))) (brn (decide (Prod.snd a_2 < (0 : Int)) || decide ((↑(List.length (A45.bl (Prod.fst a_2)))
  : Int) < Prod.snd a_2)) (K (AV.bool false) []) (cnd (true && decide ((0 : Int) ≤ if (5 : Int) < (↑(ByteArray.size rel) : Int) then (5 : Int) else
  (↑(ByteArray.size rel) : Int)) && decide ((if (5 : Int) < (↑(ByteArray.size rel) : Int) then (5 : Int) else (↑(ByteArray.size rel) : Int)) ≤ (↑(ByteArray.size
  rel) : Int))) (cnd (decide ((↑(1 + ByteArray.size (ByteArray.extract rel 0 (Int.toNat (if (5 : Int) < (↑(ByteArray.size rel) : Int) then (5 : Int) else
  (↑(ByteArray.size rel) : Int))))) : Int) ≤ (9223372036854775807 : Int))) (loopCode (Pg.toProgram (Env.P (E6 κ))) 5 10 = loopCode (Pg.toProgram (Env.P (E6 κ)))
  5 10 ∧ ∃ (a_3 : A5), sp 143 [(2, AV.lst 3 []), (3, AV.ptr 0 0 [] 0), (7, AV.bool true), (10, AV.lst 9 (strs (boundV (rOf (Prod.fst a_2)) (Int.toNat (Prod.snd
  a_2))))), (12, AV.ptr 1 0 [] 0), (13, AV.int 0)] [Obj.box 35 (AV.agg [AV.agg [AV.str (A45.rel a), AV.lst 28 (A45.hl a)], AV.lst 48 (A45.bl a), AV.int (A45.line
  a)]), Obj.box 26 (AV.agg [AV.lit (Value.string ({ data := #[OfNat.ofNat 113] } ++ ByteArray.extract rel 0 (Int.toNat (if (5 : Int) < (↑(ByteArray.size rel) :
  Int) then (5 : Int) else (↑(ByteArray.size rel) : Int))))), AV.nil])] = sp 143 [(2, AV.lst 3 []), (3, AV.ptr 0 0 [] 0), (7, AV.bool true), (10, AV.lst 9 (strs
  (A5.b a_3))), (12, AV.ptr 1 0 [] 0), (13, AV.int 0)] [Obj.box 35 (AV.agg [AV.agg [AV.str (A45.rel (A5.a a_3)), AV.lst 28 (A45.hl (A5.a a_3))], AV.lst 48
  (A45.bl (A5.a a_3)), AV.int (A45.line (A5.a a_3))]), Obj.box 26 (AV.agg [AV.str (A5.q a_3), AV.nil])] ∧ side5n a_3 ∧ (cnd (true && decide ((0 : Int) ≤
  IntKind.wrap IntKind.i64 ((↑(List.length (A45.bl (A5.a a_3))) : Int) + (1 : Int))) && decide ((Int.toNat (IntKind.wrap IntKind.i64 ((↑(List.length (A45.bl
  (A5.a a_3))) : Int) + (1 : Int))) + 1) * 161 ≤ 70368744177664) && true) ((cnd (decide ((0 + List.length (A45.bl (A5.a a_3)) + 1) * 161 ≤ 70368744177664)) (cnd
  (decide ((0 + List.length (A45.bl (A5.a a_3)) + 1 + 1) * 161 ≤ 70368744177664)) (∃ (a : A45), ([AV.agg [AV.agg [AV.str (A45.rel (A5.a a_3)), AV.lst 28 (A45.hl
  (A5.a a_3))], AV.lst 48 (List.take (0 + List.length (A45.bl (A5.a a_3)) + 1) (List.drop 0 (List.take (0 + List.length (A45.bl (A5.a a_3))) ([] ++ A45.bl (A5.a
  a_3)) ++ [AV.agg [AV.int 1, AV.agg [AV.str (A5.q a_3), AV.lit (Value.slice none 0 0)], AV.agg [AV.lit (Value.int IntKind.i64 (0 : Int)), AV.lit (Value.string
  { data := #[] }), AV.lit (Value.int IntKind.i64 (0 : Int)), AV.lit (Value.slice none 0 0)], AV.agg [AV.lit (Value.int IntKind.i64 (0 : Int)), AV.lit
  (Value.string { data := #[] }), AV.lit (Value.int IntKind.i64 (0 : Int)), AV.lit (Value.slice none 0 0)]]]))), AV.lit (Value.int IntKind.i64 (A45.line (A5.a
  a_3)))]], nilO) = ([AV.agg [AV.agg [AV.str (A45.rel a), AV.lst 28 (A45.hl a)], AV.lst 48 (A45.bl a), AV.int (A45.line a)]], nilO) ∧ (cntL (tmsOf (ruleTs 28
  (A45.hl a) (A45.bl a))) ≤ 100000 ∧ List.length (A45.bl a) ≤ 100000) ∧ brn (rightR (rOf a)) (brn (safeR (rOf a)) (brn ((↑(List.length (walkR (rOf a))) : Int) ==
  (↑(0 + List.length (A45.bl (A5.a a_3)) + 1) : Int)) (K (AV.bool true) []) (K (AV.bool false) [])) (K (AV.bool false) [])) (K (AV.bool true) []))) ∧ cnd (decide
  ((0 + List.length (A45.bl (A5.a a_3)) + 1) * 161 ≤ 70368744177664)) (cnd (decide ((0 + List.length (A45.bl (A5.a a_3)) + 1 + 1) * 161 ≤ 70368744177664)) (∃ (a
  : A45), ([AV.agg [AV.agg [AV.str (A45.rel (A5.a a_3)), AV.lst 28 (A45.hl (A5.a a_3))], AV.lst 48 (List.take (0 + List.length (A45.bl (A5.a a_3)) + 1)
  (List.drop 0 (List.take (0 + List.length (A45.bl (A5.a a_3))) ([] ++ A45.bl (A5.a a_3)) ++ [AV.agg [AV.int 1, AV.agg [AV.str (A5.q a_3), AV.lit (Value.slice
  none 0 0)], AV.agg [AV.lit (Value.int IntKind.i64 (0 : Int)), AV.lit (Value.string { data := #[] }), AV.lit (Value.int IntKind.i64 (0 : Int)), AV.lit
  (Value.slice none 0 0)], AV.agg [AV.lit (Value.int IntKind.i64 (0 : Int)), AV.lit (Value.string { data := #[] }), AV.lit (Value.int IntKind.i64 (0 : Int)),
  AV.lit (Value.slice none 0 0)]]]))), AV.lit (Value.int IntKind.i64 (A45.line (A5.a a_3)))]], nilO) = ([AV.agg [AV.agg [AV.str (A45.rel a), AV.lst 28 (A45.hl
  a)], AV.lst 48 (A45.bl a), AV.int (A45.line a)]], nilO) ∧ (cntL (tmsOf (ruleTs 28 (A45.hl a) (A45.bl a))) ≤ 100000 ∧ List.length (A45.bl a) ≤ 100000) ∧ brn
  (rightR (rOf a)) (brn (safeR (rOf a)) (brn ((↑(List.length (walkR (rOf a))) : Int) == (↑(0 + List.length (A45.bl (A5.a a_3)) + 1) : Int)) (K (AV.bool true) [])
  (K (AV.bool false) [])) (K (AV.bool false) [])) (K (AV.bool true) [])))) ∧ cnd (decide ((0 + List.length (A45.bl (A5.a a_3)) + 1) * 161 ≤ 70368744177664)) (cnd
  (decide ((0 + List.length (A45.bl (A5.a a_3)) + 1 + 1) * 161 ≤ 70368744177664)) (∃ (a : A45), ([AV.agg [AV.agg [AV.str (A45.rel (A5.a a_3)), AV.lst 28 (A45.hl
  (A5.a a_3))], AV.lst 48 (List.take (0 + List.length (A45.bl (A5.a a_3)) + 1) (List.drop 0 (List.take (0 + List.length (A45.bl (A5.a a_3))) ([] ++ A45.bl (A5.a
  a_3)) ++ [AV.agg [AV.int 1, AV.agg [AV.str (A5.q a_3), AV.lit (Value.slice none 0 0)], AV.agg [AV.lit (Value.int IntKind.i64 (0 : Int)), AV.str
  { data := #[] }, AV.lit (Value.int IntKind.i64 (0 : Int)), AV.lit (Value.slice none 0 0)], AV.agg [AV.lit (Value.int IntKind.i64 (0 : Int)), AV.str
  { data := #[] }, AV.lit (Value.int IntKind.i64 (0 : Int)), AV.lit (Value.slice none 0 0)]]]))), AV.int (A45.line (A5.a a_3))]], nilO) = ([AV.agg [AV.agg
  [AV.str (A45.rel a), AV.lst 28 (A45.hl a)], AV.lst 48 (A45.bl a), AV.int (A45.line a)]], nilO) ∧ (cntL (tmsOf (ruleTs 28 (A45.hl a) (A45.bl a))) ≤ 100000 ∧
  List.length (A45.bl a) ≤ 100000) ∧ brn (rightR (rOf a)) (brn (safeR (rOf a)) (brn ((↑(List.length (walkR (rOf a))) : Int) == (↑(0 + List.length (A45.bl (A5.a
  a_3)) + 1) : Int)) (K (AV.bool true) []) (K (AV.bool false) [])) (K (AV.bool false) [])) (K (AV.bool true) [])))) ∧ (cnd (true && decide ((0 : Int) ≤
  IntKind.wrap IntKind.i64 ((↑(List.length (A45.bl (A5.a a_3))) : Int) + (1 : Int))) && decide ((Int.toNat (IntKind.wrap IntKind.i64 ((↑(List.length (A45.bl
  (A5.a a_3))) : Int) + (1 : Int))) + 1) * 161 ≤ 70368744177664) && true) (cnd (decide ((0 + List.length (A45.bl (A5.a a_3)) + 1) * 161 ≤ 70368744177664)) (cnd
  (decide ((0 + List.length (A45.bl (A5.a a_3)) + 1 + 1) * 161 ≤ 70368744177664)) (∃ (a : A45), ([AV.agg [AV.agg [AV.str (A45.rel (A5.a a_3)), AV.lst 28 (A45.hl
  (A5.a a_3))], AV.lst 48 (List.take (0 + List.length (A45.bl (A5.a a_3)) + 1) (List.drop 0 (List.take (0 + List.length (A45.bl (A5.a a_3))) ([] ++ A45.bl (A5.a
  a_3)) ++ [AV.agg [AV.lit (Value.int IntKind.i64 (1 : Int)), AV.agg [AV.str (A5.q a_3), AV.lit (Value.slice none 0 0)], AV.agg [AV.lit (Value.int IntKind.i64 (0
  : Int)), AV.lit (Value.string { data := #[] }), AV.lit (Value.int IntKind.i64 (0 : Int)), AV.lit (Value.slice none 0 0)], AV.agg [AV.lit (Value.int IntKind.i64
  (0 : Int)), AV.lit (Value.string { data := #[] }), AV.lit (Value.int IntKind.i64 (0 : Int)), AV.lit (Value.slice none 0 0)]]]))), AV.lit (Value.int IntKind.i64
  (A45.line (A5.a a_3)))]], nilO) = ([AV.agg [AV.agg [AV.str (A45.rel a), AV.lst 28 (A45.hl a)], AV.lst 48 (A45.bl a), AV.int (A45.line a)]], nilO) ∧ (cntL
  (tmsOf (ruleTs 28 (A45.hl a) (A45.bl a))) ≤ 100000 ∧ List.length (A45.bl a) ≤ 100000) ∧ brn (rightR (rOf a)) (brn (safeR (rOf a)) (brn ((↑(List.length (walkR
  (rOf a))) : Int) == (↑(0 + List.length (A45.bl (A5.a a_3)) + 1) : Int)) (K (AV.bool true) []) (K (AV.bool false) [])) (K (AV.bool false) [])) (K (AV.bool true)
  []))) ∧ cnd (decide ((0 + List.length (A45.bl (A5.a a_3)) + 1) * 161 ≤ 70368744177664)) (cnd (decide ((0 + List.length (A45.bl (A5.a a_3)) + 1 + 1) * 161 ≤
  70368744177664)) (∃ (a : A45), ([AV.agg [AV.agg [AV.str (A45.rel (A5.a a_3)), AV.lst 28 (A45.hl (A5.a a_3))], AV.lst 48 (List.take (0 + List.length (A45.bl
  (A5.a a_3)) + 1) (List.drop 0 (List.take (0 + List.length (A45.bl (A5.a a_3))) ([] ++ A45.bl (A5.a a_3)) ++ [AV.agg [AV.lit (Value.int IntKind.i64 (1 : Int)),
  AV.agg [AV.str (A5.q a_3), AV.lit (Value.slice none 0 0)], AV.agg [AV.lit (Value.int IntKind.i64 (0 : Int)), AV.lit (Value.string { data := #[] }), AV.lit
  (Value.int IntKind.i64 (0 : Int)), AV.lit (Value.slice none 0 0)], AV.agg [AV.lit (Value.int IntKind.i64 (0 : Int)), AV.lit (Value.string { data := #[] }),
  AV.lit (Value.int IntKind.i64 (0 : Int)), AV.lit (Value.slice none 0 0)]]]))), AV.lit (Value.int IntKind.i64 (A45.line (A5.a a_3)))]], nilO) = ([AV.agg [AV.agg
  [AV.str (A45.rel a), AV.lst 28 (A45.hl a)], AV.lst 48 (A45.bl a), AV.int (A45.line a)]], nilO) ∧ (cntL (tmsOf (ruleTs 28 (A45.hl a) (A45.bl a))) ≤ 100000 ∧
  List.length (A45.bl a) ≤ 100000) ∧ brn (rightR (rOf a)) (brn (safeR (rOf a)) (brn ((↑(List.length (walkR (rOf a))) : Int) == (↑(0 + List.length (A45.bl (A5.a
  a_3)) + 1) : Int)) (K (AV.bool true) []) (K (AV.bool false) [])) (K (AV.bool false) [])) (K (AV.bool true) [])))) ∧ cnd (true && decide ((0 : Int) ≤
  IntKind.wrap IntKind.i64 ((↑(List.length (A45.bl (A5.a a_3))) : Int) + (1 : Int))) && decide ((Int.toNat (IntKind.wrap IntKind.i64 ((↑(List.length (A45.bl
  (A5.a a_3))) : Int) + (1 : Int))) + 1) * 161 ≤ 70368744177664) && true) (cnd (decide ((0 + List.length (A45.bl (A5.a a_3)) + 1) * 161 ≤ 70368744177664)) (cnd
  (decide ((0 + List.length (A45.bl (A5.a a_3)) + 1 + 1) * 161 ≤ 70368744177664)) (∃ (a : A45), ([AV.agg [AV.agg [AV.str (A45.rel (A5.a a_3)), AV.lst 28 (A45.hl
  (A5.a a_3))], AV.lst 48 (List.take (0 + List.length (A45.bl (A5.a a_3)) + 1) (List.drop 0 (List.take (0 + List.length (A45.bl (A5.a a_3))) ([] ++ A45.bl (A5.a
  a_3)) ++ [AV.agg [AV.int 1, AV.agg [AV.str (A5.q a_3), AV.lit (Value.slice none 0 0)], AV.agg [AV.lit (Value.int IntKind.i64 (0 : Int)), AV.lit (Value.string
  { data := #[] }), AV.lit (Value.int IntKind.i64 (0 : Int)), AV.lit (Value.slice none 0 0)], AV.agg [AV.lit (Value.int IntKind.i64 (0 : Int)), AV.lit
  (Value.string { data := #[] }), AV.lit (Value.int IntKind.i64 (0 : Int)), AV.lit (Value.slice none 0 0)]]]))), AV.lit (Value.int IntKind.i64 (A45.line (A5.a
  a_3)))]], nilO) = ([AV.agg [AV.agg [AV.str (A45.rel a), AV.lst 28 (A45.hl a)], AV.lst 48 (A45.bl a), AV.int (A45.line a)]], nilO) ∧ (cntL (tmsOf (ruleTs 28
  (A45.hl a) (A45.bl a))) ≤ 100000 ∧ List.length (A45.bl a) ≤ 100000) ∧ brn (rightR (rOf a)) (brn (safeR (rOf a)) (brn ((↑(List.length (walkR (rOf a))) : Int) ==
  (↑(0 + List.length (A45.bl (A5.a a_3)) + 1) : Int)) (K (AV.bool true) []) (K (AV.bool false) [])) (K (AV.bool false) [])) (K (AV.bool true) []))))) ∧ cnd (true
  && decide ((0 : Int) ≤ IntKind.wrap IntKind.i64 ((↑(List.length (A45.bl (A5.a a_3))) : Int) + (1 : Int))) && decide ((Int.toNat (IntKind.wrap IntKind.i64
  ((↑(List.length (A45.bl (A5.a a_3))) : Int) + (1 : Int))) + 1) * 161 ≤ 70368744177664) && true) (cnd (decide ((0 + List.length (A45.bl (A5.a a_3)) + 1) * 161 ≤
  70368744177664)) (cnd (decide ((0 + List.length (A45.bl (A5.a a_3)) + 1 + 1) * 161 ≤ 70368744177664)) (∃ (a : A45), ([AV.agg [AV.agg [AV.str (A45.rel (A5.a
  a_3)), AV.lst 28 (A45.hl (A5.a a_3))], AV.lst 48 (List.take (0 + List.length (A45.bl (A5.a a_3)) + 1) (List.drop 0 (List.take (0 + List.length (A45.bl (A5.a
  a_3))) ([] ++ A45.bl (A5.a a_3)) ++ [AV.agg [AV.int 1, AV.agg [AV.str (A5.q a_3), AV.lit (Value.slice none 0 0)], AV.agg [AV.lit (Value.int IntKind.i64 (0 :
  Int)), AV.lit (Value.string { data := #[] }), AV.lit (Value.int IntKind.i64 (0 : Int)), AV.lit (Value.slice none 0 0)], AV.agg [AV.lit (Value.int IntKind.i64
  (0 : Int)), AV.lit (Value.string { data := #[] }), AV.lit (Value.int IntKind.i64 (0 : Int)), AV.lit (Value.slice none 0 0)]]]))), AV.lit (Value.int IntKind.i64
  (A45.line (A5.a a_3)))]], nilO) = ([AV.agg [AV.agg [AV.str (A45.rel a), AV.lst 28 (A45.hl a)], AV.lst 48 (A45.bl a), AV.int (A45.line a)]], nilO) ∧ (cntL
  (tmsOf (ruleTs 28 (A45.hl a) (A45.bl a))) ≤ 100000 ∧ List.length (A45.bl a) ≤ 100000) ∧ brn (rightR (rOf a)) (brn (safeR (rOf a)) (brn ((↑(List.length (walkR
  (rOf a))) : Int) == (↑(0 + List.length (A45.bl (A5.a a_3)) + 1) : Int)) (K (AV.bool true) []) (K (AV.bool false) [])) (K (AV.bool false) [])) (K (AV.bool true)
  [])))) ∧ cnd (true && decide ((0 : Int) ≤ IntKind.wrap IntKind.i64 ((↑(List.length (A45.bl (A5.a a_3))) : Int) + (1 : Int))) && decide ((Int.toNat
  (IntKind.wrap IntKind.i64 ((↑(List.length (A45.bl (A5.a a_3))) : Int) + (1 : Int))) + 1) * 161 ≤ 70368744177664) && true) (cnd (decide ((0 + List.length
  (A45.bl (A5.a a_3)) + 1) * 161 ≤ 70368744177664)) (cnd (decide ((0 + List.length (A45.bl (A5.a a_3)) + 1 + 1) * 161 ≤ 70368744177664)) (∃ (a : A45), ([AV.agg
  [AV.agg [AV.str (A45.rel (A5.a a_3)), AV.lst 28 (A45.hl (A5.a a_3))], AV.lst 48 (List.take (0 + List.length (A45.bl (A5.a a_3)) + 1) (List.drop 0 (List.take (0
  + List.length (A45.bl (A5.a a_3))) ([] ++ A45.bl (A5.a a_3)) ++ [AV.agg [AV.int 1, AV.agg [AV.str (A5.q a_3), AV.lit (Value.slice none 0 0)], AV.agg [AV.lit
  (Value.int IntKind.i64 (0 : Int)), AV.lit (Value.string { data := #[] }), AV.lit (Value.int IntKind.i64 (0 : Int)), AV.lit (Value.slice none 0 0)], AV.agg
  [AV.lit (Value.int IntKind.i64 (0 : Int)), AV.lit (Value.string { data := #[] }), AV.lit (Value.int IntKind.i64 (0 : Int)), AV.lit (Value.slice none 0
  0)]]]))), AV.lit (Value.int IntKind.i64 (A45.line (A5.a a_3)))]], nilO) = ([AV.agg [AV.agg [AV.str (A45.rel a), AV.lst 28 (A45.hl a)], AV.lst 48 (A45.bl a),
  AV.int (A45.line a)]], nilO) ∧ (cntL (tmsOf (ruleTs 28 (A45.hl a) (A45.bl a))) ≤ 100000 ∧ List.length (A45.bl a) ≤ 100000) ∧ brn (rightR (rOf a)) (brn (safeR
  (rOf a)) (brn ((↑(List.length (walkR (rOf a))) : Int) == (↑(0 + List.length (A45.bl (A5.a a_3)) + 1) : Int)) (K (AV.bool true) []) (K (AV.bool false) [])) (K
  (AV.bool false) [])) (K (AV.bool true) []))))) ∧ ((cnd (true && decide ((0 : Int) ≤ IntKind.wrap IntKind.i64 ((↑(List.length (A45.bl (A5.a a_3))) : Int) + (1 :
  Int))) && decide ((Int.toNat (IntKind.wrap IntKind.i64 ((↑(List.length (A45.bl (A5.a a_3))) : Int) + (1 : Int))) + 1) * 161 ≤ 70368744177664) && true) (cnd
  (decide ((0 + List.length (A45.bl (A5.a a_3)) + 1) * 161 ≤ 70368744177664)) (cnd (decide ((0 + List.length (A45.bl (A5.a a_3)) + 1 + 1) * 161 ≤
  70368744177664)) (∃ (a : A45), ([AV.agg [AV.agg [AV.str (A45.rel (A5.a a_3)), AV.lst 28 (A45.hl (A5.a a_3))], AV.lst 48 (List.take (0 + List.length (A45.bl
  (A5.a a_3)) + 1) (List.drop 0 (List.take (0 + List.length (A45.bl (A5.a a_3))) ([] ++ A45.bl (A5.a a_3)) ++ [AV.agg [AV.lit (Value.int IntKind.i64 (1 : Int)),
  AV.agg [AV.str (A5.q a_3), AV.lit (Value.slice none 0 0)], AV.agg [AV.lit (Value.int IntKind.i64 (0 : Int)), AV.lit (Value.string { data := #[] }), AV.lit
  (Value.int IntKind.i64 (0 : Int)), AV.lit (Value.slice none 0 0)], AV.agg [AV.lit (Value.int IntKind.i64 (0 : Int)), AV.lit (Value.string { data := #[] }),
  AV.lit (Value.int IntKind.i64 (0 : Int)), AV.lit (Value.slice none 0 0)]]]))), AV.lit (Value.int IntKind.i64 (A45.line (A5.a a_3)))]], nilO) = ([AV.agg [AV.agg
  [AV.str (A45.rel a), AV.lst 28 (A45.hl a)], AV.lst 48 (A45.bl a), AV.int (A45.line a)]], nilO) ∧ (cntL (tmsOf (ruleTs 28 (A45.hl a) (A45.bl a))) ≤ 100000 ∧
  List.length (A45.bl a) ≤ 100000) ∧ brn (rightR (rOf a)) (brn (safeR (rOf a)) (brn ((↑(List.length (walkR (rOf a))) : Int) == (↑(0 + List.length (A45.bl (A5.a
  a_3)) + 1) : Int)) (K (AV.bool true) []) (K (AV.bool false) [])) (K (AV.bool false) [])) (K (AV.bool true) []))) ∧ cnd (decide ((0 + List.length (A45.bl (A5.a
  a_3)) + 1) * 161 ≤ 70368744177664)) (cnd (decide ((0 + List.length (A45.bl (A5.a a_3)) + 1 + 1) * 161 ≤ 70368744177664)) (∃ (a : A45), ([AV.agg [AV.agg [AV.str
  (A45.rel (A5.a a_3)), AV.lst 28 (A45.hl (A5.a a_3))], AV.lst 48 (List.take (0 + List.length (A45.bl (A5.a a_3)) + 1) (List.drop 0 (List.take (0 + List.length
  (A45.bl (A5.a a_3))) ([] ++ A45.bl (A5.a a_3)) ++ [AV.agg [AV.lit (Value.int IntKind.i64 (1 : Int)), AV.agg [AV.str (A5.q a_3), AV.lit (Value.slice none 0 0)],
  AV.agg [AV.lit (Value.int IntKind.i64 (0 : Int)), AV.lit (Value.string { data := #[] }), AV.lit (Value.int IntKind.i64 (0 : Int)), AV.lit (Value.slice none 0
  0)], AV.agg [AV.lit (Value.int IntKind.i64 (0 : Int)), AV.lit (Value.string { data := #[] }), AV.lit (Value.int IntKind.i64 (0 : Int)), AV.lit (Value.slice
  none 0 0)]]]))), AV.lit (Value.int IntKind.i64 (A45.line (A5.a a_3)))]], nilO) = ([AV.agg [AV.agg [AV.str (A45.rel a), AV.lst 28 (A45.hl a)], AV.lst 48 (A45.bl
  a), AV.int (A45.line a)]], nilO) ∧ (cntL (tmsOf (ruleTs 28 (A45.hl a) (A45.bl a))) ≤ 100000 ∧ List.length (A45.bl a) ≤ 100000) ∧ brn (rightR (rOf a)) (brn
  (safeR (rOf a)) (brn ((↑(List.length (walkR (rOf a))) : Int) == (↑(0 + List.length (A45.bl (A5.a a_3)) + 1) : Int)) (K (AV.bool true) []) (K (AV.bool false)
  [])) (K (AV.bool false) [])) (K (AV.bool true) [])))) ∧ cnd (true && decide ((0 : Int) ≤ IntKind.wrap IntKind.i64 ((↑(List.length (A45.bl (A5.a a_3))) : Int) +
  (1 : Int))) && decide ((Int.toNat (IntKind.wrap IntKind.i64 ((↑(List.length (A45.bl (A5.a a_3))) : Int) + (1 : Int))) + 1) * 161 ≤ 70368744177664) && true)
  (cnd (decide ((0 + List.length (A45.bl (A5.a a_3)) + 1) * 161 ≤ 70368744177664)) (cnd (decide ((0 + List.length (A45.bl (A5.a a_3)) + 1 + 1) * 161 ≤
  70368744177664)) (∃ (a : A45), ([AV.agg [AV.agg [AV.str (A45.rel (A5.a a_3)), AV.lst 28 (A45.hl (A5.a a_3))], AV.lst 48 (List.take (0 + List.length (A45.bl
  (A5.a a_3)) + 1) (List.drop 0 (List.take (0 + List.length (A45.bl (A5.a a_3))) ([] ++ A45.bl (A5.a a_3)) ++ [AV.agg [AV.int 1, AV.agg [AV.str (A5.q a_3),
  AV.lit (Value.slice none 0 0)], AV.agg [AV.lit (Value.int IntKind.i64 (0 : Int)), AV.lit (Value.string { data := #[] }), AV.lit (Value.int IntKind.i64 (0 :
  Int)), AV.lit (Value.slice none 0 0)], AV.agg [AV.lit (Value.int IntKind.i64 (0 : Int)), AV.lit (Value.string { data := #[] }), AV.lit (Value.int IntKind.i64
  (0 : Int)), AV.lit (Value.slice none 0 0)]]]))), AV.lit (Value.int IntKind.i64 (A45.line (A5.a a_3)))]], nilO) = ([AV.agg [AV.agg [AV.str (A45.rel a), AV.lst
  28 (A45.hl a)], AV.lst 48 (A45.bl a), AV.int (A45.line a)]], nilO) ∧ (cntL (tmsOf (ruleTs 28 (A45.hl a) (A45.bl a))) ≤ 100000 ∧ List.length (A45.bl a) ≤
  100000) ∧ brn (rightR (rOf a)) (brn (safeR (rOf a)) (brn ((↑(List.length (walkR (rOf a))) : Int) == (↑(0 + List.length (A45.bl (A5.a a_3)) + 1) : Int)) (K
  (AV.bool true) []) (K (AV.bool false) [])) (K (AV.bool false) [])) (K (AV.bool true) []))))) ∧ cnd (true && decide ((0 : Int) ≤ IntKind.wrap IntKind.i64
  ((↑(List.length (A45.bl (A5.a a_3))) : Int) + (1 : Int))) && decide ((Int.toNat (IntKind.wrap IntKind.i64 ((↑(List.length (A45.bl (A5.a a_3))) : Int) + (1 :
  Int))) + 1) * 161 ≤ 70368744177664) && true) (cnd (decide ((0 + List.length (A45.bl (A5.a a_3)) + 1) * 161 ≤ 70368744177664)) (cnd (decide ((0 + List.length
  (A45.bl (A5.a a_3)) + 1 + 1) * 161 ≤ 70368744177664)) (∃ (a : A45), ([AV.agg [AV.agg [AV.str (A45.rel (A5.a a_3)), AV.lst 28 (A45.hl (A5.a a_3))], AV.lst 48
  (List.take (0 + List.length (A45.bl (A5.a a_3)) + 1) (List.drop 0 (List.take (0 + List.length (A45.bl (A5.a a_3))) ([] ++ A45.bl (A5.a a_3)) ++ [AV.agg [AV.int
  1, AV.agg [AV.str (A5.q a_3), AV.lit (Value.slice none 0 0)], AV.agg [AV.lit (Value.int IntKind.i64 (0 : Int)), AV.str { data := #[] }, AV.lit (Value.int
  IntKind.i64 (0 : Int)), AV.lit (Value.slice none 0 0)], AV.agg [AV.lit (Value.int IntKind.i64 (0 : Int)), AV.str { data := #[] }, AV.lit (Value.int IntKind.i64
  (0 : Int)), AV.lit (Value.slice none 0 0)]]]))), AV.int (A45.line (A5.a a_3))]], nilO) = ([AV.agg [AV.agg [AV.str (A45.rel a), AV.lst 28 (A45.hl a)], AV.lst 48
  (A45.bl a), AV.int (A45.line a)]], nilO) ∧ (cntL (tmsOf (ruleTs 28 (A45.hl a) (A45.bl a))) ≤ 100000 ∧ List.length (A45.bl a) ≤ 100000) ∧ brn (rightR (rOf a))
  (brn (safeR (rOf a)) (brn ((↑(List.length (walkR (rOf a))) : Int) == (↑(0 + List.length (A45.bl (A5.a a_3)) + 1) : Int)) (K (AV.bool true) []) (K (AV.bool
  false) [])) (K (AV.bool false) [])) (K (AV.bool true) []))))) ∧ cnd (true && decide ((0 : Int) ≤ IntKind.wrap IntKind.i64 ((↑(List.length (A45.bl (A5.a a_3)))
  : Int) + (1 : Int))) && decide ((Int.toNat (IntKind.wrap IntKind.i64 ((↑(List.length (A45.bl (A5.a a_3))) : Int) + (1 : Int))) + 1) * 161 ≤ 70368744177664) &&
  true) (cnd (decide ((0 + List.length (A45.bl (A5.a a_3)) + 1) * 161 ≤ 70368744177664)) (cnd (decide ((0 + List.length (A45.bl (A5.a a_3)) + 1 + 1) * 161 ≤
  70368744177664)) (∃ (a : A45), ([AV.agg [AV.agg [AV.str (A45.rel (A5.a a_3)), AV.lst 28 (A45.hl (A5.a a_3))], AV.lst 48 (List.take (0 + List.length (A45.bl
  (A5.a a_3)) + 1) (List.drop 0 (List.take (0 + List.length (A45.bl (A5.a a_3))) ([] ++ A45.bl (A5.a a_3)) ++ [AV.agg [AV.int 1, AV.agg [AV.str (A5.q a_3),
  AV.lit (Value.slice none 0 0)], AV.agg [AV.lit (Value.int IntKind.i64 (0 : Int)), AV.str { data := #[] }, AV.lit (Value.int IntKind.i64 (0 : Int)), AV.lit
  (Value.slice none 0 0)], AV.agg [AV.lit (Value.int IntKind.i64 (0 : Int)), AV.str { data := #[] }, AV.lit (Value.int IntKind.i64 (0 : Int)), AV.lit
  (Value.slice none 0 0)]]]))), AV.int (A45.line (A5.a a_3))]], nilO) = ([AV.agg [AV.agg [AV.str (A45.rel a), AV.lst 28 (A45.hl a)], AV.lst 48 (A45.bl a), AV.int
  (A45.line a)]], nilO) ∧ (cntL (tmsOf (ruleTs 28 (A45.hl a) (A45.bl a))) ≤ 100000 ∧ List.length (A45.bl a) ≤ 100000) ∧ brn (rightR (rOf a)) (brn (safeR (rOf a))
  (brn ((↑(List.length (walkR (rOf a))) : Int) == (↑(0 + List.length (A45.bl (A5.a a_3)) + 1) : Int)) (K (AV.bool true) []) (K (AV.bool false) [])) (K (AV.bool
  false) [])) (K (AV.bool true) [])))) ∧ cnd (true && decide ((0 : Int) ≤ IntKind.wrap IntKind.i64 ((↑(List.length (A45.bl (A5.a a_3))) : Int) + (1 : Int))) &&
  decide ((Int.toNat (IntKind.wrap IntKind.i64 ((↑(List.length (A45.bl (A5.a a_3))) : Int) + (1 : Int))) + 1) * 161 ≤ 70368744177664) && true) (cnd (decide ((0 +
  List.length (A45.bl (A5.a a_3)) + 1) * 161 ≤ 70368744177664)) (cnd (decide ((0 + List.length (A45.bl (A5.a a_3)) + 1 + 1) * 161 ≤ 70368744177664)) (∃ (a :
  A45), ([AV.agg [AV.agg [AV.str (A45.rel (A5.a a_3)), AV.lst 28 (A45.hl (A5.a a_3))], AV.lst 48 (List.take (0 + List.length (A45.bl (A5.a a_3)) + 1) (List.drop
  0 (List.take (0 + List.length (A45.bl (A5.a a_3))) ([] ++ A45.bl (A5.a a_3)) ++ [AV.agg [AV.int 1, AV.agg [AV.str (A5.q a_3), AV.lit (Value.slice none 0 0)],
  AV.agg [AV.lit (Value.int IntKind.i64 (0 : Int)), AV.str { data := #[] }, AV.lit (Value.int IntKind.i64 (0 : Int)), AV.lit (Value.slice none 0 0)], AV.agg
  [AV.lit (Value.int IntKind.i64 (0 : Int)), AV.str { data := #[] }, AV.lit (Value.int IntKind.i64 (0 : Int)), AV.lit (Value.slice none 0 0)]]]))), AV.int
  (A45.line (A5.a a_3))]], nilO) = ([AV.agg [AV.agg [AV.str (A45.rel a), AV.lst 28 (A45.hl a)], AV.lst 48 (A45.bl a), AV.int (A45.line a)]], nilO) ∧ (cntL (tmsOf
  (ruleTs 28 (A45.hl a) (A45.bl a))) ≤ 100000 ∧ List.length (A45.bl a) ≤ 100000) ∧ brn (rightR (rOf a)) (brn (safeR (rOf a)) (brn ((↑(List.length (walkR (rOf
  a))) : Int) == (↑(0 + List.length (A45.bl (A5.a a_3)) + 1) : Int)) (K (AV.bool true) []) (K (AV.bool false) [])) (K (AV.bool false) [])) (K (AV.bool true)
  [])))))))) (K (AV.bool false) [])) (K (AV.bool false) [])) (∃ (a_2 : A45 × Int), ([AV.agg [AV.agg [AV.str (A45.rel a), AV.lst 28 (A45.hl a)], AV.lst 48 (A45.bl
  a), AV.int (A45.line a)], AV.int (↑(List.length (A45.bl a)) : Int)], nilO) = ([AV.agg [AV.agg [AV.str (A45.rel (Prod.fst a_2)), AV.lst 28 (A45.hl (Prod.fst
  a_2))], AV.lst 48 (A45.bl (Prod.fst a_2)), AV.int (A45.line (Prod.fst a_2))], AV.int (Prod.snd a_2)], nilO) ∧ (cntL (tmsOf (ruleTs 28 (A45.hl (Prod.fst a_2))
  (A45.bl (Prod.fst a_2)))) ≤ 100000 ∧ List.length (A45.bl (Prod.fst a_2)) ≤ 100000) ∧ brn (rightR (rOf (Prod.fst a_2))) (brn (safeR (rOf (Prod.fst a_2))) (brn
  (decide (Prod.snd a_2 < (0 : Int)) || decide ((↑(List.length (A45.bl (Prod.fst a_2))) : Int) < Prod.snd a_2)) (K (AV.bool false) []) (K (AV.bool false) [])) (K
  (AV.bool true) [])) (K (AV.bool false) []))) (∃ (a_2 : A45 × Int), ([AV.agg [AV.agg [AV.str (A45.rel a), AV.lst 28 (A45.hl a)], AV.lst 48 (A45.bl a), AV.int
  (A45.line a)], AV.int (↑(List.length (A45.bl a)) : Int)], nilO) = ([AV.agg [AV.agg [AV.str (A45.rel (Prod.fst a_2)), AV.lst 28 (A45.hl (Prod.fst a_2))], AV.lst
  48 (A45.bl (Prod.fst a_2)), AV.int (A45.line (Prod.fst a_2))], AV.int (Prod.snd a_2)], nilO) ∧ (cntL (tmsOf (ruleTs 28 (A45.hl (Prod.fst a_2)) (A45.bl
  (Prod.fst a_2)))) ≤ 100000 ∧ List.length (A45.bl (Prod.fst a_2)) ≤ 100000) ∧ brn (rightR (rOf (Prod.fst a_2))) (brn (safeR (rOf (Prod.fst a_2))) (brn (decide
  (Prod.snd a_2 < (0 : Int)) || decide ((↑(List.length (A45.bl (Prod.fst a_2))) : Int) < Prod.snd a_2)) (K (AV.bool false) []) (K (AV.bool false) [])) (K
  (AV.bool false) [])) (K (AV.bool true) []))))) := by kernel_rfl


theorem y5m (κ : Kp) (a : A45) (rel : ByteArray) (ns : List AV) (K : AV → List Dn.Obj → Prop) : (funA (E5m κ) 12 5 [rl45 a, .lit (.string rel), .lst 3 ns] [] K) = (
  brn (!smallR { head := { rel := A45.rel a, l := tmsOf (A45.hl a) }, body := ltsOf (A45.bl a) }) (K (AV.bool true) []) (brn ((↑(List.length (A45.bl a)) : Int) ==
  (0 : Int)) (K (AV.bool true) []) (∃ (a_1 : A45), ([AV.agg [AV.agg [AV.str (A45.rel a), AV.lst 28 (A45.hl a)], AV.lst 48 (A45.bl a), AV.int (A45.line a)]],
  nilO) = ([AV.agg [AV.agg [AV.str (A45.rel a_1), AV.lst 28 (A45.hl a_1)], AV.lst 48 (A45.bl a_1), AV.int (A45.line a_1)]], nilO) ∧ (cntL (tmsOf (ruleTs 28
  (A45.hl a_1) (A45.bl a_1))) ≤ 100000 ∧ List.length (A45.bl a_1) ≤ 100000) ∧ brn (rightR (rOf a_1)) (brn (safeR (rOf a_1)) (∃ (a_2 : A45 × Int), ([AV.agg
  [AV.agg [AV.str (A45.rel a), AV.lst 28 (A45.hl a)], AV.lst 48 (A45.bl a), AV.int (A45.line a)], AV.int (↑(List.length (A45.bl a)) : Int)], nilO) = ([AV.agg
  [AV.agg [AV.str (A45.rel (Prod.fst a_2)), AV.lst 28 (A45.hl (Prod.fst a_2))], AV.lst 48 (A45.bl (Prod.fst a_2)), AV.int (A45.line (Prod.fst a_2))], AV.int
  (Prod.snd a_2)], nilO) ∧ (cntL (tmsOf (ruleTs 28 (A45.hl (Prod.fst a_2)) (A45.bl (Prod.fst a_2)))) ≤ 100000 ∧ List.length (A45.bl (Prod.fst a_2)) ≤ 100000) ∧
  brn (rightR (rOf (Prod.fst a_2))) (brn (safeR (rOf (Prod.fst a_2))) (brn (decide (Prod.snd a_2 < (0 : Int)) || decide ((↑(List.length (A45.bl (Prod.fst a_2)))
  : Int) < Prod.snd a_2)) (K (AV.bool false) []) (cnd (true && decide ((0 : Int) ≤ if (5 : Int) < (↑(ByteArray.size rel) : Int) then (5 : Int) else
  (↑(ByteArray.size rel) : Int)) && decide ((if (5 : Int) < (↑(ByteArray.size rel) : Int) then (5 : Int) else (↑(ByteArray.size rel) : Int)) ≤ (↑(ByteArray.size
  rel) : Int))) (cnd (decide ((↑(1 + ByteArray.size (ByteArray.extract rel 0 (Int.toNat (if (5 : Int) < (↑(ByteArray.size rel) : Int) then (5 : Int) else
  (↑(ByteArray.size rel) : Int))))) : Int) ≤ (9223372036854775807 : Int))) (loopCode (Pg.toProgram (Env.P (E6 κ))) 5 10 = loopCode (Pg.toProgram (Env.P (E6 κ)))
  5 10 ∧ ∃ (a_3 : A5), sp 143 [(2, AV.lst 3 ns), (3, AV.ptr 0 0 [] 0), (7, AV.bool true), (10, AV.lst 9 (strs (boundV (rOf (Prod.fst a_2)) (Int.toNat (Prod.snd
  a_2))))), (12, AV.ptr 1 0 [] 0), (13, AV.int 0)] [Obj.box 35 (AV.agg [AV.agg [AV.str (A45.rel a), AV.lst 28 (A45.hl a)], AV.lst 48 (A45.bl a), AV.int (A45.line
  a)]), Obj.box 26 (AV.agg [AV.lit (Value.string ({ data := #[OfNat.ofNat 113] } ++ ByteArray.extract rel 0 (Int.toNat (if (5 : Int) < (↑(ByteArray.size rel) :
  Int) then (5 : Int) else (↑(ByteArray.size rel) : Int))))), AV.nil])] = sp 143 [(2, AV.lst 3 (A5.ns a_3)), (3, AV.ptr 0 0 [] 0), (7, AV.bool true), (10, AV.lst
  9 (strs (A5.b a_3))), (12, AV.ptr 1 0 [] 0), (13, AV.int 0)] [Obj.box 35 (AV.agg [AV.agg [AV.str (A45.rel (A5.a a_3)), AV.lst 28 (A45.hl (A5.a a_3))], AV.lst
  48 (A45.bl (A5.a a_3)), AV.int (A45.line (A5.a a_3))]), Obj.box 26 (AV.agg [AV.str (A5.q a_3), AV.nil])] ∧ (List.length (A5.b a_3) ≤ 9223372036854775807 ∧
  (A5.ns a_3 = [] → False)) ∧ (cnd (true && decide ((0 : Int) ≤ IntKind.wrap IntKind.i64 ((↑(List.length (A45.bl (A5.a a_3))) : Int) + (1 : Int))) && decide
  ((Int.toNat (IntKind.wrap IntKind.i64 ((↑(List.length (A45.bl (A5.a a_3))) : Int) + (1 : Int))) + 1) * 161 ≤ 70368744177664) && true) ((cnd (decide ((0 +
  List.length (A45.bl (A5.a a_3)) + 1) * 161 ≤ 70368744177664)) (cnd (decide ((0 + List.length (A45.bl (A5.a a_3)) + 1 + 1) * 161 ≤ 70368744177664)) (∃ (a :
  A45), ([AV.agg [AV.agg [AV.str (A45.rel (A5.a a_3)), AV.lst 28 (A45.hl (A5.a a_3))], AV.lst 48 (List.take (0 + List.length (A45.bl (A5.a a_3)) + 1) (List.drop
  0 (List.take (0 + List.length (A45.bl (A5.a a_3))) ([] ++ A45.bl (A5.a a_3)) ++ [AV.agg [AV.int 1, AV.agg [AV.str (A5.q a_3), AV.lst 28 (List.take (List.length
  (moreTs (A5.b a_3) (A5.ns a_3))) (List.drop 0 (moreTs (A5.b a_3) (A5.ns a_3))))], AV.agg [AV.lit (Value.int IntKind.i64 (0 : Int)), AV.lit (Value.string
  { data := #[] }), AV.lit (Value.int IntKind.i64 (0 : Int)), AV.lit (Value.slice none 0 0)], AV.agg [AV.lit (Value.int IntKind.i64 (0 : Int)), AV.lit
  (Value.string { data := #[] }), AV.lit (Value.int IntKind.i64 (0 : Int)), AV.lit (Value.slice none 0 0)]]]))), AV.lit (Value.int IntKind.i64 (A45.line (A5.a
  a_3)))]], nilO) = ([AV.agg [AV.agg [AV.str (A45.rel a), AV.lst 28 (A45.hl a)], AV.lst 48 (A45.bl a), AV.int (A45.line a)]], nilO) ∧ (cntL (tmsOf (ruleTs 28
  (A45.hl a) (A45.bl a))) ≤ 100000 ∧ List.length (A45.bl a) ≤ 100000) ∧ brn (rightR (rOf a)) (brn (safeR (rOf a)) (brn ((↑(List.length (walkR (rOf a))) : Int) ==
  (↑(0 + List.length (A45.bl (A5.a a_3)) + 1) : Int)) (K (AV.bool true) []) (K (AV.bool false) [])) (K (AV.bool false) [])) (K (AV.bool true) []))) ∧ cnd (decide
  ((0 + List.length (A45.bl (A5.a a_3)) + 1) * 161 ≤ 70368744177664)) (cnd (decide ((0 + List.length (A45.bl (A5.a a_3)) + 1 + 1) * 161 ≤ 70368744177664)) (∃ (a
  : A45), ([AV.agg [AV.agg [AV.str (A45.rel (A5.a a_3)), AV.lst 28 (A45.hl (A5.a a_3))], AV.lst 48 (List.take (0 + List.length (A45.bl (A5.a a_3)) + 1)
  (List.drop 0 (List.take (0 + List.length (A45.bl (A5.a a_3))) ([] ++ A45.bl (A5.a a_3)) ++ [AV.agg [AV.int 1, AV.agg [AV.str (A5.q a_3), AV.lst 28 (List.take
  (List.length (moreTs (A5.b a_3) (A5.ns a_3))) (List.drop 0 (moreTs (A5.b a_3) (A5.ns a_3))))], AV.agg [AV.lit (Value.int IntKind.i64 (0 : Int)), AV.lit
  (Value.string { data := #[] }), AV.lit (Value.int IntKind.i64 (0 : Int)), AV.lit (Value.slice none 0 0)], AV.agg [AV.lit (Value.int IntKind.i64 (0 : Int)),
  AV.lit (Value.string { data := #[] }), AV.lit (Value.int IntKind.i64 (0 : Int)), AV.lit (Value.slice none 0 0)]]]))), AV.lit (Value.int IntKind.i64 (A45.line
  (A5.a a_3)))]], nilO) = ([AV.agg [AV.agg [AV.str (A45.rel a), AV.lst 28 (A45.hl a)], AV.lst 48 (A45.bl a), AV.int (A45.line a)]], nilO) ∧ (cntL (tmsOf (ruleTs
  28 (A45.hl a) (A45.bl a))) ≤ 100000 ∧ List.length (A45.bl a) ≤ 100000) ∧ brn (rightR (rOf a)) (brn (safeR (rOf a)) (brn ((↑(List.length (walkR (rOf a))) : Int)
  == (↑(0 + List.length (A45.bl (A5.a a_3)) + 1) : Int)) (K (AV.bool true) []) (K (AV.bool false) [])) (K (AV.bool false) [])) (K (AV.bool true) [])))) ∧ cnd
  (decide ((0 + List.length (A45.bl (A5.a a_3)) + 1) * 161 ≤ 70368744177664)) (cnd (decide ((0 + List.length (A45.bl (A5.a a_3)) + 1 + 1) * 161 ≤
  70368744177664)) (∃ (a : A45), ([AV.agg [AV.agg [AV.str (A45.rel (A5.a a_3)), AV.lst 28 (A45.hl (A5.a a_3))], AV.lst 48 (List.take (0 + List.length (A45.bl
  (A5.a a_3)) + 1) (List.drop 0 (List.take (0 + List.length (A45.bl (A5.a a_3))) ([] ++ A45.bl (A5.a a_3)) ++ [AV.agg [AV.int 1, AV.agg [AV.str (A5.q a_3),
  AV.lst 28 (List.take (List.length (moreTs (A5.b a_3) (A5.ns a_3))) (List.drop 0 (moreTs (A5.b a_3) (A5.ns a_3))))], AV.agg [AV.lit (Value.int IntKind.i64 (0 :
  Int)), AV.str { data := #[] }, AV.lit (Value.int IntKind.i64 (0 : Int)), AV.lit (Value.slice none 0 0)], AV.agg [AV.lit (Value.int IntKind.i64 (0 : Int)),
  AV.str { data := #[] }, AV.lit (Value.int IntKind.i64 (0 : Int)), AV.lit (Value.slice none 0 0)]]]))), AV.int (A45.line (A5.a a_3))]], nilO) = ([AV.agg [AV.agg
  [AV.str (A45.rel a), AV.lst 28 (A45.hl a)], AV.lst 48 (A45.bl a), AV.int (A45.line a)]], nilO) ∧ (cntL (tmsOf (ruleTs 28 (A45.hl a) (A45.bl a))) ≤ 100000 ∧
  List.length (A45.bl a) ≤ 100000) ∧ brn (rightR (rOf a)) (brn (safeR (rOf a)) (brn ((↑(List.length (walkR (rOf a))) : Int) == (↑(0 + List.length (A45.bl (A5.a
  a_3)) + 1) : Int)) (K (AV.bool true) []) (K (AV.bool false) [])) (K (AV.bool false) [])) (K (AV.bool true) [])))) ∧ (cnd (true && decide ((0 : Int) ≤
  IntKind.wrap IntKind.i64 ((↑(List.length (A45.bl (A5.a a_3))) : Int) + (1 : Int))) && decide ((Int.toNat (IntKind.wrap IntKind.i64 ((↑(List.length (A45.bl
  (A5.a a_3))) : Int) + (1 : Int))) + 1) * 161 ≤ 70368744177664) && true) (cnd (decide ((0 + List.length (A45.bl (A5.a a_3)) + 1) * 161 ≤ 70368744177664)) (cnd
  (decide ((0 + List.length (A45.bl (A5.a a_3)) + 1 + 1) * 161 ≤ 70368744177664)) (∃ (a : A45), ([AV.agg [AV.agg [AV.str (A45.rel (A5.a a_3)), AV.lst 28 (A45.hl
  (A5.a a_3))], AV.lst 48 (List.take (0 + List.length (A45.bl (A5.a a_3)) + 1) (List.drop 0 (List.take (0 + List.length (A45.bl (A5.a a_3))) ([] ++ A45.bl (A5.a
  a_3)) ++ [AV.agg [AV.lit (Value.int IntKind.i64 (1 : Int)), AV.agg [AV.str (A5.q a_3), AV.lst 28 (List.take (List.length (moreTs (A5.b a_3) (A5.ns a_3)))
  (List.drop 0 (moreTs (A5.b a_3) (A5.ns a_3))))], AV.agg [AV.lit (Value.int IntKind.i64 (0 : Int)), AV.lit (Value.string { data := #[] }), AV.lit (Value.int
  IntKind.i64 (0 : Int)), AV.lit (Value.slice none 0 0)], AV.agg [AV.lit (Value.int IntKind.i64 (0 : Int)), AV.lit (Value.string { data := #[] }), AV.lit
  (Value.int IntKind.i64 (0 : Int)), AV.lit (Value.slice none 0 0)]]]))), AV.lit (Value.int IntKind.i64 (A45.line (A5.a a_3)))]], nilO) = ([AV.agg [AV.agg
  [AV.str (A45.rel a), AV.lst 28 (A45.hl a)], AV.lst 48 (A45.bl a), AV.int (A45.line a)]], nilO) ∧ (cntL (tmsOf (ruleTs 28 (A45.hl a) (A45.bl a))) ≤ 100000 ∧
  List.length (A45.bl a) ≤ 100000) ∧ brn (rightR (rOf a)) (brn (safeR (rOf a)) (brn ((↑(List.length (walkR (rOf a))) : Int) == (↑(0 + List.length (A45.bl (A5.a
  a_3)) + 1) : Int)) (K (AV.bool true) []) (K (AV.bool false) [])) (K (AV.bool false) [])) (K (AV.bool true) []))) ∧ cnd (decide ((0 + List.length (A45.bl (A5.a
  a_3)) + 1) * 161 ≤ 70368744177664)) (cnd (decide ((0 + List.length (A45.bl (A5.a a_3)) + 1 + 1) * 161 ≤ 70368744177664)) (∃ (a : A45), ([AV.agg [AV.agg [AV.str
  (A45.rel (A5.a a_3)), AV.lst 28 (A45.hl (A5.a a_3))], AV.lst 48 (List.take (0 + List.length (A45.bl (A5.a a_3)) + 1) (List.drop 0 (List.take (0 + List.length
  (A45.bl (A5.a a_3))) ([] ++ A45.bl (A5.a a_3)) ++ [AV.agg [AV.lit (Value.int IntKind.i64 (1 : Int)), AV.agg [AV.str (A5.q a_3), AV.lst 28 (List.take
  (List.length (moreTs (A5.b a_3) (A5.ns a_3))) (List.drop 0 (moreTs (A5.b a_3) (A5.ns a_3))))], AV.agg [AV.lit (Value.int IntKind.i64 (0 : Int)), AV.lit
  (Value.string { data := #[] }), AV.lit (Value.int IntKind.i64 (0 : Int)), AV.lit (Value.slice none 0 0)], AV.agg [AV.lit (Value.int IntKind.i64 (0 : Int)),
  AV.lit (Value.string { data := #[] }), AV.lit (Value.int IntKind.i64 (0 : Int)), AV.lit (Value.slice none 0 0)]]]))), AV.lit (Value.int IntKind.i64 (A45.line
  (A5.a a_3)))]], nilO) = ([AV.agg [AV.agg [AV.str (A45.rel a), AV.lst 28 (A45.hl a)], AV.lst 48 (A45.bl a), AV.int (A45.line a)]], nilO) ∧ (cntL (tmsOf (ruleTs
  28 (A45.hl a) (A45.bl a))) ≤ 100000 ∧ List.length (A45.bl a) ≤ 100000) ∧ brn (rightR (rOf a)) (brn (safeR (rOf a)) (brn ((↑(List.length (walkR (rOf a))) : Int)
  == (↑(0 + List.length (A45.bl (A5.a a_3)) + 1) : Int)) (K (AV.bool true) []) (K (AV.bool false) [])) (K (AV.bool false) [])) (K (AV.bool true) [])))) ∧ cnd
  (true && decide ((0 : Int) ≤ IntKind.wrap IntKind.i64 ((↑(List.length (A45.bl (A5.a a_3))) : Int) + (1 : Int))) && decide ((Int.toNat (IntKind.wrap IntKind.i64
  ((↑(List.length (A45.bl (A5.a a_3))) : Int) + (1 : Int))) + 1) * 161 ≤ 70368744177664) && true) (cnd (decide ((0 + List.length (A45.bl (A5.a a_3)) + 1) * 161 ≤
  70368744177664)) (cnd (decide ((0 + List.length (A45.bl (A5.a a_3)) + 1 + 1) * 161 ≤ 70368744177664)) (∃ (a : A45), ([AV.agg [AV.agg [AV.str (A45.rel (A5.a
  a_3)), AV.lst 28 (A45.hl (A5.a a_3))], AV.lst 48 (List.take (0 + List.length (A45.bl (A5.a a_3)) + 1) (List.drop 0 (List.take (0 + List.length (A45.bl (A5.a
  a_3))) ([] ++ A45.bl (A5.a a_3)) ++ [AV.agg [AV.int 1, AV.agg [AV.str (A5.q a_3), AV.lst 28 (List.take (List.length (moreTs (A5.b a_3) (A5.ns a_3))) (List.drop
  0 (moreTs (A5.b a_3) (A5.ns a_3))))], AV.agg [AV.lit (Value.int IntKind.i64 (0 : Int)), AV.lit (Value.string { data := #[] }), AV.lit (Value.int IntKind.i64 (0
  : Int)), AV.lit (Value.slice none 0 0)], AV.agg [AV.lit (Value.int IntKind.i64 (0 : Int)), AV.lit (Value.string { data := #[] }), AV.lit (Value.int IntKind.i64
  (0 : Int)), AV.lit (Value.slice none 0 0)]]]))), AV.lit (Value.int IntKind.i64 (A45.line (A5.a a_3)))]], nilO) = ([AV.agg [AV.agg [AV.str (A45.rel a), AV.lst
  28 (A45.hl a)], AV.lst 48 (A45.bl a), AV.int (A45.line a)]], nilO) ∧ (cntL (tmsOf (ruleTs 28 (A45.hl a) (A45.bl a))) ≤ 100000 ∧ List.length (A45.bl a) ≤
  100000) ∧ brn (rightR (rOf a)) (brn (safeR (rOf a)) (brn ((↑(List.length (walkR (rOf a))) : Int) == (↑(0 + List.length (A45.bl (A5.a a_3)) + 1) : Int)) (K
  (AV.bool true) []) (K (AV.bool false) [])) (K (AV.bool false) [])) (K (AV.bool true) []))))) ∧ cnd (true && decide ((0 : Int) ≤ IntKind.wrap IntKind.i64
  ((↑(List.length (A45.bl (A5.a a_3))) : Int) + (1 : Int))) && decide ((Int.toNat (IntKind.wrap IntKind.i64 ((↑(List.length (A45.bl (A5.a a_3))) : Int) + (1 :
  Int))) + 1) * 161 ≤ 70368744177664) && true) (cnd (decide ((0 + List.length (A45.bl (A5.a a_3)) + 1) * 161 ≤ 70368744177664)) (cnd (decide ((0 + List.length
  (A45.bl (A5.a a_3)) + 1 + 1) * 161 ≤ 70368744177664)) (∃ (a : A45), ([AV.agg [AV.agg [AV.str (A45.rel (A5.a a_3)), AV.lst 28 (A45.hl (A5.a a_3))], AV.lst 48
  (List.take (0 + List.length (A45.bl (A5.a a_3)) + 1) (List.drop 0 (List.take (0 + List.length (A45.bl (A5.a a_3))) ([] ++ A45.bl (A5.a a_3)) ++ [AV.agg [AV.int
  1, AV.agg [AV.str (A5.q a_3), AV.lst 28 (List.take (List.length (moreTs (A5.b a_3) (A5.ns a_3))) (List.drop 0 (moreTs (A5.b a_3) (A5.ns a_3))))], AV.agg
  [AV.lit (Value.int IntKind.i64 (0 : Int)), AV.lit (Value.string { data := #[] }), AV.lit (Value.int IntKind.i64 (0 : Int)), AV.lit (Value.slice none 0 0)],
  AV.agg [AV.lit (Value.int IntKind.i64 (0 : Int)), AV.lit (Value.string { data := #[] }), AV.lit (Value.int IntKind.i64 (0 : Int)), AV.lit (Value.slice none 0
  0)]]]))), AV.lit (Value.int IntKind.i64 (A45.line (A5.a a_3)))]], nilO) = ([AV.agg [AV.agg [AV.str (A45.rel a), AV.lst 28 (A45.hl a)], AV.lst 48 (A45.bl a),
  AV.int (A45.line a)]], nilO) ∧ (cntL (tmsOf (ruleTs 28 (A45.hl a) (A45.bl a))) ≤ 100000 ∧ List.length (A45.bl a) ≤ 100000) ∧ brn (rightR (rOf a)) (brn (safeR
  (rOf a)) (brn ((↑(List.length (walkR (rOf a))) : Int) == (↑(0 + List.length (A45.bl (A5.a a_3)) + 1) : Int)) (K (AV.bool true) []) (K (AV.bool false) [])) (K
  (AV.bool false) [])) (K (AV.bool true) [])))) ∧ cnd (true && decide ((0 : Int) ≤ IntKind.wrap IntKind.i64 ((↑(List.length (A45.bl (A5.a a_3))) : Int) + (1 :
  Int))) && decide ((Int.toNat (IntKind.wrap IntKind.i64 ((↑(List.length (A45.bl (A5.a a_3))) : Int) + (1 : Int))) + 1) * 161 ≤ 70368744177664) && true) (cnd
  (decide ((0 + List.length (A45.bl (A5.a a_3)) + 1) * 161 ≤ 70368744177664)) (cnd (decide ((0 + List.length (A45.bl (A5.a a_3)) + 1 + 1) * 161 ≤
  70368744177664)) (∃ (a : A45), ([AV.agg [AV.agg [AV.str (A45.rel (A5.a a_3)), AV.lst 28 (A45.hl (A5.a a_3))], AV.lst 48 (List.take (0 + List.length (A45.bl
  (A5.a a_3)) + 1) (List.drop 0 (List.take (0 + List.length (A45.bl (A5.a a_3))) ([] ++ A45.bl (A5.a a_3)) ++ [AV.agg [AV.int 1, AV.agg [AV.str (A5.q a_3),
  AV.lst 28 (List.take (List.length (moreTs (A5.b a_3) (A5.ns a_3))) (List.drop 0 (moreTs (A5.b a_3) (A5.ns a_3))))], AV.agg [AV.lit (Value.int IntKind.i64 (0 :
  Int)), AV.lit (Value.string { data := #[] }), AV.lit (Value.int IntKind.i64 (0 : Int)), AV.lit (Value.slice none 0 0)], AV.agg [AV.lit (Value.int IntKind.i64
  (0 : Int)), AV.lit (Value.string { data := #[] }), AV.lit (Value.int IntKind.i64 (0 : Int)), AV.lit (Value.slice none 0 0)]]]))), AV.lit (Value.int IntKind.i64
  (A45.line (A5.a a_3)))]], nilO) = ([AV.agg [AV.agg [AV.str (A45.rel a), AV.lst 28 (A45.hl a)], AV.lst 48 (A45.bl a), AV.int (A45.line a)]], nilO) ∧ (cntL
  (tmsOf (ruleTs 28 (A45.hl a) (A45.bl a))) ≤ 100000 ∧ List.length (A45.bl a) ≤ 100000) ∧ brn (rightR (rOf a)) (brn (safeR (rOf a)) (brn ((↑(List.length (walkR
  (rOf a))) : Int) == (↑(0 + List.length (A45.bl (A5.a a_3)) + 1) : Int)) (K (AV.bool true) []) (K (AV.bool false) [])) (K (AV.bool false) [])) (K (AV.bool true)
  []))))) ∧ ((cnd (true && decide ((0 : Int) ≤ IntKind.wrap IntKind.i64 ((↑(List.length (A45.bl (A5.a a_3))) : Int) + (1 : Int))) && decide ((Int.toNat
  (IntKind.wrap IntKind.i64 ((↑(List.length (A45.bl (A5.a a_3))) : Int) + (1 : Int))) + 1) * 161 ≤ 70368744177664) && true) (cnd (decide ((0 + List.length
  (A45.bl (A5.a a_3)) + 1) * 161 ≤ 70368744177664)) (cnd (decide ((0 + List.length (A45.bl (A5.a a_3)) + 1 + 1) * 161 ≤ 70368744177664)) (∃ (a : A45), ([AV.agg
  [AV.agg [AV.str (A45.rel (A5.a a_3)), AV.lst 28 (A45.hl (A5.a a_3))], AV.lst 48 (List.take (0 + List.length (A45.bl (A5.a a_3)) + 1) (List.drop 0 (List.take (0
  + List.length (A45.bl (A5.a a_3))) ([] ++ A45.bl (A5.a a_3)) ++ [AV.agg [AV.lit (Value.int IntKind.i64 (1 : Int)), AV.agg [AV.str (A5.q a_3), AV.lst 28
  (List.take (List.length (moreTs (A5.b a_3) (A5.ns a_3))) (List.drop 0 (moreTs (A5.b a_3) (A5.ns a_3))))], AV.agg [AV.lit (Value.int IntKind.i64 (0 : Int)),
  AV.lit (Value.string { data := #[] }), AV.lit (Value.int IntKind.i64 (0 : Int)), AV.lit (Value.slice none 0 0)], AV.agg [AV.lit (Value.int IntKind.i64 (0 :
  Int)), AV.lit (Value.string { data := #[] }), AV.lit (Value.int IntKind.i64 (0 : Int)), AV.lit (Value.slice none 0 0)]]]))), AV.lit (Value.int IntKind.i64
  (A45.line (A5.a a_3)))]], nilO) = ([AV.agg [AV.agg [AV.str (A45.rel a), AV.lst 28 (A45.hl a)], AV.lst 48 (A45.bl a), AV.int (A45.line a)]], nilO) ∧ (cntL
  (tmsOf (ruleTs 28 (A45.hl a) (A45.bl a))) ≤ 100000 ∧ List.length (A45.bl a) ≤ 100000) ∧ brn (rightR (rOf a)) (brn (safeR (rOf a)) (brn ((↑(List.length (walkR
  (rOf a))) : Int) == (↑(0 + List.length (A45.bl (A5.a a_3)) + 1) : Int)) (K (AV.bool true) []) (K (AV.bool false) [])) (K (AV.bool false) [])) (K (AV.bool true)
  []))) ∧ cnd (decide ((0 + List.length (A45.bl (A5.a a_3)) + 1) * 161 ≤ 70368744177664)) (cnd (decide ((0 + List.length (A45.bl (A5.a a_3)) + 1 + 1) * 161 ≤
  70368744177664)) (∃ (a : A45), ([AV.agg [AV.agg [AV.str (A45.rel (A5.a a_3)), AV.lst 28 (A45.hl (A5.a a_3))], AV.lst 48 (List.take (0 + List.length (A45.bl
  (A5.a a_3)) + 1) (List.drop 0 (List.take (0 + List.length (A45.bl (A5.a a_3))) ([] ++ A45.bl (A5.a a_3)) ++ [AV.agg [AV.lit (Value.int IntKind.i64 (1 : Int)),
  AV.agg [AV.str (A5.q a_3), AV.lst 28 (List.take (List.length (moreTs (A5.b a_3) (A5.ns a_3))) (List.drop 0 (moreTs (A5.b a_3) (A5.ns a_3))))], AV.agg [AV.lit
  (Value.int IntKind.i64 (0 : Int)), AV.lit (Value.string { data := #[] }), AV.lit (Value.int IntKind.i64 (0 : Int)), AV.lit (Value.slice none 0 0)], AV.agg
  [AV.lit (Value.int IntKind.i64 (0 : Int)), AV.lit (Value.string { data := #[] }), AV.lit (Value.int IntKind.i64 (0 : Int)), AV.lit (Value.slice none 0
  0)]]]))), AV.lit (Value.int IntKind.i64 (A45.line (A5.a a_3)))]], nilO) = ([AV.agg [AV.agg [AV.str (A45.rel a), AV.lst 28 (A45.hl a)], AV.lst 48 (A45.bl a),
  AV.int (A45.line a)]], nilO) ∧ (cntL (tmsOf (ruleTs 28 (A45.hl a) (A45.bl a))) ≤ 100000 ∧ List.length (A45.bl a) ≤ 100000) ∧ brn (rightR (rOf a)) (brn (safeR
  (rOf a)) (brn ((↑(List.length (walkR (rOf a))) : Int) == (↑(0 + List.length (A45.bl (A5.a a_3)) + 1) : Int)) (K (AV.bool true) []) (K (AV.bool false) [])) (K
  (AV.bool false) [])) (K (AV.bool true) [])))) ∧ cnd (true && decide ((0 : Int) ≤ IntKind.wrap IntKind.i64 ((↑(List.length (A45.bl (A5.a a_3))) : Int) + (1 :
  Int))) && decide ((Int.toNat (IntKind.wrap IntKind.i64 ((↑(List.length (A45.bl (A5.a a_3))) : Int) + (1 : Int))) + 1) * 161 ≤ 70368744177664) && true) (cnd
  (decide ((0 + List.length (A45.bl (A5.a a_3)) + 1) * 161 ≤ 70368744177664)) (cnd (decide ((0 + List.length (A45.bl (A5.a a_3)) + 1 + 1) * 161 ≤
  70368744177664)) (∃ (a : A45), ([AV.agg [AV.agg [AV.str (A45.rel (A5.a a_3)), AV.lst 28 (A45.hl (A5.a a_3))], AV.lst 48 (List.take (0 + List.length (A45.bl
  (A5.a a_3)) + 1) (List.drop 0 (List.take (0 + List.length (A45.bl (A5.a a_3))) ([] ++ A45.bl (A5.a a_3)) ++ [AV.agg [AV.int 1, AV.agg [AV.str (A5.q a_3),
  AV.lst 28 (List.take (List.length (moreTs (A5.b a_3) (A5.ns a_3))) (List.drop 0 (moreTs (A5.b a_3) (A5.ns a_3))))], AV.agg [AV.lit (Value.int IntKind.i64 (0 :
  Int)), AV.lit (Value.string { data := #[] }), AV.lit (Value.int IntKind.i64 (0 : Int)), AV.lit (Value.slice none 0 0)], AV.agg [AV.lit (Value.int IntKind.i64
  (0 : Int)), AV.lit (Value.string { data := #[] }), AV.lit (Value.int IntKind.i64 (0 : Int)), AV.lit (Value.slice none 0 0)]]]))), AV.lit (Value.int IntKind.i64
  (A45.line (A5.a a_3)))]], nilO) = ([AV.agg [AV.agg [AV.str (A45.rel a), AV.lst 28 (A45.hl a)], AV.lst 48 (A45.bl a), AV.int (A45.line a)]], nilO) ∧ (cntL
  (tmsOf (ruleTs 28 (A45.hl a) (A45.bl a))) ≤ 100000 ∧ List.length (A45.bl a) ≤ 100000) ∧ brn (rightR (rOf a)) (brn (safeR (rOf a)) (brn ((↑(List.length (walkR
  (rOf a))) : Int) == (↑(0 + List.length (A45.bl (A5.a a_3)) + 1) : Int)) (K (AV.bool true) []) (K (AV.bool false) [])) (K (AV.bool false) [])) (K (AV.bool true)
  []))))) ∧ cnd (true && decide ((0 : Int) ≤ IntKind.wrap IntKind.i64 ((↑(List.length (A45.bl (A5.a a_3))) : Int) + (1 : Int))) && decide ((Int.toNat
  (IntKind.wrap IntKind.i64 ((↑(List.length (A45.bl (A5.a a_3))) : Int) + (1 : Int))) + 1) * 161 ≤ 70368744177664) && true) (cnd (decide ((0 + List.length
  (A45.bl (A5.a a_3)) + 1) * 161 ≤ 70368744177664)) (cnd (decide ((0 + List.length (A45.bl (A5.a a_3)) + 1 + 1) * 161 ≤ 70368744177664)) (∃ (a : A45), ([AV.agg
  [AV.agg [AV.str (A45.rel (A5.a a_3)), AV.lst 28 (A45.hl (A5.a a_3))], AV.lst 48 (List.take (0 + List.length (A45.bl (A5.a a_3)) + 1) (List.drop 0 (List.take (0
  + List.length (A45.bl (A5.a a_3))) ([] ++ A45.bl (A5.a a_3)) ++ [AV.agg [AV.int 1, AV.agg [AV.str (A5.q a_3), AV.lst 28 (List.take (List.length (moreTs (A5.b
  a_3) (A5.ns a_3))) (List.drop 0 (moreTs (A5.b a_3) (A5.ns a_3))))], AV.agg [AV.lit (Value.int IntKind.i64 (0 : Int)), AV.str { data := #[] }, AV.lit (Value.int
  IntKind.i64 (0 : Int)), AV.lit (Value.slice none 0 0)], AV.agg [AV.lit (Value.int IntKind.i64 (0 : Int)), AV.str { data := #[] }, AV.lit (Value.int IntKind.i64
  (0 : Int)), AV.lit (Value.slice none 0 0)]]]))), AV.int (A45.line (A5.a a_3))]], nilO) = ([AV.agg [AV.agg [AV.str (A45.rel a), AV.lst 28 (A45.hl a)], AV.lst 48
  (A45.bl a), AV.int (A45.line a)]], nilO) ∧ (cntL (tmsOf (ruleTs 28 (A45.hl a) (A45.bl a))) ≤ 100000 ∧ List.length (A45.bl a) ≤ 100000) ∧ brn (rightR (rOf a))
  (brn (safeR (rOf a)) (brn ((↑(List.length (walkR (rOf a))) : Int) == (↑(0 + List.length (A45.bl (A5.a a_3)) + 1) : Int)) (K (AV.bool true) []) (K (AV.bool
  false) [])) (K (AV.bool false) [])) (K (AV.bool true) []))))) ∧ cnd (true && decide ((0 : Int) ≤ IntKind.wrap IntKind.i64 ((↑(List.length (A45.bl (A5.a a_3)))
  : Int) + (1 : Int))) && decide ((Int.toNat (IntKind.wrap IntKind.i64 ((↑(List.length (A45.bl (A5.a a_3))) : Int) + (1 : Int))) + 1) * 161 ≤ 70368744177664) &&
  true) (cnd (decide ((0 + List.length (A45.bl (A5.a a_3)) + 1) * 161 ≤ 70368744177664)) (cnd (decide ((0 + List.length (A45.bl (A5.a a_3)) + 1 + 1) * 161 ≤
  70368744177664)) (∃ (a : A45), ([AV.agg [AV.agg [AV.str (A45.rel (A5.a a_3)), AV.lst 28 (A45.hl (A5.a a_3))], AV.lst 48 (List.take (0 + List.length (A45.bl
  (A5.a a_3)) + 1) (List.drop 0 (List.take (0 + List.length (A45.bl (A5.a a_3))) ([] ++ A45.bl (A5.a a_3)) ++ [AV.agg [AV.int 1, AV.agg [AV.str (A5.q a_3),
  AV.lst 28 (List.take (List.length (moreTs (A5.b a_3) (A5.ns a_3))) (List.drop 0 (moreTs (A5.b a_3) (A5.ns a_3))))], AV.agg [AV.lit (Value.int IntKind.i64 (0 :
  Int)), AV.str { data := #[] }, AV.lit (Value.int IntKind.i64 (0 : Int)), AV.lit (Value.slice none 0 0)], AV.agg [AV.lit (Value.int IntKind.i64 (0 : Int)),
  AV.str { data := #[] }, AV.lit (Value.int IntKind.i64 (0 : Int)), AV.lit (Value.slice none 0 0)]]]))), AV.int (A45.line (A5.a a_3))]], nilO) = ([AV.agg [AV.agg
  [AV.str (A45.rel a), AV.lst 28 (A45.hl a)], AV.lst 48 (A45.bl a), AV.int (A45.line a)]], nilO) ∧ (cntL (tmsOf (ruleTs 28 (A45.hl a) (A45.bl a))) ≤ 100000 ∧
  List.length (A45.bl a) ≤ 100000) ∧ brn (rightR (rOf a)) (brn (safeR (rOf a)) (brn ((↑(List.length (walkR (rOf a))) : Int) == (↑(0 + List.length (A45.bl (A5.a
  a_3)) + 1) : Int)) (K (AV.bool true) []) (K (AV.bool false) [])) (K (AV.bool false) [])) (K (AV.bool true) [])))) ∧ cnd (true && decide ((0 : Int) ≤
  IntKind.wrap IntKind.i64 ((↑(List.length (A45.bl (A5.a a_3))) : Int) + (1 : Int))) && decide ((Int.toNat (IntKind.wrap IntKind.i64 ((↑(List.length (A45.bl
  (A5.a a_3))) : Int) + (1 : Int))) + 1) * 161 ≤ 70368744177664) && true) (cnd (decide ((0 + List.length (A45.bl (A5.a a_3)) + 1) * 161 ≤ 70368744177664)) (cnd
  (decide ((0 + List.length (A45.bl (A5.a a_3)) + 1 + 1) * 161 ≤ 70368744177664)) (∃ (a : A45), ([AV.agg [AV.agg [AV.str (A45.rel (A5.a a_3)), AV.lst 28 (A45.hl
  (A5.a a_3))], AV.lst 48 (List.take (0 + List.length (A45.bl (A5.a a_3)) + 1) (List.drop 0 (List.take (0 + List.length (A45.bl (A5.a a_3))) ([] ++ A45.bl (A5.a
  a_3)) ++ [AV.agg [AV.int 1, AV.agg [AV.str (A5.q a_3), AV.lst 28 (List.take (List.length (moreTs (A5.b a_3) (A5.ns a_3))) (List.drop 0 (moreTs (A5.b a_3)
  (A5.ns a_3))))], AV.agg [AV.lit (Value.int IntKind.i64 (0 : Int)), AV.str { data := #[] }, AV.lit (Value.int IntKind.i64 (0 : Int)), AV.lit (Value.slice none 0
  0)], AV.agg [AV.lit (Value.int IntKind.i64 (0 : Int)), AV.str { data := #[] }, AV.lit (Value.int IntKind.i64 (0 : Int)), AV.lit (Value.slice none 0 0)]]]))),
  AV.int (A45.line (A5.a a_3))]], nilO) = ([AV.agg [AV.agg [AV.str (A45.rel a), AV.lst 28 (A45.hl a)], AV.lst 48 (A45.bl a), AV.int (A45.line a)]], nilO) ∧ (cntL
  (tmsOf (ruleTs 28 (A45.hl a) (A45.bl a))) ≤ 100000 ∧ List.length (A45.bl a) ≤ 100000) ∧ brn (rightR (rOf a)) (brn (safeR (rOf a)) (brn ((↑(List.length (walkR
  (rOf a))) : Int) == (↑(0 + List.length (A45.bl (A5.a a_3)) + 1) : Int)) (K (AV.bool true) []) (K (AV.bool false) [])) (K (AV.bool false) [])) (K (AV.bool true)
  [])))))))) (K (AV.bool false) [])) (K (AV.bool false) [])) (∃ (a_2 : A45 × Int), ([AV.agg [AV.agg [AV.str (A45.rel a), AV.lst 28 (A45.hl a)], AV.lst 48 (A45.bl
  a), AV.int (A45.line a)], AV.int (↑(List.length (A45.bl a)) : Int)], nilO) = ([AV.agg [AV.agg [AV.str (A45.rel (Prod.fst a_2)), AV.lst 28 (A45.hl (Prod.fst
  a_2))], AV.lst 48 (A45.bl (Prod.fst a_2)), AV.int (A45.line (Prod.fst a_2))], AV.int (Prod.snd a_2)], nilO) ∧ (cntL (tmsOf (ruleTs 28 (A45.hl (Prod.fst a_2))
  (A45.bl (Prod.fst a_2)))) ≤ 100000 ∧ List.length (A45.bl (Prod.fst a_2)) ≤ 100000) ∧ brn (rightR (rOf (Prod.fst a_2))) (brn (safeR (rOf (Prod.fst a_2))) (brn
  (decide (Prod.snd a_2 < (0 : Int)) || decide ((↑(List.length (A45.bl (Prod.fst a_2))) : Int) < Prod.snd a_2)) (K (AV.bool false) []) (K (AV.bool false) [])) (K
  (AV.bool true) [])) (K (AV.bool false) []))) (∃ (a_2 : A45 × Int), ([AV.agg [AV.agg [AV.str (A45.rel a), AV.lst 28 (A45.hl a)], AV.lst 48 (A45.bl a), AV.int
  (A45.line a)], AV.int (↑(List.length (A45.bl a)) : Int)], nilO) = ([AV.agg [AV.agg [AV.str (A45.rel (Prod.fst a_2)), AV.lst 28 (A45.hl (Prod.fst a_2))], AV.lst
  48 (A45.bl (Prod.fst a_2)), AV.int (A45.line (Prod.fst a_2))], AV.int (Prod.snd a_2)], nilO) ∧ (cntL (tmsOf (ruleTs 28 (A45.hl (Prod.fst a_2)) (A45.bl
  (Prod.fst a_2)))) ≤ 100000 ∧ List.length (A45.bl (Prod.fst a_2)) ≤ 100000) ∧ brn (rightR (rOf (Prod.fst a_2))) (brn (safeR (rOf (Prod.fst a_2))) (brn (decide
  (Prod.snd a_2 < (0 : Int)) || decide ((↑(List.length (A45.bl (Prod.fst a_2))) : Int) < Prod.snd a_2)) (K (AV.bool false) []) (K (AV.bool false) [])) (K
  (AV.bool false) [])) (K (AV.bool true) []))))) := by kernel_rfl


end Go.Proofs.YtidmfjdechhnmaaDoor

/-
  DsafeMore: whatever is handed in, the law answers true.
-/
namespace Go.Proofs.YtidmfjdechhnmaaDoor
open Go Go.Dn Go.Rl Go.Proofs
attribute [local irreducible] funA vc
set_option maxRecDepth 20000

abbrev newX (q : ByteArray) (x : AV) : AV := .agg [.int 1, .agg [.lit (.string q), x], zTA, zTA]
abbrev moreX (a : A45) (q : ByteArray) (x : AV) : A45 := ⟨[], [], a.rel, a.hl, a.bl ++ [newX q x], a.line, 0⟩

theorem rOf_moreX (a : A45) (q : ByteArray) {x : AV} {ts : List AV} (h : toLst x = ts) : rOf (moreX a q x) = moreR (rOf a) (newLt q ts) := by
  subst h
  have e : ltOf (newX q x) = newLt q (toLst x) := by
    simp only [ltOf, atOf, fld, nth, tm_z, toInt, toStr]; rfl
  simp only [rOf, moreR, ltsOf, List.map_append, List.map_cons, List.map_nil, e]

theorem moreX_side {a : A45} (h : ruleC (rOf a) + a.bl.length ≤ 2000) (q : ByteArray) (b : List ByteArray) (ns : List AV) {x : AV} (hx : toLst x = moreTs b ns) : side42 (moreX a q x) := by
  have h0 := more_side h q b ns
  refine ⟨?_, by have := h0.2; simp only [List.length_append, List.length_singleton] at this ⊢; exact this⟩
  have h1 := h0.1
  rw [ruleTs_cnt 28 (moreA a q (moreTs b ns)).rel (moreA a q (moreTs b ns)).hl (moreA a q (moreTs b ns)).bl] at h1
  rw [ruleTs_cnt 28 (moreX a q x).rel (moreX a q x).hl (moreX a q x).bl]
  have k : ruleC (rOf (moreX a q x)) = ruleC (rOf (moreA a q (moreTs b ns))) := by rw [rOf_moreX a q hx, rOf_more]
  exact Nat.le_trans (Nat.le_of_eq k) h1

theorem blkX {a : A45} (h : ruleC (rOf a) + a.bl.length ≤ 2000) (h1 : rightR (rOf a) = true) (h3 : safeR (rOf a) = true) (q : ByteArray) (ns : List AV) {x : AV} (hx : toLst x = moreTs (boundV (rOf a) a.bl.length) ns) :
    ∃ a' : A45, (([.agg [.agg [.lit (.string a.rel), .lst 28 a.hl], .lst 48 (List.take (0 + a.bl.length + 1) (List.drop 0 (List.take (0 + a.bl.length) ([] ++ a.bl) ++ [newX q x]))), .int a.line]], nilO) : List AV × List Dn.Obj) = ([rl45 a'], nilO) ∧ side42 a' ∧
      brn (rightR (rOf a')) (brn (safeR (rOf a')) (brn ((((walkR (rOf a')).length : Nat) : Int) == ((0 + a.bl.length + 1 : Nat) : Int)) (AV.bool true = AV.bool true) (AV.bool false = AV.bool true)) (AV.bool false = AV.bool true)) (AV.bool true = AV.bool true) := by
  have e : List.take (0 + a.bl.length + 1) (List.drop 0 (List.take (0 + a.bl.length) ([] ++ a.bl) ++ [newX q x])) = a.bl ++ [newX q x] := by
    simp only [Nat.zero_add, List.nil_append, List.take_length, List.drop_zero]
    exact List.take_of_length_le (by simp)
  rw [e]
  refine ⟨moreX a q x, rfl, moreX_side h q _ ns hx, ?_⟩
  rw [rOf_moreX a q hx]
  simp only [brn_iff]
  refine ⟨fun hr => ?_, fun _ => trivial⟩
  obtain ⟨k1, k2⟩ := safe_more (new_ok h1 q ns hr) h3
  rw [k1, k2, body_len]
  refine ⟨fun _ => ⟨fun _ => trivial, fun he => ?_⟩, fun he => nomatch he⟩
  exact absurd he (by simp)

theorem bound_len {a : A45} (h : side42 a) (k : Nat) : (boundV (rOf a) k).length ≤ 100000 := by
  have h5 : (ruleV (rOf a)).length ≤ 100000 := by
    have h6 := varsL_le (tmsOf (ruleTs 28 a.hl a.bl))
    rw [ruleTs_vars 28 a.rel a.hl a.bl] at h6
    exact Nat.le_trans h6 h.1
  have h7 := ddup_len (ruleV (rOf a)) []
  refine Nat.le_trans (List.length_filter_le _ _) ?_
  unfold varsR
  cases rightR (rOf a)
  · simp
  · rw [cond_true]; omega

theorem sim5n (κ : Kp) (a : A45) (rel : ByteArray) : funA (E5n κ) 12 5 [rl45 a, .lit (.string rel), .lst 3 []] [] (fun r _ => r = .bool true) := by
  refine Eq.mpr (y5n κ a rel _) ?_
  have hr : smallR ⟨⟨a.rel, tmsOf a.hl⟩, ltsOf a.bl⟩ = smallR (rOf a) := rfl
  rw [hr]
  cases hs : smallR (rOf a) with
  | false => rfl
  | true =>
    obtain ⟨h2, h4⟩ := small_side hs
    have hl := h2.2
    have hl2 : a.bl.length ≤ 2000 := by omega
    cases hb : ((a.bl.length : Int) == 0) with
    | true => rfl
    | false =>
      refine ⟨a, rfl, h2, ?_⟩
      cases h1 : rightR (rOf a) with
      | false =>
        refine ⟨(a, (a.bl.length : Int)), rfl, h2, ?_⟩
        simp only [h1]
        trivial
      | true =>
        cases h3 : safeR (rOf a) with
        | false =>
          refine ⟨(a, (a.bl.length : Int)), rfl, h2, ?_⟩
          simp only [h1, h3]
          trivial
        | true =>
          refine ⟨(a, (a.bl.length : Int)), rfl, h2, ?_⟩
          have d1 : (decide ((a.bl.length : Int) < 0) || decide ((a.bl.length : Int) < (a.bl.length : Int))) = false := by simp
          have hb0 := bound_len h2 a.bl.length
          rw [h1, h3, d1]
          have m0 : 0 ≤ (if 5 < (rel.size : Int) then (5 : Int) else (rel.size : Int)) := by split <;> omega
          have m1 : (if 5 < (rel.size : Int) then (5 : Int) else (rel.size : Int)) ≤ (rel.size : Int) := by split <;> omega
          have m2 : (if 5 < (rel.size : Int) then (5 : Int) else (rel.size : Int)) ≤ 5 := by split <;> omega
          generalize (if 5 < (rel.size : Int) then (5 : Int) else (rel.size : Int)) = m at *
          have c1 : (true && decide (0 ≤ m) && decide (m ≤ (rel.size : Int))) = true := by simp [m0, m1]
          have c2 : decide (((1 + (rel.extract 0 m.toNat).size : Nat) : Int) ≤ 9223372036854775807) = true := by
            rw [decide_eq_true_eq, ByteArray.size_extract]; omega
          rw [c1, c2]
          have w : IntKind.wrap .i64 ((a.bl.length : Int) + 1) = (a.bl.length : Int) + 1 := wrap_ok (by omega) (by omega)
          have c3 : (true && decide (0 ≤ IntKind.wrap .i64 ((a.bl.length : Int) + 1)) && decide (((IntKind.wrap .i64 ((a.bl.length : Int) + 1)).toNat + 1) * 161 ≤ 70368744177664) && true) = true := by
            rw [w]; simp only [Bool.true_and, Bool.and_true, Bool.and_eq_true, decide_eq_true_eq]; omega
          have c4 : decide ((0 + a.bl.length + 1) * 161 ≤ 70368744177664) = true := decide_eq_true (by omega)
          have c5 : decide ((0 + a.bl.length + 1 + 1) * 161 ≤ 70368744177664) = true := decide_eq_true (by omega)
          refine ⟨rfl, ⟨a, ByteArray.mk #[113] ++ rel.extract 0 m.toNat, boundV (rOf a) a.bl.length, [], [], 0⟩, rfl, by simp only [side5n, maxI]; omega, ?_⟩
          have X := blkX h4 h1 h3 (ByteArray.mk #[113] ++ rel.extract 0 m.toNat) [] (x := .nil) rfl
          simp only [cnd_iff, c3, c4, c5, true_and, and_self] at X ⊢
          exact X
theorem sim5m (κ : Kp) (a : A45) (rel : ByteArray) {ns : List AV} (hns : ns ≠ []) : funA (E5m κ) 12 5 [rl45 a, .lit (.string rel), .lst 3 ns] [] (fun r _ => r = .bool true) := by
  refine Eq.mpr (y5m κ a rel ns _) ?_
  have hr : smallR ⟨⟨a.rel, tmsOf a.hl⟩, ltsOf a.bl⟩ = smallR (rOf a) := rfl
  rw [hr]
  cases hs : smallR (rOf a) with
  | false => rfl
  | true =>
    obtain ⟨h2, h4⟩ := small_side hs
    have hl := h2.2
    have hl2 : a.bl.length ≤ 2000 := by omega
    cases hb : ((a.bl.length : Int) == 0) with
    | true => rfl
    | false =>
      refine ⟨a, rfl, h2, ?_⟩
      cases h1 : rightR (rOf a) with
      | false =>
        refine ⟨(a, (a.bl.length : Int)), rfl, h2, ?_⟩
        simp only [h1]
        trivial
      | true =>
        cases h3 : safeR (rOf a) with
        | false =>
          refine ⟨(a, (a.bl.length : Int)), rfl, h2, ?_⟩
          simp only [h1, h3]
          trivial
        | true =>
          refine ⟨(a, (a.bl.length : Int)), rfl, h2, ?_⟩
          have d1 : (decide ((a.bl.length : Int) < 0) || decide ((a.bl.length : Int) < (a.bl.length : Int))) = false := by simp
          have hb0 := bound_len h2 a.bl.length
          rw [h1, h3, d1]
          have m0 : 0 ≤ (if 5 < (rel.size : Int) then (5 : Int) else (rel.size : Int)) := by split <;> omega
          have m1 : (if 5 < (rel.size : Int) then (5 : Int) else (rel.size : Int)) ≤ (rel.size : Int) := by split <;> omega
          have m2 : (if 5 < (rel.size : Int) then (5 : Int) else (rel.size : Int)) ≤ 5 := by split <;> omega
          generalize (if 5 < (rel.size : Int) then (5 : Int) else (rel.size : Int)) = m at *
          have c1 : (true && decide (0 ≤ m) && decide (m ≤ (rel.size : Int))) = true := by simp [m0, m1]
          have c2 : decide (((1 + (rel.extract 0 m.toNat).size : Nat) : Int) ≤ 9223372036854775807) = true := by
            rw [decide_eq_true_eq, ByteArray.size_extract]; omega
          rw [c1, c2]
          have w : IntKind.wrap .i64 ((a.bl.length : Int) + 1) = (a.bl.length : Int) + 1 := wrap_ok (by omega) (by omega)
          have c3 : (true && decide (0 ≤ IntKind.wrap .i64 ((a.bl.length : Int) + 1)) && decide (((IntKind.wrap .i64 ((a.bl.length : Int) + 1)).toNat + 1) * 161 ≤ 70368744177664) && true) = true := by
            rw [w]; simp only [Bool.true_and, Bool.and_true, Bool.and_eq_true, decide_eq_true_eq]; omega
          have c4 : decide ((0 + a.bl.length + 1) * 161 ≤ 70368744177664) = true := decide_eq_true (by omega)
          have c5 : decide ((0 + a.bl.length + 1 + 1) * 161 ≤ 70368744177664) = true := decide_eq_true (by omega)
          refine ⟨rfl, ⟨a, ByteArray.mk #[113] ++ rel.extract 0 m.toNat, boundV (rOf a) a.bl.length, ns, [], 0⟩, rfl, ⟨by simp only [maxI]; omega, hns⟩, ?_⟩
          have X := blkX h4 h1 h3 (ByteArray.mk #[113] ++ rel.extract 0 m.toNat) ns (x := .lst 28 (List.take (moreTs (boundV (rOf a) a.bl.length) ns).length (List.drop 0 (moreTs (boundV (rOf a) a.bl.length) ns)))) (by simp [toLst])
          simp only [cnd_iff, c3, c4, c5, true_and, and_self] at X ⊢
          exact X

theorem simM (κ : Kp) (a : A45) (rel : ByteArray) (ns : List AV) : SimCall (Pr κ) 5 [rl45 a, .lit (.string rel), .lst 3 ns] [] (fun r _ => r = .bool true) := by
  by_cases h : ns = []
  · subst h; exact fun_sound (e5n κ) (m5n κ) (sim5n κ a rel)
  · exact fun_sound (e5m κ) (m5m κ) (sim5m κ a rel h)
end Go.Proofs.YtidmfjdechhnmaaDoor
