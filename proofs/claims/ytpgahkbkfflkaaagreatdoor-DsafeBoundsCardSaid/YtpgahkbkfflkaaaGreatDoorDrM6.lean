import Derived.Test.YtpgahkbkfflkaaaGreatDoorDrM1
import Derived.Test.YtpgahkbkfflkaaaGreatDoorDrM5
namespace Go.Rl
open Go Go.Dn
def addB (o : List ByteArray) (s : ByteArray) : List ByteArray := bif o.contains s then o else o ++ [s]
def withB (o m : List ByteArray) : List ByteArray := m.foldl addB o
theorem withB_cons (o : List ByteArray) (s : ByteArray) (m : List ByteArray) : withB o (s :: m) = withB (addB o s) m := rfl
theorem withB_app (o a b : List ByteArray) : withB o (a ++ b) = withB (withB o a) b := by simp [withB]
theorem withB_ddup : ∀ (m o : List ByteArray), withB o m = o ++ ddup o m
  | [], o => by simp [withB, ddup]
  | s :: m, o => by
    rw [withB_cons, withB_ddup m, addB, ddup]
    cases o.contains s <;> simp
theorem withB_nil (m : List ByteArray) : withB [] m = ddup [] m := by rw [withB_ddup]; rfl
theorem withB_len (o m : List ByteArray) : (withB o m).length ≤ o.length + m.length := by
  rw [withB_ddup, List.length_append]
  have := ddup_len m o
  omega
theorem mem_withB {o m : List ByteArray} {s : ByteArray} : s ∈ withB o m ↔ s ∈ o ∨ s ∈ m := by
  rw [withB_ddup, List.mem_append, mem_ddup]
  by_cases h : s ∈ o <;> simp [h]
theorem withB_sub : ∀ (m p o : List ByteArray), (∀ s, s ∈ p → s ∈ o) → withB o (ddup p m) = withB o m
  | [], _, _, _ => rfl
  | s :: m, p, o, h => by
    rw [ddup]
    cases hp : p.contains s with
    | true =>
      rw [cond_true, withB_sub m p o h, withB_cons, addB]
      have : o.contains s = true := by simpa using h s (by simpa using hp)
      rw [this]; rfl
    | false =>
      rw [cond_false, withB_cons, withB_cons]
      refine withB_sub m _ _ fun t ht => ?_
      have e : addB o s = withB o [s] := rfl
      rw [e, mem_withB]
      rcases List.mem_append.1 ht with ht | ht
      · exact .inl (h t ht)
      · exact .inr ht
theorem withB_dd (o m : List ByteArray) : withB o (ddup [] m) = withB o m := withB_sub m [] o (fun s h => by cases h)
mutual
def Tm.rv : Tm → List ByteArray
  | .mk op s _ l => bif decide (op = 1) then [s] else rvL l []
def rvL : List Tm → List ByteArray → List ByteArray
  | [], o => o
  | t :: l, o => rvL l (withB o t.rv)
end
mutual
def Tm.lf : Tm → Bool
  | .mk op _ _ l => bif decide (op = 1) then decide (l.length = 0) else lfL l
def lfL : List Tm → Bool
  | [] => true
  | t :: l => t.lf && lfL l
end
mutual
theorem Tm.rv_eq : ∀ t : Tm, t.lf = true → t.rv = ddup [] t.vars
  | .mk op s n l, h => by
    rw [Tm.lf] at h
    rw [Tm.rv, Tm.vars]
    cases ho : decide (op = 1) with
    | true =>
      rw [ho, cond_true, decide_eq_true_eq] at h
      have : l = [] := List.eq_nil_of_length_eq_zero h
      subst this
      simp [varsL, ddup]
    | false =>
      rw [ho, cond_false] at h
      rw [cond_false, cond_false, rvL_eq l [] h, List.nil_append, withB_nil]
theorem rvL_eq : ∀ (l : List Tm) (o : List ByteArray), lfL l = true → rvL l o = withB o (varsL l)
  | [], o, _ => rfl
  | t :: l, o, h => by
    rw [lfL, Bool.and_eq_true] at h
    rw [rvL, varsL, rvL_eq l _ h.2, Tm.rv_eq t h.1, withB_dd, withB_app]
end
mutual
theorem Tm.rv_len : ∀ t : Tm, t.rv.length ≤ t.cnt
  | .mk op s n l => by
    rw [Tm.rv, Tm.cnt]
    have := rvL_len l []
    cases decide (op = 1)
    · rw [cond_false]; simp at this; omega
    · rw [cond_true]; simp
theorem rvL_len : ∀ (l : List Tm) (o : List ByteArray), (rvL l o).length ≤ o.length + cntL l
  | [], o => by simp [rvL, cntL]
  | t :: l, o => by
    rw [rvL, cntL]
    have h1 := rvL_len l (withB o t.rv)
    have h2 := withB_len o t.rv
    have h3 := Tm.rv_len t
    omega
end
theorem lf_right : ∀ (h : Nat) (t : Tm), rightT h t = true → t.lf = true
  | 0, _, h => by simp [rightT] at h
  | h + 1, .mk op s n l, e => by
    rw [rightT_mk] at e
    rw [Tm.lf]
    have go : ∀ l : List Tm, rightLs h l = true → lfL l = true := by
      intro l
      induction l with
      | nil => intro _; rfl
      | cons t l ih =>
        intro e
        simp only [rightLs, List.all_cons, Bool.and_eq_true] at e
        rw [lfL, lf_right h t e.1.2, ih e.2]; rfl
    cases h0 : decide (op = 0) with
    | true => rw [h0, cond_true] at e; cases e
    | false =>
      rw [h0, cond_false] at e
      cases h2 : isTwo op with
      | true =>
        rw [h2, cond_true] at e
        simp only [Bool.and_eq_true] at e
        have h1 : decide (op = 1) = false := by
          unfold isTwo at h2
          rw [decide_eq_false_iff_not]; intro h; subst h; revert h2; decide
        rw [h1, cond_false]
        exact go l e.2
      | false =>
        rw [h2, cond_false, Bool.and_eq_true, decide_eq_true_eq] at e
        have : l = [] := List.eq_nil_of_length_eq_zero e.2
        subst this
        cases decide (op = 1) <;> rfl
theorem lf_no {t : Tm} (h : noT t = true) : t.lf = true := by
  obtain ⟨op, s, n, l⟩ := t
  simp only [noT, Bool.and_eq_true, decide_eq_true_eq] at h
  have : l = [] := List.eq_nil_of_length_eq_zero h.2
  subst this
  rw [Tm.lf]
  cases decide (op = 1) <;> rfl
theorem lf_all {h : Nat} : ∀ {l : List Tm}, l.all (rightT h) = true → lfL l = true
  | [], _ => rfl
  | t :: l, e => by
    simp only [List.all_cons, Bool.and_eq_true] at e
    rw [lfL, lf_right h t e.1, lf_all e.2]; rfl
theorem lf_atom {a : At} (h : rightA a = true) : lfL a.l = true := by
  simp only [rightA, Bool.and_eq_true] at h
  exact lf_all h.2
def lfLt (l : Lt) : Bool := l.x.lf && l.y.lf && lfL l.a.l
theorem lf_lit {l : Lt} (h : rightL l = true) : lfLt l = true := by
  unfold rightL at h
  unfold lfLt
  have nA : noA l.a = true → lfL l.a.l = true := fun h => by
    simp only [noA, Bool.and_eq_true, decide_eq_true_eq] at h
    rw [List.eq_nil_of_length_eq_zero h.2]; rfl
  have v1 : ∀ {t : Tm}, rightT 20 t = true → t.lf = true := fun h => lf_right _ _ h
  cases h1 : decide (l.op = 1) || decide (l.op = 2) with
  | true =>
    rw [h1, cond_true] at h; simp only [Bool.and_eq_true] at h
    rw [lf_no h.2.1, lf_no h.2.2, lf_atom h.1]; rfl
  | false =>
    rw [h1, cond_false] at h
    cases h2 : decide (l.op = 3) || decide (l.op = 4) || decide (l.op = 5) || decide (l.op = 6) with
    | true =>
      rw [h2, cond_true] at h; simp only [Bool.and_eq_true] at h
      rw [v1 h.1.2, v1 h.2, nA h.1.1.1.1]; rfl
    | false =>
      rw [h2, cond_false] at h
      cases h3 : decide (l.op = 7) with
      | true =>
        rw [h3, cond_true] at h; simp only [Bool.and_eq_true] at h
        rw [v1 h.2, lf_no h.1.2.2, lf_atom h.1.1]; rfl
      | false =>
        rw [h3, cond_false] at h
        cases h4 : decide (l.op = 8) || decide (l.op = 9) || decide (l.op = 10) with
        | true =>
          rw [h4, cond_true] at h; simp only [Bool.and_eq_true] at h
          rw [v1 h.1.2, v1 h.2, lf_atom h.1.1.1]; rfl
        | false => rw [h4, cond_false] at h; cases h
theorem lf_rule {r : Rl} (h : rightR r = true) : lfL r.head.l = true ∧ ∀ l, l ∈ r.body → lfLt l = true := by
  simp only [rightR, Bool.and_eq_true, List.all_eq_true] at h
  exact ⟨lf_atom h.1.1.1, fun l hl => lf_lit (h.2 l hl)⟩
theorem lf_nth {r : Rl} (h : rightR r = true) (k : Nat) : lfLt (nthLt r.body k) = true := by
  unfold nthLt
  rw [List.getD_eq_getElem?_getD]
  cases e : r.body[k]? with
  | none => rfl
  | some l => exact (lf_rule h).2 l (List.mem_of_getElem? e)
def atomR (a : At) : List ByteArray := rvL a.l []
def litR (l : Lt) : List ByteArray := withB (withB l.x.rv l.y.rv) (atomR l.a)
def litsR : List Lt → List ByteArray → List ByteArray
  | [], o => o
  | l :: b, o => litsR b (withB o (litR l))
def varsF (r : Rl) : List ByteArray := bif rightR r then litsR r.body (atomR r.head) else []
theorem atomR_eq {a : At} (h : lfL a.l = true) : atomR a = ddup [] (varsL a.l) := by rw [atomR, rvL_eq _ _ h, withB_nil]
theorem litR_eq {l : Lt} (h : lfLt l = true) : litR l = ddup [] (litV l) := by
  simp only [lfLt, Bool.and_eq_true] at h
  rw [litR, litV, Tm.rv_eq _ h.1.1, Tm.rv_eq _ h.1.2, atomR_eq h.2, withB_dd, withB_dd, ← withB_nil, ← withB_app, ← withB_app, withB_nil, varsL, varsL, varsL, List.append_nil, List.append_assoc]
theorem litsR_eq : ∀ (b : List Lt) (o : List ByteArray), (∀ l, l ∈ b → lfLt l = true) → litsR b o = withB o (b.flatMap litV)
  | [], o, _ => rfl
  | l :: b, o, h => by
    rw [litsR, litsR_eq b _ fun x hx => h x (List.mem_cons_of_mem _ hx), litR_eq (h l List.mem_cons_self), withB_dd, List.flatMap_cons, withB_app]
theorem varsF_eq (r : Rl) : varsF r = varsR r := by
  unfold varsF varsR
  cases h : rightR r with
  | false => rfl
  | true =>
    rw [cond_true, cond_true]
    have hl := lf_rule h
    rw [litsR_eq _ _ hl.2, atomR_eq hl.1, ruleV, ← withB_nil, ← withB_app, withB_nil]
theorem litR_len (l : Lt) : (litR l).length ≤ litC l := by
  unfold litR litC
  have h1 := withB_len (withB l.x.rv l.y.rv) (atomR l.a)
  have h2 := withB_len l.x.rv l.y.rv
  have h3 := Tm.rv_len l.x
  have h4 := Tm.rv_len l.y
  have h5 := rvL_len l.a.l []
  simp only [cntL]
  simp only [atomR, List.length_nil] at *
  omega
def reckF : List Tm → List ByteArray → List ByteArray
  | [], o => o
  | t :: l, o => reckF l (bif decide (t.op ≥ 5) then withB o t.rv else o)
theorem reckF_eq : ∀ (l : List Tm) (o : List ByteArray), lfL l = true → reckF l o = withB o (reckL l)
  | [], o, _ => rfl
  | t :: l, o, h => by
    rw [lfL, Bool.and_eq_true] at h
    rw [reckF, reckL, reckF_eq l _ h.2, withB_app]
    have e : decide (t.op ≥ 5) = decide (5 ≤ t.op) := rfl
    rw [e]
    cases decide (5 ≤ t.op) with
    | true => rw [cond_true, cond_true, Tm.rv_eq t h.1, withB_dd, varsL, varsL, List.append_nil]
    | false => rfl
theorem reckF_len : ∀ (l : List Tm) (o : List ByteArray), (reckF l o).length ≤ o.length + cntL l
  | [], o => by simp [reckF, cntL]
  | t :: l, o => by
    rw [reckF, cntL]
    have h1 := reckF_len l (bif decide (t.op ≥ 5) then withB o t.rv else o)
    have h2 := withB_len o t.rv
    have h3 := Tm.rv_len t
    revert h1
    cases decide (t.op ≥ 5)
    · simp only [cond_false]; omega
    · simp only [cond_true]; omega
def elseF (k : Nat) : List Lt → Nat → List ByteArray → List ByteArray
  | [], _, o => o
  | l :: b, i, o => elseF k b (i + 1) (withB o (bif Nat.beq i k then litR ⟨l.op, ⟨ByteArray.empty, []⟩, l.x, .mk 0 ByteArray.empty 0 []⟩ else litR l))
theorem elseF_eq (k : Nat) : ∀ (b : List Lt) (i : Nat) (o : List ByteArray), (∀ l, l ∈ b → lfLt l = true) → elseF k b i o = withB o (elseB k b i)
  | [], _, _, _ => rfl
  | l :: b, i, o, h => by
    rw [elseF, elseB, elseF_eq k b _ _ fun x hx => h x (List.mem_cons_of_mem _ hx), withB_app]
    have hl := h l List.mem_cons_self
    cases Nat.beq i k with
    | true =>
      rw [cond_true, cond_true]
      have h2 := hl
      simp only [lfLt, Bool.and_eq_true] at h2
      rw [litR_eq (by simp [lfLt, h2.1.1, Tm.lf, lfL]), withB_dd]
      simp [litV, varsL, Tm.vars]
    | false => rw [cond_false, cond_false, litR_eq hl, withB_dd]
def outerF (r : Rl) (k : Nat) : List ByteArray := (varsF r).filter fun v => (atomR (nthLt r.body k).a).contains v && (elseF k r.body 0 (atomR r.head)).contains v
theorem contains_eq {a b : List ByteArray} (h : ∀ s, s ∈ a ↔ s ∈ b) (s : ByteArray) : a.contains s = b.contains s := by
  rw [Bool.eq_iff_iff, List.contains_iff_mem, List.contains_iff_mem]; exact h s
theorem mem_dd {m : List ByteArray} (s : ByteArray) : s ∈ ddup [] m ↔ s ∈ m := by rw [mem_ddup]; simp
theorem outerF_eq {r : Rl} (h : rightR r = true) (k : Nat) : outerF r k = outerV r k := by
  unfold outerF outerV
  have hl := lf_rule h
  have hk := lf_nth h k
  simp only [lfLt, Bool.and_eq_true] at hk
  rw [varsF_eq]
  congr 1; funext v
  rw [atomR_eq hk.2, contains_eq mem_dd, elseF_eq k _ _ _ hl.2, atomR_eq hl.1, contains_eq (a := withB (ddup [] (varsL r.head.l)) (elseB k r.body 0)) (b := elseV r k) fun s => by
    rw [mem_withB, mem_dd, elseV, List.mem_append]]
def bindsF (b : List ByteArray) (x y : Tm) : Bool := decide (x.op = 1) && !b.contains x.s && hasB b y.rv
theorem hasB_same {b c l m : List ByteArray} (h : ∀ s, s ∈ b ↔ s ∈ c) (h2 : ∀ s, s ∈ l ↔ s ∈ m) : hasB b l = hasB c m := by
  rw [Bool.eq_iff_iff, hasB_iff, hasB_iff]
  exact ⟨fun g s hs => (h s).1 (g s ((h2 s).2 hs)), fun g s hs => (h s).2 (g s ((h2 s).1 hs))⟩
theorem bindsF_eq {b c : List ByteArray} (h : ∀ s, s ∈ b ↔ s ∈ c) {x y : Tm} (hy : y.lf = true) : bindsF b x y = bindsB c x y := by
  unfold bindsF bindsB
  rw [contains_eq h, hasB_same h (m := varsL [y]) fun s => by rw [Tm.rv_eq y hy, mem_dd, varsL, varsL, List.append_nil], Bool.and_assoc]
def readyF (b : List ByteArray) (r : Rl) (k : Nat) : Bool :=
  bif decide ((nthLt r.body k).op = 1) then hasB b (reckF (nthLt r.body k).a.l [])
  else bif decide ((nthLt r.body k).op = 2) || decide ((nthLt r.body k).op = 4) || decide ((nthLt r.body k).op = 5) || decide ((nthLt r.body k).op = 6) then hasB b (litR (nthLt r.body k))
  else bif decide ((nthLt r.body k).op = 3) then hasB b (litR (nthLt r.body k)) || bindsF b (nthLt r.body k).x (nthLt r.body k).y || bindsF b (nthLt r.body k).y (nthLt r.body k).x
  else hasB b (outerF r k) && hasB b (reckF (nthLt r.body k).a.l []) && (decide ((nthLt r.body k).op = 7) || (atomR (nthLt r.body k).a).contains (nthLt r.body k).y.s)
theorem readyF_eq {b c : List ByteArray} (h : ∀ s, s ∈ b ↔ s ∈ c) {r : Rl} (hr : rightR r = true) (k : Nat) : readyF b r k = readyB c r k := by
  unfold readyF readyB
  have hk := lf_nth hr k
  have hk2 := hk
  simp only [lfLt, Bool.and_eq_true] at hk2
  have e1 : hasB b (reckF (nthLt r.body k).a.l []) = hasB c (reckL (nthLt r.body k).a.l) := hasB_same h fun s => by rw [reckF_eq _ _ hk2.2, withB_nil, mem_dd]
  have e2 : hasB b (litR (nthLt r.body k)) = hasB c (litV (nthLt r.body k)) := hasB_same h fun s => by rw [litR_eq hk, mem_dd]
  have e3 : hasB b (outerF r k) = hasB c (outerV r k) := hasB_same h fun s => by rw [outerF_eq hr]
  rw [e1, e2, e3, bindsF_eq h hk2.1.2, bindsF_eq h hk2.1.1, atomR_eq hk2.2, contains_eq mem_dd]
  have ho : ∀ n m : Int, n ≠ m → decide ((nthLt r.body k).op = n) = true → decide ((nthLt r.body k).op = m) = false := fun n m hn e => by
    rw [decide_eq_true_eq] at e; rw [decide_eq_false_iff_not, e]; exact hn
  cases h1 : decide ((nthLt r.body k).op = 1) with
  | true => rfl
  | false =>
    rw [cond_false, cond_false]
    cases h3 : decide ((nthLt r.body k).op = 3) with
    | true =>
      rw [ho 3 2 (by decide) h3, ho 3 4 (by decide) h3, ho 3 5 (by decide) h3, ho 3 6 (by decide) h3]
      simp only [Bool.or_false, cond_false, cond_true]
      cases hasB c (litV (nthLt r.body k)) <;> cases bindsB c (nthLt r.body k).x (nthLt r.body k).y <;> cases bindsB c (nthLt r.body k).y (nthLt r.body k).x <;> rfl
    | false =>
      rw [cond_false, cond_false]
      have : (decide ((nthLt r.body k).op = 2) || decide ((nthLt r.body k).op = 4) || decide ((nthLt r.body k).op = 5) || decide ((nthLt r.body k).op = 6)) = (decide ((nthLt r.body k).op = 2) || (decide ((nthLt r.body k).op = 4) || (decide ((nthLt r.body k).op = 5) || decide ((nthLt r.body k).op = 6)))) := by
        simp only [Bool.or_assoc]
      rw [this]
      cases (decide ((nthLt r.body k).op = 2) || (decide ((nthLt r.body k).op = 4) || (decide ((nthLt r.body k).op = 5) || decide ((nthLt r.body k).op = 6)))) with
      | true => rfl
      | false =>
        rw [cond_false, cond_false]
        cases decide ((nthLt r.body k).op = 7) <;> cases (varsL (nthLt r.body k).a.l).contains (nthLt r.body k).y.s <;> cases hasB c (outerV r k) <;> cases hasB c (reckL (nthLt r.body k).a.l) <;> rfl
def gainsF (r : Rl) (k : Nat) : List ByteArray := bif decide ((nthLt r.body k).op ≥ 7) then withB (nthLt r.body k).x.rv (outerF r k) else litR (nthLt r.body k)
theorem mem_gainsF {r : Rl} (hr : rightR r = true) (k : Nat) (s : ByteArray) : s ∈ gainsF r k ↔ s ∈ gainsV r k := by
  unfold gainsF gainsV
  have hk := lf_nth hr k
  have hk2 := hk
  simp only [lfLt, Bool.and_eq_true] at hk2
  have e : decide ((nthLt r.body k).op ≥ 7) = decide (7 ≤ (nthLt r.body k).op) := rfl
  rw [e]
  cases decide (7 ≤ (nthLt r.body k).op) with
  | true => rw [cond_true, cond_true, mem_withB, outerF_eq hr, Tm.rv_eq _ hk2.1.1, mem_dd, List.mem_append, varsL, varsL, List.append_nil]
  | false => rw [cond_false, cond_false, litR_eq hk, mem_dd]
def firstI (p : Nat → Bool) : Nat → Nat → Int
  | 0, _ => -1
  | n + 1, k => bif p k then (k : Int) else firstI p n (k + 1)
def okF (r : Rl) (done : List Bool) (b : List ByteArray) (atom : Bool) (k : Nat) : Bool := !nthB done k && (decide ((nthLt r.body k).op = 1) == atom) && readyF b r k
def nextG (r : Rl) (done : List Bool) (b : List ByteArray) : Int :=
  bif decide (0 ≤ firstI (okF r done b false) r.body.length 0) then firstI (okF r done b false) r.body.length 0 else firstI (okF r done b true) r.body.length 0
theorem firstI_ge (p : Nat → Bool) : ∀ n k : Nat, firstI p n k = -1 ∨ 0 ≤ firstI p n k
  | 0, _ => .inl rfl
  | n + 1, k => by
    rw [firstI]
    cases p k
    · exact firstI_ge p n (k + 1)
    · right; rw [cond_true]; omega
theorem nextG_aux {r : Rl} (hr : rightR r = true) {done : List Bool} {b c : List ByteArray} (h : ∀ s, s ∈ b ↔ s ∈ c) : ∀ (n k : Nat) (first : Int), (first = -1 ∨ 0 ≤ first) →
    nextF r done c n k first = bif decide (0 ≤ firstI (okF r done b false) n k) then firstI (okF r done b false) n k else bif decide (0 ≤ first) then first else firstI (okF r done b true) n k
  | 0, k, first, hf => by
    rw [nextF, firstI, firstI]
    rcases hf with rfl | hf
    · rfl
    · rw [decide_eq_true hf]; rfl
  | n + 1, k, first, hf => by
    rw [nextF, firstI, firstI]
    have e := readyF_eq h hr k
    unfold okF
    rw [e]
    cases h1 : nthB done k with
    | true =>
      simp only [Bool.true_or, Bool.not_true, Bool.false_and, cond_true, cond_false]
      exact nextG_aux hr h n (k + 1) first hf
    | false =>
      cases h2 : readyB c r k with
      | false =>
        simp only [Bool.not_false, Bool.or_true, Bool.and_false, cond_true, cond_false]
        exact nextG_aux hr h n (k + 1) first hf
      | true =>
        cases h3 : decide ((nthLt r.body k).op = 1) with
        | false =>
          have : decide ((0 : Int) ≤ (k : Int)) = true := decide_eq_true (by omega)
          simp [this]
        | true =>
          simp only [Bool.not_false, Bool.not_true, Bool.or_false, Bool.true_and, Bool.and_true, cond_true, cond_false, beq_self_eq_true, show (true == false) = false from rfl]
          have hk : decide ((0 : Int) ≤ (k : Int)) = true := decide_eq_true (by omega)
          rcases hf with rfl | hf
          · rw [nextG_aux hr h n (k + 1) _ (.inr (show (0 : Int) ≤ (bif decide ((-1 : Int) < 0) then (k : Int) else -1) by show (0 : Int) ≤ (k : Int); omega))]
            show (bif _ then _ else bif decide ((0 : Int) ≤ (k : Int)) then (k : Int) else _) = _
            rw [hk]; rfl
          · have h0 : decide (first < 0) = false := decide_eq_false (by omega)
            rw [h0, cond_false, nextG_aux hr h n (k + 1) first (.inr hf), decide_eq_true hf]; rfl
theorem nextG_eq {r : Rl} (hr : rightR r = true) {b c : List ByteArray} (h : ∀ s, s ∈ b ↔ s ∈ c) (done : List Bool) : nextG r done b = nextI r done c := by
  unfold nextI nextG
  rw [nextG_aux hr h _ _ _ (.inl rfl)]; rfl
def walkG (r : Rl) : Nat → List Bool → List ByteArray → Option (List Nat × List ByteArray)
  | 0, _, b => some ([], b)
  | n + 1, done, b => bif decide (nextG r done b < 0) then none else (walkG r n (done.set (nextG r done b).toNat true) (withB b (gainsF r (nextG r done b).toNat))).map fun x => ((nextG r done b).toNat :: x.1, x.2)
theorem walkG_spec {r : Rl} (hr : rightR r = true) : ∀ (n : Nat) (done : List Bool) (b c : List ByteArray), (∀ s, s ∈ b ↔ s ∈ c) →
    (walkG r n done b = none ∧ (walkL r n done c).length < n) ∨ ∃ d, walkG r n done b = some (walkL r n done c, d) ∧ (walkL r n done c).length = n ∧ ∀ s, s ∈ d ↔ s ∈ c ++ gainsL r (walkL r n done c)
  | 0, done, b, c, h => .inr ⟨b, rfl, rfl, fun s => by simpa [walkL, gainsL] using h s⟩
  | n + 1, done, b, c, h => by
    rw [walkG, walkL, nextG_eq hr h]
    cases h1 : decide (nextI r done c < 0) with
    | true => left; exact ⟨rfl, by simp⟩
    | false =>
      rw [cond_false, cond_false]
      rcases walkG_spec hr n (done.set (nextI r done c).toNat true) (withB b (gainsF r (nextI r done c).toNat)) (c ++ gainsV r (nextI r done c).toNat) (fun s => by
        rw [mem_withB, List.mem_append, h s, mem_gainsF hr]) with ⟨e1, e2⟩ | ⟨d, e1, e2, e3⟩
      · left; rw [e1]; exact ⟨rfl, by simpa using e2⟩
      · right
        refine ⟨d, by rw [e1]; rfl, by simpa using e2, fun s => ?_⟩
        rw [e3 s]
        simp only [gainsL, List.flatMap_cons, List.append_assoc]
theorem walkL_take (r : Rl) : ∀ (n m : Nat) (done : List Bool) (b : List ByteArray), n ≤ m → walkL r n done b = (walkL r m done b).take n
  | 0, _, _, _, _ => by simp [walkL]
  | n + 1, 0, _, _, h => by omega
  | n + 1, m + 1, done, b, h => by
    rw [walkL, walkL]
    cases decide (nextI r done b < 0) with
    | true => simp
    | false => rw [cond_false, cond_false, List.take_succ_cons, walkL_take r n m _ _ (by omega)]
def falsesR (r : Rl) : List Bool := List.replicate r.body.length false
def safeG (r : Rl) : Bool := match walkG r r.body.length (falsesR r) [] with | some x => hasB x.2 (atomR r.head) | none => false
theorem safeG_eq {r : Rl} (hr : rightR r = true) : safeG r = safeR r := by
  unfold safeG safeR walkR falsesR
  rcases walkG_spec hr r.body.length (List.replicate r.body.length false) [] [] (fun _ => Iff.rfl) with ⟨e1, e2⟩ | ⟨d, e1, e2, e3⟩
  · rw [e1, decide_eq_false (by omega)]; rfl
  · rw [e1, decide_eq_true (by omega), Bool.true_and]
    exact hasB_same (fun s => by simpa using e3 s) fun s => by rw [atomR_eq (lf_rule hr).1, mem_dd]
theorem walkG_full {r : Rl} (hr : rightR r = true) (hs : safeR r = true) {n : Nat} (hn : n ≤ r.body.length) : ∃ d, walkG r n (falsesR r) [] = some ((walkR r).take n, d) ∧ ∀ s, s ∈ d ↔ s ∈ gainsL r ((walkR r).take n) := by
  have hw : (walkR r).length = r.body.length := by
    simp only [safeR, Bool.and_eq_true, decide_eq_true_eq] at hs
    have := walkR_len r
    omega
  have ht : walkL r n (falsesR r) [] = (walkR r).take n := walkL_take r n r.body.length _ _ hn
  rcases walkG_spec hr n (falsesR r) [] [] (fun _ => Iff.rfl) with ⟨_, e2⟩ | ⟨d, e1, _, e3⟩
  · rw [ht, List.length_take] at e2; omega
  · rw [ht] at e1 e3
    exact ⟨d, e1, fun s => by simpa using e3 s⟩
theorem boundV_G {r : Rl} {k : Nat} {d : List ByteArray} (h : ∀ s, s ∈ d ↔ s ∈ gainsL r ((walkR r).take k)) : (varsF r).filter (fun v => d.contains v) = boundV r k := by
  unfold boundV
  rw [varsF_eq]
  congr 1; funext v
  exact contains_eq h v
def invF (r : Rl) (b : List ByteArray) (k : Nat) : Bool :=
  decide ((nthLt r.body k).op ≥ 7) || decide ((nthLt r.body k).op = 3) && (bindsF b (nthLt r.body k).x (nthLt r.body k).y && decide ((nthLt r.body k).y.op ≥ 5) || bindsF b (nthLt r.body k).y (nthLt r.body k).x && decide ((nthLt r.body k).x.op ≥ 5))
theorem invF_eq {r : Rl} (hr : rightR r = true) {b c : List ByteArray} (h : ∀ s, s ∈ b ↔ s ∈ c) (k : Nat) : invF r b k = invB r c k := by
  unfold invF invB
  have hk := lf_nth hr k
  simp only [lfLt, Bool.and_eq_true] at hk
  rw [bindsF_eq h hk.1.2, bindsF_eq h hk.1.1, Bool.or_comm]
def invW (r : Rl) : List Nat → Nat → Bool
  | [], _ => false
  | k :: l, i => invB r (gainsL r ((walkR r).take i)) k || invW r l (i + 1)
theorem invW_eq (r : Rl) : ∀ (n i : Nat) (done : List Bool) (b : List ByteArray), walkL r n done b = (walkR r).drop i → b = gainsL r ((walkR r).take i) → invL r n done b = invW r ((walkR r).drop i) i
  | 0, i, done, b, h, _ => by rw [walkL] at h; rw [← h]; rfl
  | n + 1, i, done, b, h, hb => by
    rw [walkL] at h
    rw [invL]
    cases h1 : decide (nextI r done b < 0) with
    | true => rw [h1, cond_true] at h; rw [← h]; rfl
    | false =>
      rw [h1, cond_false] at h
      rw [cond_false, ← h, invW, ← hb]
      have hi : i < (walkR r).length := by
        rcases Nat.lt_or_ge i (walkR r).length with h2 | h2
        · exact h2
        · rw [List.drop_eq_nil_of_le h2] at h; cases h
      rw [List.drop_eq_getElem_cons hi] at h
      obtain ⟨h3, h4⟩ := List.cons.inj h
      rw [h4, invW_eq r n (i + 1) _ _ h4]
      rw [List.take_succ_eq_append_getElem hi, ← h3, hb]
      simp [gainsL, List.flatMap_append]
theorem invR_eq (r : Rl) : invR r = invW r (walkR r) 0 := invW_eq r r.body.length 0 _ _ rfl rfl
end Go.Rl
namespace Go.Rl
open Go Go.Dn
def digitB (c : Int) : Bool := decide (48 ≤ c) && decide (c ≤ 57)
def nameB (s : ByteArray) : Nat → Nat → Bool
  | 0, _ => true
  | n + 1, i => (letter (byteAt s i) || (!decide (i = 0) && digitB (byteAt s i))) && nameB s n (i + 1)
theorem byteAt_get {s : ByteArray} {p : Nat} (h : p < s.size) : byteAt s p = (s.get! p).toNat := by
  have e : s[p]? = some s[p] := getElem?_pos s p h
  unfold byteAt
  rw [e]
  have : s.get! p = s[p] := by
    obtain ⟨⟨l⟩⟩ := s
    show Array.get!Internal ⟨l⟩ p = _
    rw [Array.get!Internal_eq_getElem!, getElem!_pos _ p h]; rfl
  rw [this]
theorem dec_lo {s : ByteArray} {p : Nat} (h : (s.get! p).toNat < 128) : Utf8.decode s p = ((s.get! p).toNat, 1) := by
  unfold Utf8.decode
  simp [h]
theorem dec_hi {s : ByteArray} {p : Nat} (h : ¬ (s.get! p).toNat < 128) : 128 ≤ (Utf8.decode s p).1 := by
  unfold Utf8.decode
  dsimp only
  simp only [Nat.add_zero, if_neg h]
  repeat' split
  all_goals simp only [Utf8.runeError, ge_iff_le, decide_eq_true_eq, Bool.and_eq_true] at *
  all_goals omega
theorem letter_hi {c : Int} (h : 128 ≤ c) : letter c = false := by
  unfold letter
  rw [decide_eq_false (show ¬ c ≤ 122 by omega), decide_eq_false (show ¬ c ≤ 90 by omega), decide_eq_false (show ¬ c = 95 by omega)]
  simp
theorem nameB_eq (s : ByteArray) : ∀ n i : Nat, i + n = s.size → nameB s n i = nameAt s i
  | 0, i, h => by rw [nameB, nameAt, dif_neg (by omega)]
  | n + 1, i, h => by
    rw [nameB, nameAt, dif_pos (by omega), byteAt_get (by omega)]
    by_cases hb : (s.get! i).toNat < 128
    · rw [dec_lo hb, nameB_eq s n (i + 1) (by omega)]
      congr 2
      unfold digitB
      generalize ((s.get! i).toNat : Int) = c
      rw [Bool.eq_iff_iff]
      simp only [Bool.and_eq_true, Bool.not_eq_true', decide_eq_true_eq, decide_eq_false_iff_not, Bool.or_eq_false_iff]
      omega
    · have h1 := dec_hi hb
      rw [letter_hi (c := ((Utf8.decode s i).1 : Int)) (by omega), letter_hi (c := ((s.get! i).toNat : Int)) (by omega), decide_eq_true (show (57 : Int) < ((Utf8.decode s i).1 : Int) by omega)]
      unfold digitB
      rw [decide_eq_false (show ¬ ((s.get! i).toNat : Int) ≤ 57 by omega)]
      simp
def isNameB (s : ByteArray) : Bool := (!(decide ((s.size : Int) < 1) || decide ((s.size : Int) > 40) || eqS s (ByteArray.mk #[95]))) && nameB s s.size 0
theorem isNameB_eq (s : ByteArray) : isNameB s = isName s := by
  unfold isNameB isName
  rw [nameB_eq s s.size 0 (by omega)]
  congr 2
  have e : decide ((s.size : Int) < 1) = eqS s (ByteArray.mk #[]) := by
    unfold eqS
    obtain ⟨⟨l⟩⟩ := s
    rw [ByteArray.toList_eq, ByteArray.toList_eq]
    cases l with
    | nil => rfl
    | cons a l =>
      rw [decide_eq_false (by show ¬ (((a :: l).length : Nat) : Int) < 1; simp only [List.length_cons]; omega)]
      rfl
  have e2 : decide ((s.size : Int) > 40) = decide ((40 : Int) < s.size) := rfl
  rw [e, e2]
  cases eqS s (ByteArray.mk #[]) <;> cases decide ((40 : Int) < s.size) <;> cases eqS s (ByteArray.mk #[95]) <;> rfl
end Go.Rl
namespace Go.Proofs.YtpgahkbkfflkaaaGreatDoor
open Go Go.Dn Go.Rl Go.Proofs
attribute [local irreducible] funA vc
set_option maxRecDepth 20000
def gR1 : List AV → Option (Bool × AV)
  | [.lit (.int .u8 c)] => some (true, .bool (letter c))
  | _ => none
def gR2 : List AV → Option (Bool × AV)
  | [.lit (.int .u8 c)] => some (true, .bool (digitB c))
  | _ => none
theorem boolE {b c : Bool} (h : b = c) : AV.bool b = .lit (.bool c) := by rw [h]
theorem eqI (a b : Int) : (a == b) = decide (a = b) := by by_cases h : a = b <;> simp [h]
theorem yR1 (κ : Kp) (c : Int) (K : AV → List Dn.Obj → Prop) : (funA (E11 κ) 12 88 [.lit (.int .u8 c)] [] K) = (
  brn (decide (c ≥ (97 : Int))) (brn (decide (c ≤ (122 : Int))) (K (AV.bool true) []) (brn (decide (c ≥ (65 : Int))) (brn (decide (c ≤ (90 : Int))) (K (AV.bool
  true) []) (K (AV.bool (c == (95 : Int))) [])) (K (AV.bool (c == (95 : Int))) []))) (brn (decide (c ≥ (65 : Int))) (brn (decide (c ≤ (90 : Int))) (K (AV.bool
  true) []) (K (AV.bool (c == (95 : Int))) [])) (K (AV.bool (c == (95 : Int))) []))) := by kernel_rfl
theorem pR1 (κ : Kp) : PureOk (E11 κ) 12 88 gR1 := by
  intro args x h
  unfold gR1 at h
  split at h
  · simp only [Option.some.injEq, Prod.mk.injEq, true_and] at h
    subst h
    refine ⟨_, rfl, rfl, ?_⟩
    rw [yR1]
    simp only [brn_iff, decide_eq_true_eq, decide_eq_false_iff_not, eqI]
    unfold letter
    repeat' (first | apply And.intro | intro _)
    all_goals (refine boolE ?_; rw [Bool.eq_iff_iff]; simp only [Bool.or_eq_true, Bool.and_eq_true, decide_eq_true_eq, Bool.false_eq_true, ge_iff_le, true_iff, false_iff]; omega)
  · cases h
noncomputable def ERa (κ : Kp) : Env := (E11 κ).addPure 88 gR1
theorem eRa (κ : Kp) : EnvOK (ERa κ) := (e11 κ).addPure (m11 κ) (pR1 κ)
theorem mRa (κ : Kp) : EnvMono (ERa κ) := (m11 κ).addPure
theorem yR2 (κ : Kp) (c : Int) (K : AV → List Dn.Obj → Prop) : (funA (ERa κ) 12 89 [.lit (.int .u8 c)] [] K) = (
  brn (decide (c ≥ (48 : Int))) (K (AV.bool (decide (c ≤ (57 : Int)))) []) (K (AV.bool false) [])) := by kernel_rfl
theorem pR2 (κ : Kp) : PureOk (ERa κ) 12 89 gR2 := by
  intro args x h
  unfold gR2 at h
  split at h
  · simp only [Option.some.injEq, Prod.mk.injEq, true_and] at h
    subst h
    refine ⟨_, rfl, rfl, ?_⟩
    rw [yR2]
    simp only [brn_iff, decide_eq_true_eq, decide_eq_false_iff_not]
    unfold digitB
    repeat' (first | apply And.intro | intro _)
    all_goals (refine boolE ?_; rw [Bool.eq_iff_iff]; simp only [Bool.and_eq_true, decide_eq_true_eq, Bool.false_eq_true, ge_iff_le, true_iff, false_iff]; omega)
  · cases h
noncomputable def ERb (κ : Kp) : Env := (ERa κ).addPure 89 gR2
theorem eRb (κ : Kp) : EnvOK (ERb κ) := (eRa κ).addPure (mRa κ) (pR2 κ)
theorem mRb (κ : Kp) : EnvMono (ERb κ) := (mRa κ).addPure
theorem yR3 (κ : Kp) (op : Int) (K : AV → List Dn.Obj → Prop) : (funA (ERb κ) 12 49 [.int op] [] K) = (
  brn (op == (5 : Int)) (K (AV.bool true) []) (brn (op == (6 : Int)) (K (AV.bool true) []) (K (AV.bool (op == (7 : Int))) []))) := by kernel_rfl
theorem pR3 (κ : Kp) : PureOk (ERb κ) 12 49 g48 := by
  intro args x h
  unfold g48 at h
  split at h
  · rename_i op
    simp only [Option.some.injEq, Prod.mk.injEq, true_and] at h
    subst h
    refine ⟨_, rfl, rfl, ?_⟩
    rw [yR3]
    unfold isTwo
    by_cases h1 : op = 5 <;> by_cases h2 : op = 6 <;> by_cases h3 : op = 7 <;> simp [brn_iff, h1, h2, h3] <;> omega
  · cases h
noncomputable def ERc (κ : Kp) : Env := (ERb κ).addPure 49 g48
theorem eRc (κ : Kp) : EnvOK (ERc κ) := (eRb κ).addPure (mRb κ) (pR3 κ)
theorem mRc (κ : Kp) : EnvMono (ERc κ) := (mRb κ).addPure
theorem yR4 (κ : Kp) (op : Int) (s : ByteArray) (n : Int) (l : List AV) (K : AV → List Dn.Obj → Prop) : (funA (ERc κ) 12 76 [.agg [.int op, .lit (.string s), .int n, .lst 43 l]] [] K) = (
  brn (op == (0 : Int)) (brn (ByteArray.toList s == ByteArray.toList { data := #[] }) (brn (n == (0 : Int)) (K (AV.bool ((↑(List.length l) : Int) == (0 : Int)))
  []) (K (AV.bool false) [])) (K (AV.bool false) [])) (K (AV.bool false) [])) := by kernel_rfl
theorem pR4 (κ : Kp) : PureOk (ERc κ) 12 76 g60 := by
  intro args x h
  unfold g60 at h
  split at h
  · rename_i op s n l
    simp only [Option.some.injEq, Prod.mk.injEq, true_and] at h
    subst h
    refine ⟨_, rfl, rfl, ?_⟩
    rw [yR4]
    rw [len0]
    unfold bare eqS
    cases h5 : (ByteArray.toList s == ByteArray.toList (ByteArray.mk #[])) <;> by_cases h0 : op = 0 <;> by_cases h1 : n = 0 <;> simp [brn_iff, h0, h1] <;> first | rfl | skip
  · cases h
noncomputable def ERd (κ : Kp) : Env := (ERc κ).addPure 76 g60
theorem eRd (κ : Kp) : EnvOK (ERd κ) := (eRc κ).addPure (mRc κ) (pR4 κ)
theorem mRd (κ : Kp) : EnvMono (ERd κ) := (mRc κ).addPure
theorem yR5 (κ : Kp) (s : ByteArray) (l : List AV) (K : AV → List Dn.Obj → Prop) : (funA (ERd κ) 12 77 [.agg [.lit (.string s), .lst 43 l]] [] K) = (
  brn (ByteArray.toList s == ByteArray.toList { data := #[] }) (K (AV.bool ((↑(List.length l) : Int) == (0 : Int))) []) (K (AV.bool false) [])) := by kernel_rfl
theorem pR5 (κ : Kp) : PureOk (ERd κ) 12 77 g61 := by
  intro args x h
  unfold g61 at h
  split at h
  · rename_i s l
    simp only [Option.some.injEq, Prod.mk.injEq, true_and] at h
    subst h
    refine ⟨_, rfl, rfl, ?_⟩
    rw [yR5]
    unfold eqS
    rw [len0]
    cases h5 : (ByteArray.toList s == ByteArray.toList (ByteArray.mk #[])) <;> simp [brn_iff] <;> first | rfl | skip
  · cases h
noncomputable def ER1 (κ : Kp) : Env := (ERd κ).addPure 77 g61
theorem eR1 (κ : Kp) : EnvOK (ER1 κ) := (eRd κ).addPure (mRd κ) (pR5 κ)
theorem mR1 (κ : Kp) : EnvMono (ER1 κ) := (mRd κ).addPure
theorem xR6 (κ : Kp) (s : ByteArray) (i : Int) (I : Nat → S → Prop) (n : Nat) (K : Exit → S → Prop) : (vc (ER1 κ) 12 74 none 0 (loopCode (Pr κ).toProgram 74 4) (sp 42 [(0, .lit (.string s)), (3, .int i)] []) (loopK (ER1 κ) 74 4 0 I n K)) = (
  brn (decide (i < (↑(ByteArray.size s) : Int))) (cnd (decide ((0 : Int) ≤ i) && decide (i < (↑(ByteArray.size s) : Int))) (cnd (decide ((0 : Int) ≤ i) && decide
  (i < (↑(ByteArray.size s) : Int))) (brn (!letter (↑(byteAt s (Int.toNat i)) : Int)) (brn (i == (0 : Int)) (K Exit.ret (sp 42 [(2, AV.bool false)] [])) (brn
  (!digitB (↑(byteAt s (Int.toNat i)) : Int)) (K Exit.ret (sp 42 [(2, AV.bool false)] [])) (∃ (m : Nat), m < n ∧ I m (sp 42 [(0, AV.str s), (3, AV.int
  (IntKind.wrap IntKind.i64 (i + (1 : Int))))] [])))) (∃ (m : Nat), m < n ∧ I m (sp 42 [(0, AV.str s), (3, AV.int (IntKind.wrap IntKind.i64 (i + (1 : Int))))]
  []))))) (K (Exit.exit 0) (sp 42 [] []))) := by kernel_rfl
abbrev stR6 (a : ByteArray × Int) : S := sp 42 [(0, .lit (.string a.1)), (3, .int a.2)] []
def sideR6 (a : ByteArray × Int) : Prop := a.1.size ≤ maxI ∧ 0 ≤ a.2 ∧ a.2 ≤ a.1.size
def outR6 (a : ByteArray × Int) : Out (Exit × S) := .brn (nameB a.1 (a.1.size - a.2.toNat) a.2.toNat) (.one (.exit 0, sp 42 [] [])) (.one (.ret, sp 42 [(2, .bool false)] []))
theorem lR6 (κ : Kp) : LoopOk (ER1 κ) 12 74 4 (loopE 0 stR6 sideR6 outR6) := by
  refine loopE_ok (fun a => a.1.size - a.2.toNat) ?_
  rintro ⟨s, i⟩ K ⟨h1, h2, h3⟩ ho
  simp only at h1 h2 h3
  rw [show (ER1 κ).P = Pr κ from rfl]
  refine Eq.mpr (xR6 κ s i _ _ K) ?_
  simp only [maxI] at h1
  simp only [outR6, Out.run, brn_iff] at ho
  simp only [brn_iff, cnd_iff, decide_eq_true_eq, decide_eq_false_iff_not, Bool.and_eq_true, eqI, Bool.not_eq_true', Bool.not_eq_false']
  refine ⟨fun hi => ?_, fun hi => ?_⟩
  · obtain ⟨m, hm⟩ : ∃ m, s.size - i.toNat = m + 1 := ⟨s.size - i.toNat - 1, by omega⟩
    rw [hm, nameB] at ho
    rw [wrap_ok (n := i + 1) (by omega) (by omega)]
    have go : (letter (byteAt s i.toNat) || (!decide (i.toNat = 0) && digitB (byteAt s i.toNat))) = true → ∃ m, m < s.size - i.toNat ∧ invOf stR6 sideR6 outR6 (fun a => a.1.size - a.2.toNat) K m (stR6 (s, i + 1)) := fun e => by
      refine ⟨_, ?_, (s, i + 1), rfl, ⟨by simpa [maxI] using h1, by simp only; omega, by simp only; omega⟩, rfl, ?_⟩
      · simp only; omega
      · rw [e, Bool.true_and] at ho
        simp only [outR6, Out.run, brn_iff, show (i + 1).toNat = i.toNat + 1 by omega, show s.size - (i.toNat + 1) = m by omega]
        exact ho
    have no : (letter (byteAt s i.toNat) || (!decide (i.toNat = 0) && digitB (byteAt s i.toNat))) = false → K .ret (sp 42 [(2, .bool false)] []) := fun e => by
      rw [e, Bool.false_and] at ho
      exact ho.2 rfl
    refine ⟨⟨h2, hi⟩, ⟨h2, hi⟩, fun e1 => ⟨fun e2 => no ?_, fun e2 => ⟨fun e3 => no ?_, fun e3 => go ?_⟩⟩, fun e1 => go ?_⟩
    · rw [e1, decide_eq_true (show i.toNat = 0 by omega)]; rfl
    · rw [e1, e3]; simp
    · rw [e1, e3, decide_eq_false (show ¬ i.toNat = 0 by omega)]; rfl
    · rw [e1]; rfl
  · rw [show s.size - i.toNat = 0 by omega] at ho
    exact ho.1 rfl
noncomputable def ER6l (κ : Kp) : Env := (ER1 κ).addLoop 74 4 (loopE 0 stR6 sideR6 outR6)
theorem eR6l (κ : Kp) : EnvOK (ER6l κ) := (eR1 κ).addLoop (mR1 κ) (lR6 κ)
theorem mR6l (κ : Kp) : EnvMono (ER6l κ) := (mR1 κ).addLoop loopE_mono
theorem yR6 (κ : Kp) (s : ByteArray) (K : AV → List Dn.Obj → Prop) : (funA (ER6l κ) 12 74 [.lit (.string s)] [] K) = (
  brn (decide ((↑(ByteArray.size s) : Int) < (1 : Int))) (K (AV.bool false) []) (brn (decide ((↑(ByteArray.size s) : Int) > (40 : Int))) (K (AV.bool false) [])
  (brn (ByteArray.toList s == ByteArray.toList { data := #[OfNat.ofNat 95] }) (K (AV.bool false) []) (loopCode (Pg.toProgram (Env.P (ER1 κ))) 74 4 = loopCode
  (Pg.toProgram (Env.P (ER1 κ))) 74 4 ∧ ∃ (a : ByteArray × Int), sp 42 [(0, AV.str s), (3, AV.int 0)] [] = sp 42 [(0, AV.str (Prod.fst a)), (3, AV.int (Prod.snd
  a))] [] ∧ (ByteArray.size (Prod.fst a) ≤ 9223372036854775807 ∧ (0 : Int) ≤ Prod.snd a ∧ Prod.snd a ≤ (↑(ByteArray.size (Prod.fst a)) : Int)) ∧ brn (nameB
  (Prod.fst a) (ByteArray.size (Prod.fst a) - Int.toNat (Prod.snd a)) (Int.toNat (Prod.snd a))) (K (AV.bool true) []) (K (AV.bool false) []))))) := by kernel_rfl
theorem pR6 (κ : Kp) : PureOk (ER6l κ) 12 74 g57 := by
  intro args x h
  unfold g57 at h
  split at h
  · rename_i s
    simp only [Option.some.injEq, Prod.mk.injEq, true_and] at h
    subst h
    refine ⟨_, rfl, rfl, ?_⟩
    rw [yR6]
    rw [← isNameB_eq]
    unfold isNameB eqS
    simp only [brn_iff, decide_eq_true_eq, decide_eq_false_iff_not]
    refine ⟨fun h1 => by rw [decide_eq_true h1]; rfl, fun h1 => ⟨fun h2 => by rw [decide_eq_true h2, decide_eq_false h1]; rfl, fun h2 => ⟨fun h3 => ?_, fun h3 => ⟨trivial, ⟨s, 0⟩, rfl, ⟨by simp only [maxI]; omega, by simp only; omega, by simp only; omega⟩, ?_⟩⟩⟩⟩
    · rw [h3, decide_eq_false h1, decide_eq_false h2]; rfl
    · rw [h3, decide_eq_false h1, decide_eq_false h2]
      simp only [Int.toNat_zero, Nat.sub_zero]
      exact ⟨fun h4 => by rw [h4]; rfl, fun h4 => by rw [h4]; rfl⟩
  · cases h
noncomputable def ER6 (κ : Kp) : Env := (ER6l κ).addPure 74 g57
theorem eR6 (κ : Kp) : EnvOK (ER6 κ) := (eR6l κ).addPure (mR6l κ) (pR6 κ)
theorem mR6 (κ : Kp) : EnvMono (ER6 κ) := (mR6l κ).addPure
theorem yR7 (κ : Kp) (op : Int) (s : ByteArray) (n : Int) (l : List AV) (K : AV → List Dn.Obj → Prop) : (funA (ER6 κ) 12 90 [.agg [.int op, .lit (.string s), .int n, .lst 43 l]] [] K) = (
  brn (op == (1 : Int)) (brn (isName s) (brn (n == (0 : Int)) (K (AV.bool ((↑(List.length l) : Int) == (0 : Int))) []) (K (AV.bool false) [])) (K (AV.bool false)
  [])) (brn (op == (2 : Int)) (brn (ByteArray.toList s == ByteArray.toList { data := #[] }) (K (AV.bool ((↑(List.length l) : Int) == (0 : Int))) []) (K (AV.bool
  false) [])) (brn (op == (3 : Int)) (brn (n == (0 : Int)) (K (AV.bool ((↑(List.length l) : Int) == (0 : Int))) []) (K (AV.bool false) [])) (brn (op == (4 :
  Int)) (brn (ByteArray.toList s == ByteArray.toList { data := #[] }) (brn (n == (0 : Int)) (K (AV.bool ((↑(List.length l) : Int) == (0 : Int))) []) (K (AV.bool
  false) [])) (K (AV.bool false) [])) (K (AV.bool false) []))))) := by kernel_rfl
def leafB (op : Int) (s : ByteArray) (n : Int) (k : Nat) : Bool := bif decide (op = 0) then false else bare op s n && decide (k = 0)
def gR7 : List AV → Option (Bool × AV)
  | [.agg [.lit (.int .i64 op), .lit (.string s), .lit (.int .i64 n), .lst 43 l]] => some (true, .bool (leafB op s n l.length))
  | _ => none
theorem len0' (l : List AV) : ((l.length : Int) == 0) = decide (l.length = 0) := by
  rw [len0]
  by_cases h : l.length = 0
  · rw [decide_eq_true h, decide_eq_true (by omega)]
  · rw [decide_eq_false h, decide_eq_false (by omega)]
theorem pR7 (κ : Kp) : PureOk (ER6 κ) 12 90 gR7 := by
  intro args x h
  unfold gR7 at h
  split at h
  · rename_i op s n l
    simp only [Option.some.injEq, Prod.mk.injEq, true_and] at h
    subst h
    refine ⟨_, rfl, rfl, ?_⟩
    rw [yR7]
    simp only [len0']
    simp only [eqI]
    unfold leafB bare eqS
    generalize (ByteArray.toList s == ByteArray.toList (ByteArray.mk #[])) = z
    generalize isName s = y
    generalize decide (n = 0) = w
    generalize decide (l.length = 0) = v
    by_cases h1 : op = 1
    · subst h1; cases y <;> cases w <;> cases v <;> rfl
    by_cases h2 : op = 2
    · subst h2; cases z <;> cases v <;> rfl
    by_cases h3 : op = 3
    · subst h3; cases w <;> cases v <;> rfl
    by_cases h4 : op = 4
    · subst h4; cases z <;> cases w <;> cases v <;> rfl
    rw [decide_eq_false h1, decide_eq_false h2, decide_eq_false h3, decide_eq_false h4]
    cases decide (op = 0) <;> rfl
  · cases h
noncomputable def ER7 (κ : Kp) : Env := (ER6 κ).addPure 90 gR7
theorem eR7 (κ : Kp) : EnvOK (ER7 κ) := (eR6 κ).addPure (mR6 κ) (pR7 κ)
theorem mR7 (κ : Kp) : EnvMono (ER7 κ) := (mR6 κ).addPure
end Go.Proofs.YtpgahkbkfflkaaaGreatDoor
namespace Go.Proofs.YtpgahkbkfflkaaaGreatDoor
open Go Go.Dn Go.Rl Go.Proofs
attribute [local irreducible] funA vc
set_option maxRecDepth 20000
def gR8 : List AV → Option (Bool × AV)
  | [.agg [.lit (.int .i64 op), .lit (.string s), .lit (.int .i64 n), .lst 43 l], .lit (.int .i64 h)] => some (decide (0 ≤ h) && decide (h ≤ 1000), .bool (rightT h.toNat (.mk op s n (tmsOf l))))
  | _ => none
noncomputable def ER8p (κ : Kp) (n : Nat) : Env := (ER7 κ).addPure 75 (below gR8 μ58 n)
theorem xR8 (κ : Kp) (r : Nat) (op : Int) (s : ByteArray) (m : Int) (h : Int) (l : List AV) (i : Int) (I : Nat → S → Prop) (n : Nat) (K : Exit → S → Prop) : (vc (ER8p κ r) 12 75 none 0 (loopCode (Pr κ).toProgram 75 8) (sp 59 [(1, .int h), (2, .ptr 0 0 [] 0), (5, .int i)] [.box 43 (.agg [.int op, .lit (.string s), .int m, .lst 43 l])]) (loopK (ER8p κ r) 75 8 0 I n K)) = (
  brn (decide (i < (2 : Int))) (cnd (decide ((0 : Int) ≤ i) && decide (i < (↑(List.length l) : Int))) (brn (toInt (fld (nth l (Int.toNat i)) 0) == (3 : Int)) (K
  Exit.ret (sp 59 [(4, AV.bool false)] [])) (cnd (decide ((0 : Int) ≤ i) && decide (i < (↑(List.length l) : Int))) (brn (toInt (fld (nth l (Int.toNat i)) 0) ==
  (4 : Int)) (K Exit.ret (sp 59 [(4, AV.bool false)] [])) (cnd (decide ((0 : Int) ≤ i) && decide (i < (↑(List.length l) : Int))) (cnd (decide ((0 : Int) ≤
  IntKind.wrap IntKind.i64 (h - (1 : Int))) && decide (IntKind.wrap IntKind.i64 (h - (1 : Int)) ≤ (1000 : Int)) && Nat.blt (μ58 [AV.agg [AV.int (toInt (fld (nth
  l (Int.toNat i)) 0)), AV.str (toStr (fld (nth l (Int.toNat i)) 1)), AV.int (toInt (fld (nth l (Int.toNat i)) 2)), AV.lst 43 (toLst (fld (nth l (Int.toNat i))
  3))], AV.int (IntKind.wrap IntKind.i64 (h - (1 : Int)))]) r) (brn (!rightT (Int.toNat (IntKind.wrap IntKind.i64 (h - (1 : Int)))) (Tm.mk (toInt (fld (nth l
  (Int.toNat i)) 0)) (toStr (fld (nth l (Int.toNat i)) 1)) (toInt (fld (nth l (Int.toNat i)) 2)) (tmsOf (toLst (fld (nth l (Int.toNat i)) 3))))) (K Exit.ret (sp
  59 [(4, AV.bool false)] [])) (∃ (m_1 : Nat), m_1 < n ∧ I m_1 (sp 59 [(1, AV.int h), (2, AV.ptr 0 0 [] 0), (5, AV.int (IntKind.wrap IntKind.i64 (i + (1 :
  Int))))] [Obj.box 43 (AV.agg [AV.int op, AV.str s, AV.int m, AV.lst 43 l])]))))))))) (K (Exit.exit 0) (sp 59 [] []))) := by kernel_rfl
structure AR8 where
  op : Int
  s : ByteArray
  m : Int
  h : Int
  l : List AV
  i : Int
abbrev stR8 (a : AR8) : S := sp 59 [(1, .int a.h), (2, .ptr 0 0 [] 0), (5, .int a.i)] [.box 43 (.agg [.int a.op, .lit (.string a.s), .int a.m, .lst 43 a.l])]
def sideR8 (r : Nat) (a : AR8) : Prop := 1 ≤ a.h ∧ a.h ≤ 1000 ∧ a.h.toNat ≤ r ∧ a.l.length = 2 ∧ 0 ≤ a.i ∧ a.i ≤ 2
def outR8 (a : AR8) : Out (Exit × S) :=
  .brn (rightLs (a.h - 1).toNat (tmsOf (a.l.drop a.i.toNat))) (.one (.exit 0, sp 59 [] [])) (.one (.ret, sp 59 [(4, .bool false)] []))
theorem lR8 (κ : Kp) (r : Nat) : LoopOk (ER8p κ r) 12 75 8 (loopE 0 stR8 (sideR8 r) outR8) := by
  refine loopE_ok (fun a => 2 - a.i.toNat) ?_
  rintro ⟨op, s, m, h, l, i⟩ K ⟨h1, h2, h3, h4, h5, h6⟩ ho
  simp only at h1 h2 h3 h4 h5 h6
  rw [show (ER8p κ r).P = Pr κ from rfl]
  refine Eq.mpr (xR8 κ r op s m h l i _ _ K) ?_
  simp only [outR8, Out.run, brn_iff] at ho
  simp only [← tmOf_eq]
  simp only [brn_iff, cnd_iff, decide_eq_true_eq, decide_eq_false_iff_not, Bool.and_eq_true, beq_iff_eq, beq_eq_false_iff_ne, Bool.not_eq_true', Bool.not_eq_false', μ58, Nat.blt_eq]
  refine ⟨fun hi => ?_, fun hi => ho.1 ?_⟩
  · have e := tms_drop l i.toNat (by omega)
    rw [e] at ho
    have hop : (tmOf (nth l i.toNat)).op = toInt (fld (nth l i.toNat) 0) := by rw [tmOf_eq]; rfl
    simp only [rightLs, List.all_cons, hop] at ho
    rw [wrap_ok (n := h - 1) (by omega) (by omega)]
    refine ⟨⟨h5, by omega⟩, fun ha => ho.2 (by simp [ha]), fun ha => ⟨⟨h5, by omega⟩, fun hb => ho.2 (by simp [hb]), fun hb => ⟨⟨h5, by omega⟩, ⟨⟨by omega, by omega⟩, by omega⟩, fun hc => ?_, fun hc => ?_⟩⟩⟩
    · exact ho.2 (by rw [hc]; simp)
    · rw [wrap_ok (n := i + 1) (by omega) (by omega)]
      refine ⟨_, ?_, ⟨op, s, m, h, l, i + 1⟩, rfl, ⟨h1, h2, h3, h4, by simp only; omega, by simp only; omega⟩, rfl, ?_⟩
      · simp only; omega
      · rw [hc] at ho
        simp only [outR8, Out.run, brn_iff, rightLs]
        rw [show (i + 1).toNat = i.toNat + 1 by omega]
        simpa [ha, hb] using ho
  · rw [List.drop_eq_nil_of_le (by omega)]; rfl
noncomputable def ER8r (κ : Kp) (r : Nat) : Env := (ER8p κ r).addLoop 75 8 (loopE 0 stR8 (sideR8 r) outR8)
theorem yR8 (κ : Kp) (r : Nat) (op : Int) (s : ByteArray) (n : Int) (l : List AV) (h : Int) (K : AV → List Dn.Obj → Prop) : (funA (ER8r κ r) 12 75 [.agg [.int op, .lit (.string s), .int n, .lst 43 l], .int h] [] K) = (
  brn (decide (h < (1 : Int))) (K (AV.bool false) []) (brn (!isTwo op) (K (AV.bool (leafB op s n (List.length l))) []) (brn (!ByteArray.toList s ==
  ByteArray.toList { data := #[] }) (K (AV.bool false) []) (brn (n != (0 : Int)) (K (AV.bool false) []) (brn ((↑(List.length l) : Int) != (2 : Int)) (K (AV.bool
  false) []) (loopCode (Pg.toProgram (Env.P (ER8p κ r))) 75 8 = loopCode (Pg.toProgram (Env.P (ER8p κ r))) 75 8 ∧ ∃ (a : AR8), sp 59 [(1, AV.int h), (2, AV.ptr 0
  0 [] 0), (5, AV.int 0)] [Obj.box 43 (AV.agg [AV.int op, AV.str s, AV.int n, AV.lst 43 l])] = sp 59 [(1, AV.int (AR8.h a)), (2, AV.ptr 0 0 [] 0), (5, AV.int
  (AR8.i a))] [Obj.box 43 (AV.agg [AV.int (AR8.op a), AV.str (AR8.s a), AV.int (AR8.m a), AV.lst 43 (AR8.l a)])] ∧ ((1 : Int) ≤ AR8.h a ∧ AR8.h a ≤ (1000 : Int)
  ∧ Int.toNat (AR8.h a) ≤ r ∧ List.length (AR8.l a) = 2 ∧ (0 : Int) ≤ AR8.i a ∧ AR8.i a ≤ (2 : Int)) ∧ brn (rightLs (Int.toNat (AR8.h a - (1 : Int))) (tmsOf
  (List.drop (Int.toNat (AR8.i a)) (AR8.l a)))) (K (AV.bool true) []) (K (AV.bool false) []))))))) := by kernel_rfl
theorem eR8r (κ : Kp) (r : Nat) (hp : PureSim (Pr κ) 75 (below gR8 μ58 r)) : EnvOK (ER8r κ r) ∧ EnvMono (ER8r κ r) ∧ (ER8r κ r).P = Pr κ :=
  have h : EnvOK (ER8p κ r) := (eR7 κ).addPureSim hp
  have hm : EnvMono (ER8p κ r) := (mR7 κ).addPure
  ⟨h.addLoop hm (lR8 κ r), hm.addLoop loopE_mono, rfl⟩
theorem pR8 (κ : Kp) (r : Nat) : PureOk (ER8r κ r) 12 75 (fun xs => bif Nat.beq (μ58 xs) r then gR8 xs else none) := by
  intro args x hh
  cases hb : Nat.beq (μ58 args) r with
  | false => simp only [hb] at hh; cases hh
  | true =>
    simp only [hb, cond_true] at hh
    unfold gR8 at hh
    split at hh
    · rename_i op s n l h
      simp only [Option.some.injEq, Prod.mk.injEq, Bool.and_eq_true, decide_eq_true_eq] at hh
      obtain ⟨⟨h1, h2⟩, rfl⟩ := hh
      have hr : h.toNat = r := Nat.eq_of_beq_eq_true hb
      refine ⟨_, rfl, rfl, ?_⟩
      refine Eq.mpr (yR8 κ r op s n l h _) ?_
      by_cases h0 : h = 0
      · subst h0; rfl
      · obtain ⟨m, hm⟩ : ∃ m, h.toNat = m + 1 := ⟨h.toNat - 1, by omega⟩
        rw [hm, rightT_mk, tms_len]
        unfold eqS
        generalize (ByteArray.toList s == ByteArray.toList (ByteArray.mk #[])) = z
        simp only [brn_iff, beq_iff_eq, beq_eq_false_iff_ne, Bool.not_eq_true', Bool.not_eq_false', decide_eq_true_eq, decide_eq_false_iff_not, bne_iff_ne, bne_eq_false_iff_eq]
        refine ⟨fun e => absurd e (by omega), fun _ => ⟨fun e2 => boolE ?_, fun e2 => ?_⟩⟩
        · rw [e2]; unfold leafB; rfl
        · have h5 : decide (op = 0) = false := by
            rw [decide_eq_false_iff_not]; intro h; subst h; revert e2; decide
          rw [e2, h5, cond_false, cond_true]
          refine ⟨fun e3 => boolE (by rw [e3]; rfl), fun e3 => ⟨fun e4 => boolE (by rw [e3, decide_eq_false e4]; rfl), fun e4 => ⟨fun e5 => boolE ?_, fun e5 => ?_⟩⟩⟩
          · rw [decide_eq_false (show ¬ l.length = 2 by omega)]; simp
          · refine ⟨trivial, ⟨op, s, n, h, l, 0⟩, rfl, ⟨by simp only; omega, h2, by simp only; omega, by simp only; omega, by simp only; omega, by simp only; omega⟩, ?_⟩
            rw [e3, decide_eq_true e4, decide_eq_true (show l.length = 2 by omega)]
            simp only [show (h - 1).toNat = m by omega, Int.toNat_zero, List.drop_zero, Bool.true_and]
            exact ⟨fun e => by rw [e], fun e => by rw [e]⟩
    · cases hh
theorem qR8 (κ : Kp) : PureSim (Pr κ) 75 gR8 := EnvOK.addPureRec gR8 μ58 (ER8r κ) (eR8r κ) (pR8 κ)
noncomputable def ER8 (κ : Kp) : Env := (ER7 κ).addPure 75 gR8
theorem eR8 (κ : Kp) : EnvOK (ER8 κ) := (eR7 κ).addPureSim (qR8 κ)
theorem mR8 (κ : Kp) : EnvMono (ER8 κ) := (mR7 κ).addPure
end Go.Proofs.YtpgahkbkfflkaaaGreatDoor
namespace Go.Proofs.YtpgahkbkfflkaaaGreatDoor
open Go Go.Dn Go.Rl Go.Proofs
attribute [local irreducible] funA vc
set_option maxRecDepth 20000
theorem xRA (κ : Kp) (rel : ByteArray) (l : List AV) (i : Int) (I : Nat → S → Prop) (n : Nat) (K : Exit → S → Prop) : (vc (ER8 κ) 12 48 none 0 (loopCode (Pr κ).toProgram 48 5) (sp 38 [(1, .ptr 0 0 [] 0), (4, .int i)] [.box 24 (.agg [.lit (.string rel), .lst 43 l])]) (loopK (ER8 κ) 48 5 0 I n K)) = (
  brn (decide (i < (↑(List.length l) : Int))) (cnd (decide ((0 : Int) ≤ i) && decide (i < (↑(List.length l) : Int))) (brn (!rightT 20 (Tm.mk (toInt (fld (nth l
  (Int.toNat i)) 0)) (toStr (fld (nth l (Int.toNat i)) 1)) (toInt (fld (nth l (Int.toNat i)) 2)) (tmsOf (toLst (fld (nth l (Int.toNat i)) 3))))) (K Exit.ret (sp
  38 [(2, AV.bool false)] [])) (∃ (m : Nat), m < n ∧ I m (sp 38 [(1, AV.ptr 0 0 [] 0), (4, AV.int (IntKind.wrap IntKind.i64 (i + (1 : Int))))] [Obj.box 24
  (AV.agg [AV.str rel, AV.lst 43 l])])))) (K (Exit.exit 0) (sp 38 [] []))) := by kernel_rfl
abbrev stRA (a : ByteArray × List AV × Int) : S := sp 38 [(1, .ptr 0 0 [] 0), (4, .int a.2.2)] [.box 24 (.agg [.lit (.string a.1), .lst 43 a.2.1])]
def sideRA (a : ByteArray × List AV × Int) : Prop := a.2.1.length ≤ maxI ∧ 0 ≤ a.2.2 ∧ a.2.2 ≤ a.2.1.length
def outRA (a : ByteArray × List AV × Int) : Out (Exit × S) := .brn ((tmsOf (a.2.1.drop a.2.2.toNat)).all (rightT 20)) (.one (.exit 0, sp 38 [] [])) (.one (.ret, sp 38 [(2, .bool false)] []))
theorem lRA (κ : Kp) : LoopOk (ER8 κ) 12 48 5 (loopE 0 stRA sideRA outRA) := by
  refine loopE_ok (fun a => a.2.1.length - a.2.2.toNat) ?_
  rintro ⟨rel, l, i⟩ K ⟨h1, h2, h3⟩ ho
  simp only at h1 h2 h3
  rw [show (ER8 κ).P = Pr κ from rfl]
  refine Eq.mpr (xRA κ rel l i _ _ K) ?_
  simp only [maxI] at h1
  simp only [outRA, Out.run, brn_iff] at ho
  simp only [← tmOf_eq]
  simp only [brn_iff, cnd_iff, decide_eq_true_eq, decide_eq_false_iff_not, Bool.and_eq_true, Bool.not_eq_true', Bool.not_eq_false']
  refine ⟨fun hi => ?_, fun hi => ?_⟩
  · rw [tms_drop l i.toNat (by omega), List.all_cons] at ho
    rw [wrap_ok (n := i + 1) (by omega) (by omega)]
    refine ⟨⟨h2, hi⟩, fun e => ?_, fun e => ?_⟩
    · exact ho.2 (by rw [show rightT 20 (tmOf (nth l i.toNat)) = false from e]; rfl)
    · rw [show rightT 20 (tmOf (nth l i.toNat)) = true from e, Bool.true_and] at ho
      refine ⟨_, ?_, (rel, l, i + 1), rfl, ⟨by simpa [maxI] using h1, by simp only; omega, by simp only; omega⟩, rfl, ?_⟩
      · simp only; omega
      · simp only [outRA, Out.run, brn_iff, show (i + 1).toNat = i.toNat + 1 by omega]
        exact ho
  · rw [List.drop_eq_nil_of_le (by omega)] at ho
    exact ho.1 rfl
noncomputable def ERAl (κ : Kp) : Env := (ER8 κ).addLoop 48 5 (loopE 0 stRA sideRA outRA)
theorem eRAl (κ : Kp) : EnvOK (ERAl κ) := (eR8 κ).addLoop (mR8 κ) (lRA κ)
theorem mRAl (κ : Kp) : EnvMono (ERAl κ) := (mR8 κ).addLoop loopE_mono
theorem yRA (κ : Kp) (rel : ByteArray) (l : List AV) (K : AV → List Dn.Obj → Prop) : (funA (ERAl κ) 12 48 [.agg [.lit (.string rel), .lst 43 l]] [] K) = (
  brn (!isName rel) (K (AV.bool false) []) (brn (decide ((↑(List.length l) : Int) < (1 : Int))) (K (AV.bool false) []) (brn (decide ((↑(List.length l) : Int) > (8
  : Int))) (K (AV.bool false) []) (loopCode (Pg.toProgram (Env.P (ER8 κ))) 48 5 = loopCode (Pg.toProgram (Env.P (ER8 κ))) 48 5 ∧ ∃ (a : ByteArray × List AV ×
  Int), sp 38 [(1, AV.ptr 0 0 [] 0), (4, AV.int 0)] [Obj.box 24 (AV.agg [AV.str rel, AV.lst 43 l])] = sp 38 [(1, AV.ptr 0 0 [] 0), (4, AV.int (Prod.snd (Prod.snd
  a)))] [Obj.box 24 (AV.agg [AV.str (Prod.fst a), AV.lst 43 (Prod.fst (Prod.snd a))])] ∧ (List.length (Prod.fst (Prod.snd a)) ≤ 9223372036854775807 ∧ (0 : Int) ≤
  Prod.snd (Prod.snd a) ∧ Prod.snd (Prod.snd a) ≤ (↑(List.length (Prod.fst (Prod.snd a))) : Int)) ∧ brn (List.all (tmsOf (List.drop (Int.toNat (Prod.snd
  (Prod.snd a))) (Prod.fst (Prod.snd a)))) (rightT 20)) (K (AV.bool true) []) (K (AV.bool false) []))))) := by kernel_rfl
def gRA : List AV → Option (Bool × AV)
  | [.agg [.lit (.string rel), .lst 43 l]] => some (decide (l.length ≤ maxI), .bool (rightA ⟨rel, tmsOf l⟩))
  | _ => none
theorem pRA (κ : Kp) : PureOk (ERAl κ) 12 48 gRA := by
  intro args x hh
  unfold gRA at hh
  split at hh
  · rename_i rel l
    simp only [Option.some.injEq, Prod.mk.injEq, decide_eq_true_eq] at hh
    obtain ⟨h1, rfl⟩ := hh
    refine ⟨_, rfl, rfl, ?_⟩
    refine Eq.mpr (yRA κ rel l _) ?_
    unfold rightA
    simp only [tms_len]
    simp only [brn_iff, decide_eq_true_eq, decide_eq_false_iff_not, Bool.not_eq_true', Bool.not_eq_false']
    refine ⟨fun e => boolE (by rw [e]; rfl), fun e => ⟨fun e2 => boolE ?_, fun e2 => ⟨fun e3 => boolE ?_, fun e3 => ⟨trivial, (rel, l, 0), rfl, ⟨h1, by simp only; omega, by simp only; omega⟩, ?_⟩⟩⟩⟩
    · rw [decide_eq_true (show l.length = 0 by omega)]; simp
    · rw [decide_eq_false (show ¬ l.length ≤ 8 by omega)]; simp
    · rw [e, decide_eq_false (show ¬ l.length = 0 by omega), decide_eq_true (show l.length ≤ 8 by omega)]
      simp only [Int.toNat_zero, List.drop_zero, Bool.not_false, Bool.true_and]
      exact ⟨fun e4 => boolE e4.symm, fun e4 => boolE e4.symm⟩
  · cases hh
noncomputable def ERA (κ : Kp) : Env := (ERAl κ).addPure 48 gRA
theorem eRA (κ : Kp) : EnvOK (ERA κ) := (eRAl κ).addPure (mRAl κ) (pRA κ)
theorem mRA (κ : Kp) : EnvMono (ERA κ) := (mRAl κ).addPure
theorem yRL (κ : Kp) (op : Int) (rel : ByteArray) (l : List AV) (o1 : Int) (s1 : ByteArray) (n1 : Int) (l1 : List AV) (o2 : Int) (s2 : ByteArray) (n2 : Int) (l2 : List AV) (K : AV → List Dn.Obj → Prop) : (funA (ERA κ) 12 50 [.agg [.int op, .agg [.lit (.string rel), .lst 43 l], .agg [.int o1, .lit (.string s1), .int n1, .lst 43 l1], .agg [.int o2, .lit (.string s2), .int n2, .lst 43 l2]]] [] K) = (
  cnd (decide (List.length l ≤ 9223372036854775807)) (brn (op == (1 : Int)) (brn (rightA { rel := rel, l := tmsOf l }) (brn (decide (o1 = (0 : Int)) && bare o1 s1
  n1 && decide ((↑(List.length l1) : Int) = (0 : Int))) (K (AV.lit (Value.bool (decide (o2 = (0 : Int)) && bare o2 s2 n2 && decide ((↑(List.length l2) : Int) =
  (0 : Int))))) []) (K (AV.bool false) [])) (K (AV.bool false) [])) (brn (op == (2 : Int)) (brn (rightA { rel := rel, l := tmsOf l }) (brn (decide (o1 = (0 :
  Int)) && bare o1 s1 n1 && decide ((↑(List.length l1) : Int) = (0 : Int))) (K (AV.lit (Value.bool (decide (o2 = (0 : Int)) && bare o2 s2 n2 && decide
  ((↑(List.length l2) : Int) = (0 : Int))))) []) (K (AV.bool false) [])) (K (AV.bool false) [])) (brn (op == (3 : Int)) (brn (eqS rel { data := #[] } && decide
  ((↑(List.length l) : Int) = (0 : Int))) (brn (rightT 20 (Tm.mk o1 s1 n1 (tmsOf l1))) (brn (rightT 20 (Tm.mk o2 s2 n2 (tmsOf l2))) (brn (o1 != (4 : Int)) (K
  (AV.bool (o2 != (4 : Int))) []) (K (AV.bool false) [])) (K (AV.bool false) [])) (K (AV.bool false) [])) (K (AV.bool false) [])) (brn (op == (4 : Int)) (brn
  (eqS rel { data := #[] } && decide ((↑(List.length l) : Int) = (0 : Int))) (brn (rightT 20 (Tm.mk o1 s1 n1 (tmsOf l1))) (brn (rightT 20 (Tm.mk o2 s2 n2 (tmsOf
  l2))) (brn (o1 != (4 : Int)) (K (AV.bool (o2 != (4 : Int))) []) (K (AV.bool false) [])) (K (AV.bool false) [])) (K (AV.bool false) [])) (K (AV.bool false) []))
  (brn (op == (5 : Int)) (brn (eqS rel { data := #[] } && decide ((↑(List.length l) : Int) = (0 : Int))) (brn (rightT 20 (Tm.mk o1 s1 n1 (tmsOf l1))) (brn
  (rightT 20 (Tm.mk o2 s2 n2 (tmsOf l2))) (brn (o1 != (4 : Int)) (K (AV.bool (o2 != (4 : Int))) []) (K (AV.bool false) [])) (K (AV.bool false) [])) (K (AV.bool
  false) [])) (K (AV.bool false) [])) (brn (op == (6 : Int)) (brn (eqS rel { data := #[] } && decide ((↑(List.length l) : Int) = (0 : Int))) (brn (rightT 20
  (Tm.mk o1 s1 n1 (tmsOf l1))) (brn (rightT 20 (Tm.mk o2 s2 n2 (tmsOf l2))) (brn (o1 != (4 : Int)) (K (AV.bool (o2 != (4 : Int))) []) (K (AV.bool false) [])) (K
  (AV.bool false) [])) (K (AV.bool false) [])) (K (AV.bool false) [])) (brn (op == (7 : Int)) (brn (rightA { rel := rel, l := tmsOf l }) (brn (rightT 20 (Tm.mk
  o1 s1 n1 (tmsOf l1))) (brn (o1 == (1 : Int)) (K (AV.lit (Value.bool (decide (o2 = (0 : Int)) && bare o2 s2 n2 && decide ((↑(List.length l2) : Int) = (0 :
  Int))))) []) (brn (o1 == (2 : Int)) (K (AV.lit (Value.bool (decide (o2 = (0 : Int)) && bare o2 s2 n2 && decide ((↑(List.length l2) : Int) = (0 : Int))))) [])
  (K (AV.bool false) []))) (K (AV.bool false) [])) (K (AV.bool false) [])) (brn (op == (8 : Int)) (brn (rightA { rel := rel, l := tmsOf l }) (brn (rightT 20
  (Tm.mk o1 s1 n1 (tmsOf l1))) (brn (o1 == (1 : Int)) (brn (rightT 20 (Tm.mk o2 s2 n2 (tmsOf l2))) (K (AV.bool (o2 == (1 : Int))) []) (K (AV.bool false) []))
  (brn (o1 == (2 : Int)) (brn (rightT 20 (Tm.mk o2 s2 n2 (tmsOf l2))) (K (AV.bool (o2 == (1 : Int))) []) (K (AV.bool false) [])) (K (AV.bool false) []))) (K
  (AV.bool false) [])) (K (AV.bool false) [])) (brn (op == (9 : Int)) (brn (rightA { rel := rel, l := tmsOf l }) (brn (rightT 20 (Tm.mk o1 s1 n1 (tmsOf l1)))
  (brn (o1 == (1 : Int)) (brn (rightT 20 (Tm.mk o2 s2 n2 (tmsOf l2))) (K (AV.bool (o2 == (1 : Int))) []) (K (AV.bool false) [])) (brn (o1 == (2 : Int)) (brn
  (rightT 20 (Tm.mk o2 s2 n2 (tmsOf l2))) (K (AV.bool (o2 == (1 : Int))) []) (K (AV.bool false) [])) (K (AV.bool false) []))) (K (AV.bool false) [])) (K (AV.bool
  false) [])) (brn (op == (10 : Int)) (brn (rightA { rel := rel, l := tmsOf l }) (brn (rightT 20 (Tm.mk o1 s1 n1 (tmsOf l1))) (brn (o1 == (1 : Int)) (brn (rightT
  20 (Tm.mk o2 s2 n2 (tmsOf l2))) (K (AV.bool (o2 == (1 : Int))) []) (K (AV.bool false) [])) (brn (o1 == (2 : Int)) (brn (rightT 20 (Tm.mk o2 s2 n2 (tmsOf l2)))
  (K (AV.bool (o2 == (1 : Int))) []) (K (AV.bool false) [])) (K (AV.bool false) []))) (K (AV.bool false) [])) (K (AV.bool false) [])) (K (AV.bool false)
  [])))))))))))) := by kernel_rfl
def gRL : List AV → Option (Bool × AV)
  | [.agg [.lit (.int .i64 op), .agg [.lit (.string rel), .lst 43 l], .agg [.lit (.int .i64 o1), .lit (.string s1), .lit (.int .i64 n1), .lst 43 l1], .agg [.lit (.int .i64 o2), .lit (.string s2), .lit (.int .i64 n2), .lst 43 l2]]] =>
    some (decide (l.length ≤ maxI), .bool (rightL ⟨op, ⟨rel, tmsOf l⟩, .mk o1 s1 n1 (tmsOf l1), .mk o2 s2 n2 (tmsOf l2)⟩))
  | _ => none
theorem bneI (a b : Int) : (a != b) = !decide (a = b) := by by_cases h : a = b <;> simp [h]
theorem pRL (κ : Kp) : PureOk (ERA κ) 12 50 gRL := by
  intro args x hh
  unfold gRL at hh
  split at hh
  · rename_i op rel l o1 s1 n1 l1 o2 s2 n2 l2
    simp only [Option.some.injEq, Prod.mk.injEq, decide_eq_true_eq] at hh
    obtain ⟨h1, rfl⟩ := hh
    refine ⟨_, rfl, rfl, ?_⟩
    refine Eq.mpr (yRL κ op rel l o1 s1 n1 l1 o2 s2 n2 l2 _) ?_
    rw [rightL_mk, noT_mk, noT_mk, noA_mk, cnd_iff, decide_eq_true_eq]
    refine ⟨h1, ?_⟩
    simp only [eqI, bneI]
    rw [show isX (.mk o1 s1 n1 (tmsOf l1)) = (decide (o1 = 1) || decide (o1 = 2)) from rfl]
    generalize rightA ⟨rel, tmsOf l⟩ = A
    generalize rightT 20 (.mk o1 s1 n1 (tmsOf l1)) = X
    generalize rightT 20 (.mk o2 s2 n2 (tmsOf l2)) = Y
    generalize (decide (o1 = 0) && bare o1 s1 n1 && decide ((l1.length : Int) = 0)) = nx
    generalize (decide (o2 = 0) && bare o2 s2 n2 && decide ((l2.length : Int) = 0)) = ny
    generalize (eqS rel (ByteArray.mk #[]) && decide ((l.length : Int) = 0)) = na
    generalize decide (o1 = 4) = a4
    generalize decide (o2 = 4) = b4
    generalize decide (o1 = 1) = a1
    generalize decide (o1 = 2) = a2
    generalize decide (o2 = 1) = b1
    by_cases e1 : op = 1
    · subst e1; cases A <;> cases nx <;> rfl
    by_cases e2 : op = 2
    · subst e2; cases A <;> cases nx <;> rfl
    by_cases e3 : op = 3
    · subst e3; cases na <;> cases X <;> cases Y <;> cases a4 <;> cases b4 <;> rfl
    by_cases e4 : op = 4
    · subst e4; cases na <;> cases X <;> cases Y <;> cases a4 <;> cases b4 <;> rfl
    by_cases e5 : op = 5
    · subst e5; cases na <;> cases X <;> cases Y <;> cases a4 <;> cases b4 <;> rfl
    by_cases e6 : op = 6
    · subst e6; cases na <;> cases X <;> cases Y <;> cases a4 <;> cases b4 <;> rfl
    by_cases e7 : op = 7
    · subst e7; cases A <;> cases X <;> cases a1 <;> cases a2 <;> cases ny <;> rfl
    by_cases e8 : op = 8
    · subst e8; cases A <;> cases X <;> cases Y <;> cases a1 <;> cases a2 <;> cases b1 <;> rfl
    by_cases e9 : op = 9
    · subst e9; cases A <;> cases X <;> cases Y <;> cases a1 <;> cases a2 <;> cases b1 <;> rfl
    by_cases e10 : op = 10
    · subst e10; cases A <;> cases X <;> cases Y <;> cases a1 <;> cases a2 <;> cases b1 <;> rfl
    rw [decide_eq_false e1, decide_eq_false e2, decide_eq_false e3, decide_eq_false e4, decide_eq_false e5, decide_eq_false e6, decide_eq_false e7, decide_eq_false e8, decide_eq_false e9, decide_eq_false e10]
    rfl
  · cases hh
noncomputable def ERL (κ : Kp) : Env := (ERA κ).addPure 50 gRL
theorem eRL (κ : Kp) : EnvOK (ERL κ) := (eRA κ).addPure (mRA κ) (pRL κ)
theorem mRL (κ : Kp) : EnvMono (ERL κ) := (mRA κ).addPure
abbrev AP := A45 × Int
theorem xRh (κ : Kp) (a : AP) (I : Nat → S → Prop) (n : Nat) (K : Exit → S → Prop) : (vc (ERL κ) 12 23 none 0 (loopCode (Pr κ).toProgram 23 5) (sp 65 [(1, .ptr 0 0 [] 0), (4, .int a.2)] [.box 27 (rl45 a.1)]) (loopK (ERL κ) 23 5 0 I n K)) = (
  brn (decide (Prod.snd a < (↑(List.length (A45.hl (Prod.fst a))) : Int))) (cnd (decide ((0 : Int) ≤ Prod.snd a) && decide (Prod.snd a < (↑(List.length (A45.hl
  (Prod.fst a))) : Int))) (brn (toInt (fld (nth (A45.hl (Prod.fst a)) (Int.toNat (Prod.snd a))) 0) == (4 : Int)) (K Exit.ret (sp 65 [(2, AV.bool false)] []))
  (brn (isTwo (toInt (fld (nth (A45.hl (Prod.fst a)) (Int.toNat (Prod.snd a))) 0))) (K Exit.ret (sp 65 [(2, AV.bool false)] [])) (brn (toInt (fld (nth (A45.hl
  (Prod.fst a)) (Int.toNat (Prod.snd a))) 0) == (1 : Int)) (brn ((↑(List.length (A45.bl (Prod.fst a))) : Int) == (0 : Int)) (K Exit.ret (sp 65 [(2, AV.bool
  false)] [])) (∃ (m : Nat), m < n ∧ I m (sp 65 [(1, AV.ptr 0 0 [] 0), (4, AV.int (IntKind.wrap IntKind.i64 (Prod.snd a + (1 : Int))))] [Obj.box 27 (AV.agg
  [AV.agg [AV.str (A45.rel (Prod.fst a)), AV.lst 43 (A45.hl (Prod.fst a))], AV.lst 46 (A45.bl (Prod.fst a)), AV.int (A45.line (Prod.fst a))])]))) (∃ (m : Nat), m
  < n ∧ I m (sp 65 [(1, AV.ptr 0 0 [] 0), (4, AV.int (IntKind.wrap IntKind.i64 (Prod.snd a + (1 : Int))))] [Obj.box 27 (AV.agg [AV.agg [AV.str (A45.rel (Prod.fst
  a)), AV.lst 43 (A45.hl (Prod.fst a))], AV.lst 46 (A45.bl (Prod.fst a)), AV.int (A45.line (Prod.fst a))])])))))) (K (Exit.exit 0) (sp 65 [(1, AV.ptr 0 0 [] 0)]
  [Obj.box 27 (AV.agg [AV.agg [AV.str (A45.rel (Prod.fst a)), AV.lst 43 (A45.hl (Prod.fst a))], AV.lst 46 (A45.bl (Prod.fst a)), AV.int (A45.line (Prod.fst
  a))])]))) := by kernel_rfl
abbrev stRh (a : AP) : S := sp 65 [(1, .ptr 0 0 [] 0), (4, .int a.2)] [.box 27 (rl45 a.1)]
def sideRh (a : AP) : Prop := a.1.hl.length ≤ maxI ∧ 0 ≤ a.2 ∧ a.2 ≤ a.1.hl.length
def outRh (a : AP) : Out (Exit × S) := .brn ((tmsOf (a.1.hl.drop a.2.toNat)).all (headOk a.1.bl.length)) (.one (.exit 0, sp 65 [(1, .ptr 0 0 [] 0)] [.box 27 (rl45 a.1)])) (.one (.ret, sp 65 [(2, .bool false)] []))
theorem lRh (κ : Kp) : LoopOk (ERL κ) 12 23 5 (loopE 0 stRh sideRh outRh) := by
  refine loopE_ok (fun a => a.1.hl.length - a.2.toNat) ?_
  rintro ⟨a, i⟩ K ⟨h1, h2, h3⟩ ho
  simp only at h1 h2 h3
  rw [show (ERL κ).P = Pr κ from rfl]
  refine Eq.mpr (xRh κ (a, i) _ _ K) ?_
  simp only [maxI] at h1
  simp only [outRh, Out.run, brn_iff] at ho
  simp only [brn_iff, cnd_iff, decide_eq_true_eq, decide_eq_false_iff_not, Bool.and_eq_true, beq_iff_eq, beq_eq_false_iff_ne]
  refine ⟨fun hi => ?_, fun hi => ?_⟩
  · have hop : (tmOf (nth a.hl i.toNat)).op = toInt (fld (nth a.hl i.toNat) 0) := by rw [tmOf_eq]; rfl
    rw [tms_drop a.hl i.toNat (by omega), List.all_cons, headOk, hop] at ho
    rw [wrap_ok (n := i + 1) (by omega) (by omega)]
    generalize toInt (fld (nth a.hl i.toNat) 0) = op at *
    have go : (!decide (op = 4) && !isTwo op && (!decide (op = 1) || decide (0 < a.bl.length))) = true → ∃ m, m < a.hl.length - i.toNat ∧ invOf stRh sideRh outRh (fun a => a.1.hl.length - a.2.toNat) K m (stRh (a, i + 1)) := fun e => by
      rw [e, Bool.true_and] at ho
      refine ⟨_, ?_, (a, i + 1), rfl, ⟨by simpa [maxI] using h1, by simp only; omega, by simp only; omega⟩, rfl, ?_⟩
      · simp only; omega
      · simp only [outRh, Out.run, brn_iff, show (i + 1).toNat = i.toNat + 1 by omega]
        exact ho
    have no : (!decide (op = 4) && !isTwo op && (!decide (op = 1) || decide (0 < a.bl.length))) = false → K .ret (sp 65 [(2, .bool false)] []) := fun e => by
      rw [e, Bool.false_and] at ho
      exact ho.2 rfl
    refine ⟨⟨h2, hi⟩, fun e1 => no ?_, fun e1 => ⟨fun e2 => no ?_, fun e2 => ⟨fun e3 => ⟨fun e4 => no ?_, fun e4 => go ?_⟩, fun e3 => go ?_⟩⟩⟩
    · rw [decide_eq_true e1]; rfl
    · rw [e2]; simp
    · rw [decide_eq_true e3, decide_eq_false (show ¬ 0 < a.bl.length by omega)]; simp
    · rw [decide_eq_false e1, e2, decide_eq_true (show 0 < a.bl.length by omega)]; simp
    · rw [decide_eq_false e1, e2, decide_eq_false e3]; rfl
  · rw [List.drop_eq_nil_of_le (by omega)] at ho
    exact ho.1 rfl
noncomputable def ERh (κ : Kp) : Env := (ERL κ).addLoop 23 5 (loopE 0 stRh sideRh outRh)
theorem eRh (κ : Kp) : EnvOK (ERh κ) := (eRL κ).addLoop (mRL κ) (lRh κ)
theorem mRh (κ : Kp) : EnvMono (ERh κ) := (mRL κ).addLoop loopE_mono
theorem xRb (κ : Kp) (a : AP) (I : Nat → S → Prop) (n : Nat) (K : Exit → S → Prop) : (vc (ERh κ) 12 23 none 0 (loopCode (Pr κ).toProgram 23 11) (sp 65 [(1, .ptr 0 0 [] 0), (6, .int a.2)] [.box 27 (rl45 a.1)]) (loopK (ERh κ) 23 11 0 I n K)) = (
  brn (decide (Prod.snd a < (↑(List.length (A45.bl (Prod.fst a))) : Int))) (cnd (decide ((0 : Int) ≤ Prod.snd a) && decide (Prod.snd a < (↑(List.length (A45.bl
  (Prod.fst a))) : Int))) (cnd (decide (List.length (toLst (fld (fld (nth (A45.bl (Prod.fst a)) (Int.toNat (Prod.snd a))) 1) 1)) ≤ 9223372036854775807)) (brn
  (!rightL
  { op := toInt (fld (nth (A45.bl (Prod.fst a)) (Int.toNat (Prod.snd a))) 0), a := { rel := toStr (fld (fld (nth (A45.bl (Prod.fst a)) (Int.toNat (Prod.snd a))) 1) 0), l := tmsOf (toLst (fld (fld (nth (A45.bl (Prod.fst a)) (Int.toNat (Prod.snd a))) 1) 1)) }, x := Tm.mk (toInt (fld (fld (nth (A45.bl (Prod.fst a)) (Int.toNat (Prod.snd a))) 2) 0)) (toStr (fld (fld (nth (A45.bl (Prod.fst a)) (Int.toNat (Prod.snd a))) 2) 1)) (toInt (fld (fld (nth (A45.bl (Prod.fst a)) (Int.toNat (Prod.snd a))) 2) 2)) (tmsOf (toLst (fld (fld (nth (A45.bl (Prod.fst a)) (Int.toNat (Prod.snd a))) 2) 3))), y := Tm.mk (toInt (fld (fld (nth (A45.bl (Prod.fst a)) (Int.toNat (Prod.snd a))) 3) 0)) (toStr (fld (fld (nth (A45.bl (Prod.fst a)) (Int.toNat (Prod.snd a))) 3) 1)) (toInt (fld (fld (nth (A45.bl (Prod.fst a)) (Int.toNat (Prod.snd a))) 3) 2)) (tmsOf (toLst (fld (fld (nth (A45.bl (Prod.fst a)) (Int.toNat (Prod.snd a))) 3) 3))) })
  (K Exit.ret (sp 65 [(2, AV.bool false)] [])) (∃ (m : Nat), m < n ∧ I m (sp 65 [(1, AV.ptr 0 0 [] 0), (6, AV.int (IntKind.wrap IntKind.i64 (Prod.snd a + (1 :
  Int))))] [Obj.box 27 (AV.agg [AV.agg [AV.str (A45.rel (Prod.fst a)), AV.lst 43 (A45.hl (Prod.fst a))], AV.lst 46 (A45.bl (Prod.fst a)), AV.int (A45.line
  (Prod.fst a))])]))))) (K (Exit.exit 2) (sp 65 [] []))) := by kernel_rfl
abbrev stRb (a : AP) : S := sp 65 [(1, .ptr 0 0 [] 0), (6, .int a.2)] [.box 27 (rl45 a.1)]
def sideRb (a : AP) : Prop := (a.1.bl.length ≤ maxI ∧ ∀ x, x ∈ a.1.bl → (toLst (fld (fld x 1) 1)).length ≤ maxI) ∧ 0 ≤ a.2 ∧ a.2 ≤ a.1.bl.length
def outRb (a : AP) : Out (Exit × S) := .brn ((ltsOf (a.1.bl.drop a.2.toNat)).all rightL) (.one (.exit 2, sp 65 [] [])) (.one (.ret, sp 65 [(2, .bool false)] []))
theorem lRb (κ : Kp) : LoopOk (ERh κ) 12 23 11 (loopE 0 stRb sideRb outRb) := by
  refine loopE_ok (fun a => a.1.bl.length - a.2.toNat) ?_
  rintro ⟨a, i⟩ K ⟨⟨h1, h4⟩, h2, h3⟩ ho
  simp only at h1 h2 h3 h4
  rw [show (ERh κ).P = Pr κ from rfl]
  refine Eq.mpr (xRb κ (a, i) _ _ K) ?_
  simp only [outRb, Out.run, brn_iff] at ho
  simp only [← lt_eq]
  simp only [brn_iff, cnd_iff, decide_eq_true_eq, decide_eq_false_iff_not, Bool.and_eq_true, Bool.not_eq_true', Bool.not_eq_false']
  refine ⟨fun hi => ?_, fun hi => ?_⟩
  · have hm : nth a.bl i.toNat ∈ a.bl := by rw [nth_get a.bl i.toNat (by omega)]; exact List.getElem_mem _
    have h5 := h4 _ hm
    simp only [maxI] at h1 h5
    rw [lts_drop a.bl i.toNat (by omega), List.all_cons] at ho
    rw [wrap_ok (n := i + 1) (by omega) (by omega)]
    refine ⟨⟨h2, hi⟩, h5, fun e => ?_, fun e => ?_⟩
    · rw [e, Bool.false_and] at ho
      exact ho.2 rfl
    · rw [e, Bool.true_and] at ho
      refine ⟨_, ?_, (a, i + 1), rfl, ⟨⟨by simpa [maxI] using h1, h4⟩, by simp only; omega, by simp only; omega⟩, rfl, ?_⟩
      · simp only; omega
      · simp only [outRb, Out.run, brn_iff, show (i + 1).toNat = i.toNat + 1 by omega]
        exact ho
  · rw [List.drop_eq_nil_of_le (by omega)] at ho
    exact ho.1 rfl
noncomputable def ERb' (κ : Kp) : Env := (ERh κ).addLoop 23 11 (loopE 0 stRb sideRb outRb)
theorem eRb' (κ : Kp) : EnvOK (ERb' κ) := (eRh κ).addLoop (mRh κ) (lRb κ)
theorem mRb' (κ : Kp) : EnvMono (ERb' κ) := (mRh κ).addLoop loopE_mono
theorem yRR (κ : Kp) (a : A45) (K : AV → List Dn.Obj → Prop) : (funA (ERb' κ) 12 23 [rl45 a] [] K) = (
  cnd (decide (List.length (A45.hl a) ≤ 9223372036854775807)) (brn (!rightA { rel := A45.rel a, l := tmsOf (A45.hl a) }) (K (AV.bool false) []) (brn (decide
  ((↑(List.length (A45.bl a)) : Int) > (20 : Int))) (K (AV.bool false) []) (loopCode (Pg.toProgram (Env.P (ERL κ))) 23 5 = loopCode (Pg.toProgram (Env.P (ERL
  κ))) 23 5 ∧ ∃ (a_1 : AP), sp 65 [(1, AV.ptr 0 0 [] 0), (4, AV.int 0)] [Obj.box 27 (AV.agg [AV.agg [AV.str (A45.rel a), AV.lst 43 (A45.hl a)], AV.lst 46 (A45.bl
  a), AV.int (A45.line a)])] = sp 65 [(1, AV.ptr 0 0 [] 0), (4, AV.int (Prod.snd a_1))] [Obj.box 27 (AV.agg [AV.agg [AV.str (A45.rel (Prod.fst a_1)), AV.lst 43
  (A45.hl (Prod.fst a_1))], AV.lst 46 (A45.bl (Prod.fst a_1)), AV.int (A45.line (Prod.fst a_1))])] ∧ (List.length (A45.hl (Prod.fst a_1)) ≤ 9223372036854775807 ∧
  (0 : Int) ≤ Prod.snd a_1 ∧ Prod.snd a_1 ≤ (↑(List.length (A45.hl (Prod.fst a_1))) : Int)) ∧ brn (List.all (tmsOf (List.drop (Int.toNat (Prod.snd a_1)) (A45.hl
  (Prod.fst a_1)))) (headOk (List.length (A45.bl (Prod.fst a_1))))) (loopCode (Pg.toProgram (Env.P (ERh κ))) 23 11 = loopCode (Pg.toProgram (Env.P (ERh κ))) 23
  11 ∧ ∃ (a : AP), sp 65 [(1, AV.ptr 0 0 [] 0), (6, AV.int 0)] [Obj.box 27 (AV.agg [AV.agg [AV.str (A45.rel (Prod.fst a_1)), AV.lst 43 (A45.hl (Prod.fst a_1))],
  AV.lst 46 (A45.bl (Prod.fst a_1)), AV.int (A45.line (Prod.fst a_1))])] = sp 65 [(1, AV.ptr 0 0 [] 0), (6, AV.int (Prod.snd a))] [Obj.box 27 (AV.agg [AV.agg
  [AV.str (A45.rel (Prod.fst a)), AV.lst 43 (A45.hl (Prod.fst a))], AV.lst 46 (A45.bl (Prod.fst a)), AV.int (A45.line (Prod.fst a))])] ∧ ((List.length (A45.bl
  (Prod.fst a)) ≤ 9223372036854775807 ∧ ∀ (x : AV), List.Mem x (A45.bl (Prod.fst a)) → List.length (toLst (fld (fld x 1) 1)) ≤ 9223372036854775807) ∧ (0 : Int) ≤
  Prod.snd a ∧ Prod.snd a ≤ (↑(List.length (A45.bl (Prod.fst a))) : Int)) ∧ brn (List.all (ltsOf (List.drop (Int.toNat (Prod.snd a)) (A45.bl (Prod.fst a))))
  rightL) (K (AV.bool true) []) (K (AV.bool false) [])) (K (AV.bool false) []))))) := by kernel_rfl
def fitL : List AV → Bool
  | [] => true
  | x :: l => decide ((toLst (fld (fld x 1) 1)).length ≤ maxI) && fitL l
theorem fitL_iff : ∀ {l : List AV}, fitL l = true ↔ ∀ x, x ∈ l → (toLst (fld (fld x 1) 1)).length ≤ maxI
  | [] => by simp [fitL]
  | x :: l => by simp [fitL, fitL_iff (l := l)]
def gRR : List AV → Option (Bool × AV)
  | [.agg [.agg [.lit (.string rel), .lst 43 hl], .lst 46 bl, .lit (.int .i64 _)]] => some ((decide (hl.length ≤ maxI) && decide (bl.length ≤ maxI)) && fitL bl, .bool (rightR ⟨⟨rel, tmsOf hl⟩, ltsOf bl⟩))
  | _ => none
theorem pRR (κ : Kp) : PureOk (ERb' κ) 12 23 gRR := by
  intro args x hh
  unfold gRR at hh
  split at hh
  · rename_i rel hl bl line
    simp only [Option.some.injEq, Prod.mk.injEq, Bool.and_eq_true, decide_eq_true_eq] at hh
    obtain ⟨⟨⟨h1, h2⟩, h3⟩, rfl⟩ := hh
    refine ⟨_, rfl, rfl, ?_⟩
    refine Eq.mpr (yRR κ ⟨[], [], rel, hl, bl, line, 0⟩ _) ?_
    unfold rightR
    simp only [lts_len]
    simp only [brn_iff, cnd_iff, decide_eq_true_eq, decide_eq_false_iff_not, Bool.not_eq_true', Bool.not_eq_false']
    refine ⟨h1, fun e => boolE (by rw [e]; rfl), fun e => ⟨fun e2 => boolE ?_, fun e2 => ⟨trivial, (⟨[], [], rel, hl, bl, line, 0⟩, 0), rfl, ⟨h1, by simp only; omega, by simp only; omega⟩, ?_⟩⟩⟩
    · rw [decide_eq_false (show ¬ bl.length ≤ 20 by omega)]; simp
    · rw [e, decide_eq_true (show bl.length ≤ 20 by omega)]
      simp only [Int.toNat_zero, List.drop_zero, Bool.true_and]
      refine ⟨fun e3 => ⟨trivial, (⟨[], [], rel, hl, bl, line, 0⟩, 0), rfl, ⟨⟨h2, fitL_iff.1 h3⟩, by simp only; omega, by simp only; omega⟩, ?_⟩, fun e3 => boolE (by rw [e3]; rfl)⟩
      rw [e3]
      simp only [Int.toNat_zero, List.drop_zero, Bool.true_and]
      exact ⟨fun e4 => boolE e4.symm, fun e4 => boolE e4.symm⟩
  · cases hh
noncomputable def ERR (κ : Kp) : Env := (ERb' κ).addPure 23 gRR
theorem eRR (κ : Kp) : EnvOK (ERR κ) := (eRb' κ).addPure (mRb' κ) (pRR κ)
theorem mRR (κ : Kp) : EnvMono (ERR κ) := (mRb' κ).addPure
end Go.Proofs.YtpgahkbkfflkaaaGreatDoor
namespace Go.Proofs.YtpgahkbkfflkaaaGreatDoor
open Go Go.Dn Go.Rl Go.Proofs
attribute [local irreducible] funA vc
set_option maxRecDepth 20000
abbrev AW := List ByteArray × List ByteArray × Int
abbrev stW (a : AW) : S := sp 36 [(1, .lst 9 (strs a.1)), (5, .slc 0 0 (strs a.2.1).length), (6, .int a.2.2)] [.row 9 (strs a.2.1)]
def sideW (a : AW) : Prop := a.1.length ≤ 1000000 ∧ 0 ≤ a.2.2 ∧ a.2.2 ≤ a.1.length ∧ a.2.1.length + (a.1.length - a.2.2.toNat) ≤ 2000000
def outW (a : AW) : Out (Exit × S) := .one (.exit 0, sp 36 [(5, .slc 0 0 (strs (withB a.2.1 (a.1.drop a.2.2.toNat))).length)] [.row 9 (strs (withB a.2.1 (a.1.drop a.2.2.toNat)))])
theorem xW (κ : Kp) (m o : List AV) (i : Int) (I : Nat → S → Prop) (n : Nat) (K : Exit → S → Prop) : (vc (ERR κ) 12 54 none 0 (loopCode (Pr κ).toProgram 54 3) (sp 36 [(1, .lst 9 m), (5, .slc 0 0 o.length), (6, .int i)] [.row 9 o]) (loopK (ERR κ) 54 3 0 I n K)) = (
  brn (decide (i < (↑(List.length m) : Int))) (cnd (decide ((0 : Int) ≤ i) && decide (i < (↑(List.length m) : Int))) (cnd (decide (List.length (List.take
  (List.length o) (List.drop 0 o)) ≤ 9223372036854775807)) (brn (decide (placeS (toStr (nth m (Int.toNat i))) (List.take (List.length o) (List.drop 0 o)) (0 :
  Int) < (0 : Int))) (cnd (decide ((0 : Int) ≤ i) && decide (i < (↑(List.length m) : Int))) (cnd (decide ((List.length o + 1 + 1) * 17 ≤ 70368744177664)) (∃ (m_1
  : Nat), m_1 < n ∧ I m_1 (sp 36 [(1, AV.lst 9 m), (5, AV.slc 0 0 (List.length o + 1)), (6, AV.int (IntKind.wrap IntKind.i64 (i + (1 : Int))))] [Obj.row 9
  (List.take (List.length o) o ++ [AV.str (toStr (nth m (Int.toNat i)))])])))) (∃ (m_1 : Nat), m_1 < n ∧ I m_1 (sp 36 [(1, AV.lst 9 m), (5, AV.slc 0 0
  (List.length o)), (6, AV.int (IntKind.wrap IntKind.i64 (i + (1 : Int))))] [Obj.row 9 o]))))) (K (Exit.exit 0) (sp 36 [(5, AV.slc 0 0 (List.length o))] [Obj.row
  9 o]))) := by kernel_rfl
theorem addB_len (o : List ByteArray) (s : ByteArray) : (addB o s).length ≤ o.length + 1 := by
  unfold addB; cases o.contains s <;> simp
theorem lW (κ : Kp) : LoopOk (ERR κ) 12 54 3 (loopE 0 stW sideW outW) := by
  refine loopE_ok (fun a => a.1.length - a.2.2.toNat) ?_
  rintro ⟨m, o, i⟩ K ⟨h1, h2, h3, h4⟩ ho
  simp only at h1 h2 h3 h4
  rw [show (ERR κ).P = Pr κ from rfl]
  refine Eq.mpr (xW κ (strs m) (strs o) i _ _ K) ?_
  simp only [outW, Out.run] at ho
  simp only [List.drop_zero, List.take_length]
  simp only [brn_iff, cnd_iff, decide_eq_true_eq, decide_eq_false_iff_not, Bool.and_eq_true]
  simp only [strs_len] at ho ⊢
  refine ⟨fun hi => ⟨⟨h2, hi⟩, by omega, ?_⟩, fun hi => ?_⟩
  · have hk : i.toNat < m.length := by omega
    rw [strs_nth m _ hk]
    have hc := placeS_ge m[i.toNat] o 0 (by omega)
    have go : ∃ k, k < m.length - i.toNat ∧ invOf stW sideW outW (fun a => a.1.length - a.2.2.toNat) K k (stW (m, addB o m[i.toNat], i + 1)) := by
      have hl := addB_len o m[i.toNat]
      rw [List.drop_eq_getElem_cons hk, withB_cons] at ho
      refine ⟨_, ?_, (m, addB o m[i.toNat], i + 1), rfl, ⟨h1, by simp only; omega, by simp only; omega, by simp only; omega⟩, rfl, ?_⟩
      · simp only; omega
      · simp only [outW, Out.run, show (i + 1).toNat = i.toNat + 1 by omega, strs_len]
        exact ho
    rw [wrap_ok (n := i + 1) (by omega) (by omega)]
    simp only [stW, strs_len, addB] at go
    refine ⟨fun e => ⟨⟨h2, hi⟩, by omega, ?_⟩, fun e => ?_⟩
    · rw [← hc, decide_eq_false (show ¬ placeS m[i.toNat] (strs o) 0 ≥ 0 from fun h => absurd e (by show ¬ placeS m[i.toNat] (strs o) 0 < 0; omega))] at go
      simp only [cond_false, strs_app, List.length_append, List.length_cons, List.length_nil] at go
      exact go
    · rw [← hc, decide_eq_true (show placeS m[i.toNat] (strs o) 0 ≥ 0 from by have e' : ¬ placeS m[i.toNat] (strs o) 0 < 0 := e; omega)] at go
      exact go
  · rw [List.drop_eq_nil_of_le (by omega)] at ho
    exact ho
noncomputable def EW0 (κ : Kp) : Env := (ERR κ).addLoop 54 3 (loopE 0 stW sideW outW)
theorem eW0 (κ : Kp) : EnvOK (EW0 κ) := (eRR κ).addLoop (mRR κ) (lW κ)
theorem mW0 (κ : Kp) : EnvMono (EW0 κ) := (mRR κ).addLoop loopE_mono
theorem xW6 (κ : Kp) (m o : List AV) (i : Int) (I : Nat → S → Prop) (n : Nat) (K : Exit → S → Prop) : (vc (EW0 κ) 12 52 none 0 (loopCode (Pr κ).toProgram 52 3) (sp 36 [(1, .lst 9 m), (5, .slc 0 0 o.length), (6, .int i)] [.row 9 o]) (loopK (EW0 κ) 52 3 0 I n K)) = (
  brn (decide (i < (↑(List.length m) : Int))) (cnd (decide ((0 : Int) ≤ i) && decide (i < (↑(List.length m) : Int))) (cnd (decide (List.length (List.take
  (List.length o) (List.drop 0 o)) ≤ 9223372036854775807)) (brn (decide (placeS (toStr (nth m (Int.toNat i))) (List.take (List.length o) (List.drop 0 o)) (0 :
  Int) < (0 : Int))) (cnd (decide ((0 : Int) ≤ i) && decide (i < (↑(List.length m) : Int))) (cnd (decide ((List.length o + 1 + 1) * 17 ≤ 70368744177664)) (∃ (m_1
  : Nat), m_1 < n ∧ I m_1 (sp 36 [(1, AV.lst 9 m), (5, AV.slc 0 0 (List.length o + 1)), (6, AV.int (IntKind.wrap IntKind.i64 (i + (1 : Int))))] [Obj.row 9
  (List.take (List.length o) o ++ [AV.str (toStr (nth m (Int.toNat i)))])])))) (∃ (m_1 : Nat), m_1 < n ∧ I m_1 (sp 36 [(1, AV.lst 9 m), (5, AV.slc 0 0
  (List.length o)), (6, AV.int (IntKind.wrap IntKind.i64 (i + (1 : Int))))] [Obj.row 9 o]))))) (K (Exit.exit 0) (sp 36 [(5, AV.slc 0 0 (List.length o))] [Obj.row
  9 o]))) := by kernel_rfl
theorem lW6 (κ : Kp) : LoopOk (EW0 κ) 12 52 3 (loopE 0 stW sideW outW) := by
  refine loopE_ok (fun a => a.1.length - a.2.2.toNat) ?_
  rintro ⟨m, o, i⟩ K ⟨h1, h2, h3, h4⟩ ho
  simp only at h1 h2 h3 h4
  rw [show (EW0 κ).P = Pr κ from rfl]
  refine Eq.mpr (xW6 κ (strs m) (strs o) i _ _ K) ?_
  simp only [outW, Out.run] at ho
  simp only [List.drop_zero, List.take_length]
  simp only [brn_iff, cnd_iff, decide_eq_true_eq, decide_eq_false_iff_not, Bool.and_eq_true]
  simp only [strs_len] at ho ⊢
  refine ⟨fun hi => ⟨⟨h2, hi⟩, by omega, ?_⟩, fun hi => ?_⟩
  · have hk : i.toNat < m.length := by omega
    rw [strs_nth m _ hk]
    have hc := placeS_ge m[i.toNat] o 0 (by omega)
    have go : ∃ k, k < m.length - i.toNat ∧ invOf stW sideW outW (fun a => a.1.length - a.2.2.toNat) K k (stW (m, addB o m[i.toNat], i + 1)) := by
      have hl := addB_len o m[i.toNat]
      rw [List.drop_eq_getElem_cons hk, withB_cons] at ho
      refine ⟨_, ?_, (m, addB o m[i.toNat], i + 1), rfl, ⟨h1, by simp only; omega, by simp only; omega, by simp only; omega⟩, rfl, ?_⟩
      · simp only; omega
      · simp only [outW, Out.run, show (i + 1).toNat = i.toNat + 1 by omega, strs_len]
        exact ho
    rw [wrap_ok (n := i + 1) (by omega) (by omega)]
    simp only [stW, strs_len, addB] at go
    refine ⟨fun e => ⟨⟨h2, hi⟩, by omega, ?_⟩, fun e => ?_⟩
    · rw [← hc, decide_eq_false (show ¬ placeS m[i.toNat] (strs o) 0 ≥ 0 from fun h => absurd e (by show ¬ placeS m[i.toNat] (strs o) 0 < 0; omega))] at go
      simp only [cond_false, strs_app, List.length_append, List.length_cons, List.length_nil] at go
      exact go
    · rw [← hc, decide_eq_true (show placeS m[i.toNat] (strs o) 0 ≥ 0 from by have e' : ¬ placeS m[i.toNat] (strs o) 0 < 0 := e; omega)] at go
      exact go
  · rw [List.drop_eq_nil_of_le (by omega)] at ho
    exact ho
noncomputable def EW1 (κ : Kp) : Env := (EW0 κ).addLoop 52 3 (loopE 0 stW sideW outW)
theorem eW1 (κ : Kp) : EnvOK (EW1 κ) := (eW0 κ).addLoop (mW0 κ) (lW6 κ)
theorem mW1 (κ : Kp) : EnvMono (EW1 κ) := (mW0 κ).addLoop loopE_mono
def stwc (a : List ByteArray × List ByteArray) : List AV × List Dn.Obj := ([.lst 9 (strs a.1), .lst 9 (strs a.2)], [])
def sidewc (a : List ByteArray × List ByteArray) : Prop := a.1.length ≤ 1000000 ∧ a.2.length ≤ 1000000
def outwc (a : List ByteArray × List ByteArray) : Out (AV × List Dn.Obj) := .one (.lst 9 (strs (withB a.1 a.2)), [])
theorem yW (κ : Kp) (o m : List AV) (K : AV → List Dn.Obj → Prop) : (funA (EW1 κ) 12 54 [.lst 9 o, .lst 9 m] [] K) = (
  cnd (true && decide ((0 : Int) ≤ IntKind.wrap IntKind.i64 ((↑(List.length o) : Int) + (↑(List.length m) : Int))) && decide ((Int.toNat (IntKind.wrap IntKind.i64
  ((↑(List.length o) : Int) + (↑(List.length m) : Int))) + 1) * 17 ≤ 70368744177664) && true) (cnd (decide ((0 + List.length o + 1) * 17 ≤ 70368744177664))
  (loopCode (Pg.toProgram (Env.P (ERR κ))) 54 3 = loopCode (Pg.toProgram (Env.P (ERR κ))) 54 3 ∧ ∃ (a : AW), sp 36 [(1, AV.lst 9 m), (5, AV.slc 0 0 (0 +
  List.length o)), (6, AV.int 0)] [Obj.row 9 ([] ++ o)] = sp 36 [(1, AV.lst 9 (strs (Prod.fst a))), (5, AV.slc 0 0 (List.length (strs (Prod.fst (Prod.snd a))))),
  (6, AV.int (Prod.snd (Prod.snd a)))] [Obj.row 9 (strs (Prod.fst (Prod.snd a)))] ∧ (List.length (Prod.fst a) ≤ 1000000 ∧ (0 : Int) ≤ Prod.snd (Prod.snd a) ∧
  Prod.snd (Prod.snd a) ≤ (↑(List.length (Prod.fst a)) : Int) ∧ List.length (Prod.fst (Prod.snd a)) + (List.length (Prod.fst a) - Int.toNat (Prod.snd (Prod.snd
  a))) ≤ 2000000) ∧ K (AV.lst 9 (List.take (List.length (strs (withB (Prod.fst (Prod.snd a)) (List.drop (Int.toNat (Prod.snd (Prod.snd a))) (Prod.fst a)))))
  (List.drop 0 (strs (withB (Prod.fst (Prod.snd a)) (List.drop (Int.toNat (Prod.snd (Prod.snd a))) (Prod.fst a))))))) []))) := by kernel_rfl
theorem cW (κ : Kp) : CallOk (EW1 κ) 12 54 (callE stwc sidewc outwc) := by
  refine callE_ok ?_
  rintro ⟨o, m⟩ K ⟨h1, h2⟩ ho
  simp only at h1 h2
  refine Eq.mpr (yW κ (strs o) (strs m) K) ?_
  simp only [outwc, Out.run] at ho
  rw [strs_len, strs_len]
  rw [wrap_ok (n := (o.length : Int) + (m.length : Int)) (by omega) (by omega)]
  simp only [cnd_iff, Bool.and_eq_true, decide_eq_true_eq]
  refine ⟨⟨⟨⟨trivial, by omega⟩, by omega⟩, trivial⟩, by omega, trivial, (m, o, 0), ?_, ⟨h2, by simp only; omega, by simp only; omega, by simp only; omega⟩, ?_⟩
  · simp only [Nat.zero_add, strs_len, List.nil_append]
  · simp only [Int.toNat_zero, List.drop_zero, List.take_length]
    exact ho
noncomputable def EW2 (κ : Kp) : Env := (EW1 κ).addCall 54 (callE stwc sidewc outwc)
theorem eW2 (κ : Kp) : EnvOK (EW2 κ) := (eW1 κ).addCall (mW1 κ) (cW κ)
theorem mW2 (κ : Kp) : EnvMono (EW2 κ) := (mW1 κ).addCall callE_mono
theorem yW6 (κ : Kp) (o m : List AV) (K : AV → List Dn.Obj → Prop) : (funA (EW2 κ) 12 52 [.lst 9 o, .lst 9 m] [] K) = (
  cnd (true && decide ((0 : Int) ≤ IntKind.wrap IntKind.i64 ((↑(List.length o) : Int) + (↑(List.length m) : Int))) && decide ((Int.toNat (IntKind.wrap IntKind.i64
  ((↑(List.length o) : Int) + (↑(List.length m) : Int))) + 1) * 17 ≤ 70368744177664) && true) (cnd (decide ((0 + List.length o + 1) * 17 ≤ 70368744177664))
  (loopCode (Pg.toProgram (Env.P (EW0 κ))) 52 3 = loopCode (Pg.toProgram (Env.P (EW0 κ))) 52 3 ∧ ∃ (a : AW), sp 36 [(1, AV.lst 9 m), (5, AV.slc 0 0 (0 +
  List.length o)), (6, AV.int 0)] [Obj.row 9 ([] ++ o)] = sp 36 [(1, AV.lst 9 (strs (Prod.fst a))), (5, AV.slc 0 0 (List.length (strs (Prod.fst (Prod.snd a))))),
  (6, AV.int (Prod.snd (Prod.snd a)))] [Obj.row 9 (strs (Prod.fst (Prod.snd a)))] ∧ (List.length (Prod.fst a) ≤ 1000000 ∧ (0 : Int) ≤ Prod.snd (Prod.snd a) ∧
  Prod.snd (Prod.snd a) ≤ (↑(List.length (Prod.fst a)) : Int) ∧ List.length (Prod.fst (Prod.snd a)) + (List.length (Prod.fst a) - Int.toNat (Prod.snd (Prod.snd
  a))) ≤ 2000000) ∧ K (AV.lst 9 (List.take (List.length (strs (withB (Prod.fst (Prod.snd a)) (List.drop (Int.toNat (Prod.snd (Prod.snd a))) (Prod.fst a)))))
  (List.drop 0 (strs (withB (Prod.fst (Prod.snd a)) (List.drop (Int.toNat (Prod.snd (Prod.snd a))) (Prod.fst a))))))) []))) := by kernel_rfl
theorem cW6 (κ : Kp) : CallOk (EW2 κ) 12 52 (callE stwc sidewc outwc) := by
  refine callE_ok ?_
  rintro ⟨o, m⟩ K ⟨h1, h2⟩ ho
  simp only at h1 h2
  refine Eq.mpr (yW6 κ (strs o) (strs m) K) ?_
  simp only [outwc, Out.run] at ho
  rw [strs_len, strs_len]
  rw [wrap_ok (n := (o.length : Int) + (m.length : Int)) (by omega) (by omega)]
  simp only [cnd_iff, Bool.and_eq_true, decide_eq_true_eq]
  refine ⟨⟨⟨⟨trivial, by omega⟩, by omega⟩, trivial⟩, by omega, trivial, (m, o, 0), ?_, ⟨h2, by simp only; omega, by simp only; omega, by simp only; omega⟩, ?_⟩
  · simp only [Nat.zero_add, strs_len, List.nil_append]
  · simp only [Int.toNat_zero, List.drop_zero, List.take_length]
    exact ho
noncomputable def EW (κ : Kp) : Env := (EW2 κ).addCall 52 (callE stwc sidewc outwc)
theorem eW (κ : Kp) : EnvOK (EW κ) := (eW2 κ).addCall (mW2 κ) (cW6 κ)
theorem mW (κ : Kp) : EnvMono (EW κ) := (mW2 κ).addCall callE_mono
structure AT where
  op : Int
  s : ByteArray
  n : Int
  l : List AV
def AT.tm (a : AT) : Tm := .mk a.op a.s a.n (tmsOf a.l)
def atv (x : AV) : AT := ⟨toInt (fld x 0), toStr (fld x 1), toInt (fld x 2), toLst (fld x 3)⟩
theorem atv_tm (x : AV) : (atv x).tm = tmOf x := by rw [tmOf_eq]; rfl
abbrev tmA (a : AT) : AV := .agg [.int a.op, .lit (.string a.s), .int a.n, .lst 43 a.l]
def stTV (a : AT) : List AV × List Dn.Obj := ([tmA a], [])
def sideTV (n : Nat) (a : AT) : Prop := a.tm.cnt = n ∧ n ≤ 100000
def outTV (a : AT) : Out (AV × List Dn.Obj) := .one (.lst 9 (strs a.tm.rv), [])
def spTV (n : Nat) : CallSpec := callE stTV (sideTV n) outTV
noncomputable def ETp (κ : Kp) (r : Nat) : Env := (EW κ).addCall 55 fun args st K => ∃ m, m < r ∧ spTV m args st K
theorem xTV (κ : Kp) (r : Nat) (a : AT) (o : List AV) (i : Int) (I : Nat → S → Prop) (n : Nat) (K : Exit → S → Prop) : (vc (ETp κ r) 12 55 none 0 (loopCode (Pr κ).toProgram 55 5) (sp 27 [(1, .ptr 0 0 [] 0), (3, .lst 9 o), (4, .int i)] [.box 43 (tmA a)]) (loopK (ETp κ r) 55 5 0 I n K)) = (
  brn (decide (i < (↑(List.length (AT.l a)) : Int))) (cnd (decide ((0 : Int) ≤ i) && decide (i < (↑(List.length (AT.l a)) : Int))) (∃ (m : Nat), m < r ∧ ∃ (a_1 :
  AT), ([AV.agg [AV.int (toInt (fld (nth (AT.l a) (Int.toNat i)) 0)), AV.str (toStr (fld (nth (AT.l a) (Int.toNat i)) 1)), AV.int (toInt (fld (nth (AT.l a)
  (Int.toNat i)) 2)), AV.lst 43 (toLst (fld (nth (AT.l a) (Int.toNat i)) 3))]], nilO) = ([AV.agg [AV.int (AT.op a_1), AV.str (AT.s a_1), AV.int (AT.n a_1),
  AV.lst 43 (AT.l a_1)]], nilO) ∧ (Tm.cnt (AT.tm a_1) = m ∧ m ≤ 100000) ∧ ∃ (a_2 : List ByteArray × List ByteArray), ([AV.lst 9 o, AV.lst 9 (strs (Tm.rv (AT.tm
  a_1)))], nilO) = ([AV.lst 9 (strs (Prod.fst a_2)), AV.lst 9 (strs (Prod.snd a_2))], nilO) ∧ (List.length (Prod.fst a_2) ≤ 1000000 ∧ List.length (Prod.snd a_2)
  ≤ 1000000) ∧ ∃ (m : Nat), m < n ∧ I m (sp 27 [(1, AV.ptr 0 0 [] 0), (3, AV.lst 9 (strs (withB (Prod.fst a_2) (Prod.snd a_2)))), (4, AV.int (IntKind.wrap
  IntKind.i64 (i + (1 : Int))))] [Obj.box 43 (AV.agg [AV.int (AT.op a), AV.str (AT.s a), AV.int (AT.n a), AV.lst 43 (AT.l a)])]))) (K (Exit.exit 0) (sp 27 [(3,
  AV.lst 9 o)] []))) := by kernel_rfl
abbrev ATl := AT × List ByteArray × Int
abbrev stTl (a : ATl) : S := sp 27 [(1, .ptr 0 0 [] 0), (3, .lst 9 (strs a.2.1)), (4, .int a.2.2)] [.box 43 (tmA a.1)]
def sideTl (r : Nat) (a : ATl) : Prop := a.1.l.length ≤ maxI ∧ 0 ≤ a.2.2 ∧ a.2.2 ≤ a.1.l.length ∧ cntL (tmsOf (a.1.l.drop a.2.2.toNat)) < r ∧ a.2.1.length + cntL (tmsOf (a.1.l.drop a.2.2.toNat)) ≤ 100000
def outTl (a : ATl) : Out (Exit × S) := .one (.exit 0, sp 27 [(3, .lst 9 (strs (rvL (tmsOf (a.1.l.drop a.2.2.toNat)) a.2.1)))] [])
theorem lTV (κ : Kp) (r : Nat) : LoopOk (ETp κ r) 12 55 5 (loopE 0 stTl (sideTl r) outTl) := by
  refine loopE_ok (fun a => a.1.l.length - a.2.2.toNat) ?_
  rintro ⟨a, o, i⟩ K ⟨h1, h2, h3, h4, h5⟩ ho
  simp only at h1 h2 h3 h4 h5
  rw [show (ETp κ r).P = Pr κ from rfl]
  refine Eq.mpr (xTV κ r a (strs o) i _ _ K) ?_
  simp only [maxI] at h1
  simp only [outTl, Out.run] at ho
  simp only [brn_iff, cnd_iff, decide_eq_true_eq, decide_eq_false_iff_not, Bool.and_eq_true]
  refine ⟨fun hi => ?_, fun hi => ?_⟩
  · have hk : i.toNat < a.l.length := by omega
    have e := tms_drop a.l i.toNat hk
    rw [e, cntL] at h4 h5
    rw [e, rvL] at ho
    have hl := Tm.rv_len (tmOf (nth a.l i.toNat))
    have hw := withB_len o (tmOf (nth a.l i.toNat)).rv
    rw [wrap_ok (n := i + 1) (by omega) (by omega)]
    refine ⟨⟨h2, hi⟩, (tmOf (nth a.l i.toNat)).cnt, by omega, atv (nth a.l i.toNat), rfl, ⟨by rw [atv_tm], by omega⟩, (o, (tmOf (nth a.l i.toNat)).rv), by rw [atv_tm], ⟨by simp only; omega, by simp only; omega⟩, _, ?_, (a, withB o (tmOf (nth a.l i.toNat)).rv, i + 1), rfl, ⟨by simpa [maxI] using h1, by simp only; omega, by simp only; omega, ?_, ?_⟩, rfl, ?_⟩
    · simp only; omega
    · simp only [show (i + 1).toNat = i.toNat + 1 by omega]; omega
    · simp only [show (i + 1).toNat = i.toNat + 1 by omega]; omega
    · simp only [outTl, Out.run, show (i + 1).toNat = i.toNat + 1 by omega]
      exact ho
  · rw [List.drop_eq_nil_of_le (by omega)] at ho
    exact ho
noncomputable def ETr (κ : Kp) (r : Nat) : Env := (ETp κ r).addLoop 55 5 (loopE 0 stTl (sideTl r) outTl)
theorem yTV (κ : Kp) (r : Nat) (a : AT) (K : AV → List Dn.Obj → Prop) : (funA (ETr κ r) 12 55 [tmA a] [] K) = (
  brn (AT.op a == (1 : Int)) (K (AV.lst 9 [AV.str (AT.s a)]) []) (loopCode (Pg.toProgram (Env.P (ETp κ r))) 55 5 = loopCode (Pg.toProgram (Env.P (ETp κ r))) 55 5 ∧
  ∃ (a_1 : ATl), sp 27 [(1, AV.ptr 0 0 [] 0), (3, AV.lst 9 []), (4, AV.int 0)] [Obj.box 43 (AV.agg [AV.int (AT.op a), AV.str (AT.s a), AV.int (AT.n a), AV.lst 43
  (AT.l a)])] = sp 27 [(1, AV.ptr 0 0 [] 0), (3, AV.lst 9 (strs (Prod.fst (Prod.snd a_1)))), (4, AV.int (Prod.snd (Prod.snd a_1)))] [Obj.box 43 (AV.agg [AV.int
  (AT.op (Prod.fst a_1)), AV.str (AT.s (Prod.fst a_1)), AV.int (AT.n (Prod.fst a_1)), AV.lst 43 (AT.l (Prod.fst a_1))])] ∧ (List.length (AT.l (Prod.fst a_1)) ≤
  9223372036854775807 ∧ (0 : Int) ≤ Prod.snd (Prod.snd a_1) ∧ Prod.snd (Prod.snd a_1) ≤ (↑(List.length (AT.l (Prod.fst a_1))) : Int) ∧ cntL (tmsOf (List.drop
  (Int.toNat (Prod.snd (Prod.snd a_1))) (AT.l (Prod.fst a_1)))) < r ∧ List.length (Prod.fst (Prod.snd a_1)) + cntL (tmsOf (List.drop (Int.toNat (Prod.snd
  (Prod.snd a_1))) (AT.l (Prod.fst a_1)))) ≤ 100000) ∧ K (AV.lst 9 (strs (rvL (tmsOf (List.drop (Int.toNat (Prod.snd (Prod.snd a_1))) (AT.l (Prod.fst a_1))))
  (Prod.fst (Prod.snd a_1))))) [])) := by kernel_rfl
theorem spTV_mono (n : Nat) : (spTV n).Mono := callE_mono
theorem eTr (κ : Kp) (r : Nat) (hp : ∀ args st K, (∃ m, m < r ∧ spTV m args st K) → SimCall (Pr κ) 55 args st K) : EnvOK (ETr κ r) ∧ EnvMono (ETr κ r) ∧ (ETr κ r).P = Pr κ :=
  have h : EnvOK (ETp κ r) := (eW κ).addSim hp
  have hm : EnvMono (ETp κ r) := (mW κ).addCall (fun _ _ _ _ hK ⟨m, h1, h2⟩ => ⟨m, h1, spTV_mono m _ _ _ _ hK h2⟩)
  ⟨h.addLoop hm (lTV κ r), hm.addLoop loopE_mono, rfl⟩
theorem cTV (κ : Kp) (r : Nat) : CallOk (ETr κ r) 12 55 (spTV r) := by
  refine callE_ok ?_
  rintro a K ⟨h1, h2⟩ ho
  refine Eq.mpr (yTV κ r a K) ?_
  simp only [outTV, Out.run] at ho
  have e1 : a.tm.cnt = 1 + cntL (tmsOf a.l) := rfl
  have hl := len_cntL (tmsOf a.l)
  rw [tms_len] at hl
  have e2 : a.tm.rv = bif decide (a.op = 1) then [a.s] else rvL (tmsOf a.l) [] := rfl
  rw [e2] at ho
  rw [brn_iff, beq_iff_eq, beq_eq_false_iff_ne]
  refine ⟨fun e => by rw [decide_eq_true e] at ho; exact ho, fun e => ⟨rfl, (a, [], 0), rfl, ⟨by simp only; omega, by simp only; omega, by simp only; omega, ?_, ?_⟩, ?_⟩⟩
  · simp only [Int.toNat_zero, List.drop_zero]; omega
  · simp only [Int.toNat_zero, List.drop_zero, List.length_nil]; omega
  · rw [decide_eq_false e] at ho
    simp only [Int.toNat_zero, List.drop_zero]
    exact ho
def sideTa (a : AT) : Prop := a.tm.cnt ≤ 100000
theorem qTV (κ : Kp) : ∀ args st K, callE stTV sideTa outTV args st K → SimCall (Pr κ) 55 args st K := by
  rintro args st K ⟨a, h1, h2, h3⟩
  exact EnvOK.addRecL spTV (ETr κ) (eTr κ) (cTV κ) a.tm.cnt args st K ⟨a, h1, ⟨rfl, h2⟩, h3⟩
noncomputable def ET (κ : Kp) : Env := (EW κ).addCall 55 (callE stTV sideTa outTV)
theorem eT (κ : Kp) : EnvOK (ET κ) := (eW κ).addSim (qTV κ)
theorem mT (κ : Kp) : EnvMono (ET κ) := (mW κ).addCall callE_mono
end Go.Proofs.YtpgahkbkfflkaaaGreatDoor
