import Derived.Test.YtdpmikfheebicaaGreatDoorDqM1
import Derived.Test.YtdpmikfheebicaaGreatDoorDqM5
namespace Go.Rl
open Go Go.Dn
def pE (o : List ByteArray) (s : ByteArray) : List ByteArray := bif o.contains s then o else o ++ [s]
def bH (o m : List ByteArray) : List ByteArray := m.foldl pE o
theorem fY (o : List ByteArray) (s : ByteArray) (m : List ByteArray) : bH o (s :: m) = bH (pE o s) m := rfl
theorem iQ (o a b : List ByteArray) : bH o (a ++ b) = bH (bH o a) b := by simp [bH]
theorem lT : ∀ (m o : List ByteArray), bH o m = o ++ gI o m
 | [], o => by simp [bH, gI]
 | s :: m, o => by
  rw [fY, lT m, pE, gI]
  cases o.contains s <;> simp
theorem hJ (m : List ByteArray) : bH [] m = gI [] m := by rw [lT]; rfl
theorem dK (o m : List ByteArray) : (bH o m).length ≤ o.length + m.length := by
 rw [lT, ab9]
 have := jV m o
 omega
theorem jT {o m : List ByteArray} {s : ByteArray} : s ∈ bH o m ↔ s ∈ o ∨ s ∈ m := by
 rw [lT, List.mem_append, nk]
 by_cases h : s ∈ o <;> simp [h]
theorem rq : ∀ (m p o : List ByteArray), (∀ s, s ∈ p → s ∈ o) → bH o (gI p m) = bH o m
 | [], _, _, _ => rfl
 | s :: m, p, o, h => by
  rw [gI]
  cases hp : p.contains s with
  | true =>
   rw [aa7, rq m p o h, fY, pE]
   have : o.contains s = true := by simpa using h s (by simpa using hp)
   rw [this]; rfl
  | false =>
   rw [aa5, fY, fY]
   refine rq m _ _ fun t ht => ?_
   have e : pE o s = bH o [s] := rfl
   rw [e, jT]
   rcases List.mem_append.1 ht with ht | ht
   ·exact .inl (h t ht)
   ·exact .inr ht
theorem jZ (o m : List ByteArray) : bH o (gI [] m) = bH o m := rq m [] o (fun s h => by cases h)
mutual
def Tm.rv : Tm → List ByteArray
 | .mk op s _ l => bif decide (op = 1) then [s] else sz l []
def sz : List Tm → List ByteArray → List ByteArray
 | [], o => o
 | t :: l, o => sz l (bH o t.rv)
end
mutual
def Tm.lf : Tm → Bool
 | .mk op _ _ l => bif decide (op = 1) then decide (l.length = 0) else BM l
def BM : List Tm → Bool
 | [] => true
 | t :: l => t.lf && BM l
end
mutual
theorem Tm.xJ : ∀ t : Tm, t.lf = true → t.rv = gI [] t.vars
 | .mk op s n l, h => by
  rw [Tm.lf] at h
  rw [Tm.rv, Tm.vars]
  cases ho : decide (op = 1) with
  | true =>
   rw [ho, aa7, aa0] at h
   have : l = [] := List.eq_nil_of_length_eq_zero h
   subst this
   simp [an, gI]
  | false =>
   rw [ho, aa5] at h
   rw [aa5, aa5, CA l [] h, List.nil_append, hJ]
theorem CA : ∀ (l : List Tm) (o : List ByteArray), BM l = true → sz l o = bH o (an l)
 | [], o, _ => rfl
 | t :: l, o, h => by
  rw [BM, aa1] at h
  rw [sz, an, CA l _ h.2, Tm.xJ t h.1, jZ, iQ]
end
mutual
theorem Tm.jv : ∀ t : Tm, t.rv.length ≤ t.gF
 | .mk op s n l => by
  rw [Tm.rv, Tm.gF]
  have := iv l []
  cases decide (op = 1)
  ·rw [aa5]; simp at this; omega
  ·rw [aa7]; simp
theorem iv : ∀ (l : List Tm) (o : List ByteArray), (sz l o).length ≤ o.length + aH l
 | [], o => by simp [sz, aH]
 | t :: l, o => by
  rw [sz, aH]
  have h1 := iv l (bH o t.rv)
  have h2 := dK o t.rv
  have h3 := Tm.jv t
  omega
end
theorem vK : ∀ (h : Nat) (t : Tm), ak h t = true → t.lf = true
 | 0, _, h => by simp [ak] at h
 | h + 1, .mk op s n l, e => by
  rw [hN] at e
  rw [Tm.lf]
  have go : ∀ l : List Tm, fc h l = true → BM l = true := by
   intro l
   induction l with
   | nil => intro _; rfl
   | cons t l ih =>
    intro e
    simp only [fc, ac1, aa1] at e
    rw [BM, vK h t e.1.2, ih e.2]; rfl
  cases h0 : decide (op = 0) with
  | true => rw [h0, aa7] at e; cases e
  | false =>
   rw [h0, aa5] at e
   cases h2 : dV op with
   | true =>
    rw [h2, aa7] at e
    simp only [aa1] at e
    have h1 : decide (op = 1) = false := by
     unfold dV at h2
     rw [aa2]; intro h; subst h; revert h2; decide
    rw [h1, aa5]
    exact go l e.2
   | false =>
    rw [h2, aa5, aa1, aa0] at e
    have : l = [] := List.eq_nil_of_length_eq_zero e.2
    subst this
    cases decide (op = 1) <;> rfl
theorem H0 {t : Tm} (h : BJ t = true) : t.lf = true := by
 obtain ⟨op, s, n, l⟩ := t
 simp only [BJ, aa1, aa0] at h
 have : l = [] := List.eq_nil_of_length_eq_zero h.2
 subst this
 rw [Tm.lf]
 cases decide (op = 1) <;> rfl
theorem GK {h : Nat} : ∀ {l : List Tm}, l.all (ak h) = true → BM l = true
 | [], _ => rfl
 | t :: l, e => by
  simp only [ac1, aa1] at e
  rw [BM, vK h t e.1, GK e.2]; rfl
theorem th {a : At} (h : aW a = true) : BM a.l = true := by
 simp only [aW, aa1] at h
 exact GK h.2
def rC (l : Lt) : Bool := l.x.lf && l.y.lf && BM l.a.l
theorem Mw {l : Lt} (h : dI l = true) : rC l = true := by
 unfold dI at h
 unfold rC
 have nA : FO l.a = true → BM l.a.l = true := fun h => by
  simp only [FO, aa1, aa0] at h
  rw [List.eq_nil_of_length_eq_zero h.2]; rfl
 have v1 : ∀ {t : Tm}, ak 20 t = true → t.lf = true := fun h => vK _ _ h
 cases h1 : decide (l.op = 1) || decide (l.op = 2) with
 | true =>
  rw [h1, aa7] at h; simp only [aa1] at h
  rw [H0 h.2.1, H0 h.2.2, th h.1]; rfl
 | false =>
  rw [h1, aa5] at h
  cases h2 : decide (l.op = 3) || decide (l.op = 4) || decide (l.op = 5) || decide (l.op = 6) with
  | true =>
   rw [h2, aa7] at h; simp only [aa1] at h
   rw [v1 h.1.2, v1 h.2, nA h.1.1.1.1]; rfl
  | false =>
   rw [h2, aa5] at h
   cases h3 : decide (l.op = 7) with
   | true =>
    rw [h3, aa7] at h; simp only [aa1] at h
    rw [v1 h.2, H0 h.1.2.2, th h.1.1]; rfl
   | false =>
    rw [h3, aa5] at h
    cases h4 : decide (l.op = 8) || decide (l.op = 9) || decide (l.op = 10) with
    | true =>
     rw [h4, aa7] at h; simp only [aa1] at h
     rw [v1 h.1.2, v1 h.2, th h.1.1.1]; rfl
    | false => rw [h4, aa5] at h; cases h
theorem s6 {r : Rl} (h : aG r = true) : BM r.head.l = true ∧ ∀ l, l ∈ r.body → rC l = true := by
 simp only [aG, aa1, List.all_eq_true] at h
 exact ⟨th h.1.1.1, fun l hl => Mw (h.2 l hl)⟩
theorem CZ {r : Rl} (h : aG r = true) (k : Nat) : rC (bj r.body k) = true := by
 unfold bj
 rw [List.getD_eq_getElem?_getD]
 cases e : r.body[k]? with
 | none => rfl
 | some l => exact (s6 h).2 l (List.mem_of_getElem? e)
def dx (a : At) : List ByteArray := sz a.l []
def fg (l : Lt) : List ByteArray := bH (bH l.x.rv l.y.rv) (dx l.a)
def nD : List Lt → List ByteArray → List ByteArray
 | [], o => o
 | l :: b, o => nD b (bH o (fg l))
def cr (r : Rl) : List ByteArray := bif aG r then nD r.body (dx r.head) else []
theorem lu {a : At} (h : BM a.l = true) : dx a = gI [] (an a.l) := by rw [dx, CA _ _ h, hJ]
theorem qu {l : Lt} (h : rC l = true) : fg l = gI [] (cx l) := by
 simp only [rC, aa1] at h
 rw [fg, cx, Tm.xJ _ h.1.1, Tm.xJ _ h.1.2, lu h.2, jZ, jZ, ← hJ, ← iQ, ← iQ, hJ, an, an, an, List.append_nil, List.append_assoc]
theorem An : ∀ (b : List Lt) (o : List ByteArray), (∀ l, l ∈ b → rC l = true) → nD b o = bH o (b.flatMap cx)
 | [], o, _ => rfl
 | l :: b, o, h => by
  rw [nD, An b _ fun x hx => h x (List.mem_cons_of_mem _ hx), qu (h l ab3), jZ, List.flatMap_cons, iQ]
theorem nC (r : Rl) : cr r = bq r := by
 unfold cr bq
 cases h : aG r with
 | false => rfl
 | true =>
  rw [aa7, aa7]
  have hl := s6 h
  rw [An _ _ hl.2, lu hl.1, cQ, ← hJ, ← iQ, hJ]
theorem jj (l : Lt) : (fg l).length ≤ dC l := by
 unfold fg dC
 have h1 := dK (bH l.x.rv l.y.rv) (dx l.a)
 have h2 := dK l.x.rv l.y.rv
 have h3 := Tm.jv l.x
 have h4 := Tm.jv l.y
 have h5 := iv l.a.l []
 simp only [aH]
 simp only [dx, List.length_nil] at *
 omega
def fS : List Tm → List ByteArray → List ByteArray
 | [], o => o
 | t :: l, o => fS l (bif decide (t.op ≥ 5) then bH o t.rv else o)
theorem Al : ∀ (l : List Tm) (o : List ByteArray), BM l = true → fS l o = bH o (cZ l)
 | [], o, _ => rfl
 | t :: l, o, h => by
  rw [BM, aa1] at h
  rw [fS, cZ, Al l _ h.2, iQ]
  have e : decide (t.op ≥ 5) = decide (5 ≤ t.op) := rfl
  rw [e]
  cases decide (5 ≤ t.op) with
  | true => rw [aa7, aa7, Tm.xJ t h.1, jZ, an, an, List.append_nil]
  | false => rfl
theorem xg : ∀ (l : List Tm) (o : List ByteArray), (fS l o).length ≤ o.length + aH l
 | [], o => by simp [fS, aH]
 | t :: l, o => by
  rw [fS, aH]
  have h1 := xg l (bif decide (t.op ≥ 5) then bH o t.rv else o)
  have h2 := dK o t.rv
  have h3 := Tm.jv t
  revert h1
  cases decide (t.op ≥ 5)
  ·simp only [aa5]; omega
  ·simp only [aa7]; omega
def kc (k : Nat) : List Lt → Nat → List ByteArray → List ByteArray
 | [], _, o => o
 | l :: b, i, o => kc k b (i + 1) (bH o (bif Nat.beq i k then fg ⟨l.op, ⟨ByteArray.empty, []⟩, l.x, .mk 0 ByteArray.empty 0 []⟩ else fg l))
theorem zO (k : Nat) : ∀ (b : List Lt) (i : Nat) (o : List ByteArray), (∀ l, l ∈ b → rC l = true) → kc k b i o = bH o (so k b i)
 | [], _, _, _ => rfl
 | l :: b, i, o, h => by
  rw [kc, so, zO k b _ _ fun x hx => h x (List.mem_cons_of_mem _ hx), iQ]
  have hl := h l ab3
  cases Nat.beq i k with
  | true =>
   rw [aa7, aa7]
   have h2 := hl
   simp only [rC, aa1] at h2
   rw [qu (by simp [rC, h2.1.1, Tm.lf, BM]), jZ]
   simp [cx, an, Tm.vars]
  | false => rw [aa5, aa5, qu hl, jZ]
def fF (r : Rl) (k : Nat) : List ByteArray := (cr r).filter fun v => (dx (bj r.body k).a).contains v && (kc k r.body 0 (dx r.head)).contains v
theorem contains_eq {a b : List ByteArray} (h : ∀ s, s ∈ a ↔ s ∈ b) (s : ByteArray) : a.contains s = b.contains s := by
 rw [Bool.eq_iff_iff, List.contains_iff_mem, List.contains_iff_mem]; exact h s
theorem mm {m : List ByteArray} (s : ByteArray) : s ∈ gI [] m ↔ s ∈ m := by rw [nk]; simp
theorem xh {r : Rl} (h : aG r = true) (k : Nat) : fF r k = dj r k := by
 unfold fF dj
 have hl := s6 h
 have hk := CZ h k
 simp only [rC, aa1] at hk
 rw [nC]
 congr 1; funext v
 rw [lu hk.2, contains_eq mm, zO k _ _ _ hl.2, lu hl.1, contains_eq (a := bH (gI [] (an r.head.l)) (so k r.body 0)) (b := ED r k) fun s => by
  rw [jT, mm, ED, List.mem_append]]
def jx (b : List ByteArray) (x y : Tm) : Bool := decide (x.op = 1) && !b.contains x.s && hasB b y.rv
theorem kW {b c l m : List ByteArray} (h : ∀ s, s ∈ b ↔ s ∈ c) (h2 : ∀ s, s ∈ l ↔ s ∈ m) : hasB b l = hasB c m := by
 rw [Bool.eq_iff_iff, AI, AI]
 exact ⟨fun g s hs => (h s).1 (g s ((h2 s).2 hs)), fun g s hs => (h s).2 (g s ((h2 s).1 hs))⟩
theorem wj {b c : List ByteArray} (h : ∀ s, s ∈ b ↔ s ∈ c) {x y : Tm} (hy : y.lf = true) : jx b x y = nO c x y := by
 unfold jx nO
 rw [contains_eq h, kW h (m := an [y]) fun s => by rw [Tm.xJ y hy, mm, an, an, List.append_nil], Bool.and_assoc]
def lM (b : List ByteArray) (r : Rl) (k : Nat) : Bool :=
 bif decide ((bj r.body k).op = 1) then hasB b (fS (bj r.body k).a.l [])
 else bif decide ((bj r.body k).op = 2) || decide ((bj r.body k).op = 4) || decide ((bj r.body k).op = 5) || decide ((bj r.body k).op = 6) then hasB b (fg (bj r.body k))
 else bif decide ((bj r.body k).op = 3) then hasB b (fg (bj r.body k)) || jx b (bj r.body k).x (bj r.body k).y || jx b (bj r.body k).y (bj r.body k).x
 else hasB b (fF r k) && hasB b (fS (bj r.body k).a.l []) && (decide ((bj r.body k).op = 7) || (dx (bj r.body k).a).contains (bj r.body k).y.s)
theorem Fw {b c : List ByteArray} (h : ∀ s, s ∈ b ↔ s ∈ c) {r : Rl} (hr : aG r = true) (k : Nat) : lM b r k = kq c r k := by
 unfold lM kq
 have hk := CZ hr k
 have hk2 := hk
 simp only [rC, aa1] at hk2
 have e1 : hasB b (fS (bj r.body k).a.l []) = hasB c (cZ (bj r.body k).a.l) := kW h fun s => by rw [Al _ _ hk2.2, hJ, mm]
 have e2 : hasB b (fg (bj r.body k)) = hasB c (cx (bj r.body k)) := kW h fun s => by rw [qu hk, mm]
 have e3 : hasB b (fF r k) = hasB c (dj r k) := kW h fun s => by rw [xh hr]
 rw [e1, e2, e3, wj h hk2.1.2, wj h hk2.1.1, lu hk2.2, contains_eq mm]
 have ho : ∀ n m : Int, n ≠ m → decide ((bj r.body k).op = n) = true → decide ((bj r.body k).op = m) = false := fun n m hn e => by
  rw [aa0] at e; rw [aa2, e]; exact hn
 cases h1 : decide ((bj r.body k).op = 1) with
 | true => rfl
 | false =>
  rw [aa5, aa5]
  cases h3 : decide ((bj r.body k).op = 3) with
  | true =>
   rw [ho 3 2 (by decide) h3, ho 3 4 (by decide) h3, ho 3 5 (by decide) h3, ho 3 6 (by decide) h3]
   simp only [Bool.or_false, aa5, aa7]
   cases hasB c (cx (bj r.body k)) <;> cases nO c (bj r.body k).x (bj r.body k).y <;> cases nO c (bj r.body k).y (bj r.body k).x <;> rfl
  | false =>
   rw [aa5, aa5]
   have : (decide ((bj r.body k).op = 2) || decide ((bj r.body k).op = 4) || decide ((bj r.body k).op = 5) || decide ((bj r.body k).op = 6)) = (decide ((bj r.body k).op = 2) || (decide ((bj r.body k).op = 4) || (decide ((bj r.body k).op = 5) || decide ((bj r.body k).op = 6)))) := by
    simp only [Bool.or_assoc]
   rw [this]
   cases (decide ((bj r.body k).op = 2) || (decide ((bj r.body k).op = 4) || (decide ((bj r.body k).op = 5) || decide ((bj r.body k).op = 6)))) with
   | true => rfl
   | false =>
    rw [aa5, aa5]
    cases decide ((bj r.body k).op = 7) <;> cases (an (bj r.body k).a.l).contains (bj r.body k).y.s <;> cases hasB c (dj r k) <;> cases hasB c (cZ (bj r.body k).a.l) <;> rfl
def gH (r : Rl) (k : Nat) : List ByteArray := bif decide ((bj r.body k).op ≥ 7) then bH (bj r.body k).x.rv (fF r k) else fg (bj r.body k)
theorem vE {r : Rl} (hr : aG r = true) (k : Nat) (s : ByteArray) : s ∈ gH r k ↔ s ∈ eM r k := by
 unfold gH eM
 have hk := CZ hr k
 have hk2 := hk
 simp only [rC, aa1] at hk2
 have e : decide ((bj r.body k).op ≥ 7) = decide (7 ≤ (bj r.body k).op) := rfl
 rw [e]
 cases decide (7 ≤ (bj r.body k).op) with
 | true => rw [aa7, aa7, jT, xh hr, Tm.xJ _ hk2.1.1, mm, List.mem_append, an, an, List.append_nil]
 | false => rw [aa5, aa5, qu hk, mm]
def eo (p : Nat → Bool) : Nat → Nat → Int
 | 0, _ => -1
 | n + 1, k => bif p k then (k : Int) else eo p n (k + 1)
def okF (r : Rl) (done : List Bool) (b : List ByteArray) (atom : Bool) (k : Nat) : Bool := !eR done k && (decide ((bj r.body k).op = 1) == atom) && lM b r k
def cR (r : Rl) (done : List Bool) (b : List ByteArray) : Int :=
 bif decide (0 ≤ eo (okF r done b false) r.body.length 0) then eo (okF r done b false) r.body.length 0 else eo (okF r done b true) r.body.length 0
theorem rr (p : Nat → Bool) : ∀ n k : Nat, eo p n k = -1 ∨ 0 ≤ eo p n k
 | 0, _ => .inl rfl
 | n + 1, k => by
  rw [eo]
  cases p k
  ·exact rr p n (k + 1)
  ·right; rw [aa7]; omega
theorem kX {r : Rl} (hr : aG r = true) {done : List Bool} {b c : List ByteArray} (h : ∀ s, s ∈ b ↔ s ∈ c) : ∀ (n k : Nat) (first : Int), (first = -1 ∨ 0 ≤ first) →
  jG r done c n k first = bif decide (0 ≤ eo (okF r done b false) n k) then eo (okF r done b false) n k else bif decide (0 ≤ first) then first else eo (okF r done b true) n k
 | 0, k, first, hf => by
  rw [jG, eo, eo]
  rcases hf with rfl | hf
  ·rfl
  ·rw [aa6 hf]; rfl
 | n + 1, k, first, hf => by
  rw [jG, eo, eo]
  have e := Fw h hr k
  unfold okF
  rw [e]
  cases h1 : eR done k with
  | true =>
   simp only [Bool.true_or, Bool.not_true, Bool.false_and, aa7, aa5]
   exact kX hr h n (k + 1) first hf
  | false =>
   cases h2 : kq c r k with
   | false =>
    simp only [Bool.not_false, Bool.or_true, Bool.and_false, aa7, aa5]
    exact kX hr h n (k + 1) first hf
   | true =>
    cases h3 : decide ((bj r.body k).op = 1) with
    | false =>
     have : decide ((0 : Int) ≤ (k : Int)) = true := aa6 (by omega)
     simp [this]
    | true =>
     simp only [Bool.not_false, Bool.not_true, Bool.or_false, ac0, Bool.and_true, aa7, aa5, beq_self_eq_true, show (true == false) = false from rfl]
     have hk : decide ((0 : Int) ≤ (k : Int)) = true := aa6 (by omega)
     rcases hf with rfl | hf
     ·rw [kX hr h n (k + 1) _ (.inr (show (0 : Int) ≤ (bif decide ((-1 : Int) < 0) then (k : Int) else -1) by show (0 : Int) ≤ (k : Int); omega))]
      show (bif _ then _ else bif decide ((0 : Int) ≤ (k : Int)) then (k : Int) else _) = _
      rw [hk]; rfl
     ·have h0 : decide (first < 0) = false := aa4 (by omega)
      rw [h0, aa5, kX hr h n (k + 1) first (.inr hf), aa6 hf]; rfl
theorem zW {r : Rl} (hr : aG r = true) {b c : List ByteArray} (h : ∀ s, s ∈ b ↔ s ∈ c) (done : List Bool) : cR r done b = cU r done c := by
 unfold cU cR
 rw [kX hr h _ _ _ (.inl rfl)]; rfl
def jk (r : Rl) : Nat → List Bool → List ByteArray → Option (List Nat × List ByteArray)
 | 0, _, b => some ([], b)
 | n + 1, done, b => bif decide (cR r done b < 0) then none else (jk r n (done.set (cR r done b).toNat true) (bH b (gH r (cR r done b).toNat))).map fun x => ((cR r done b).toNat :: x.1, x.2)
theorem po {r : Rl} (hr : aG r = true) : ∀ (n : Nat) (done : List Bool) (b c : List ByteArray), (∀ s, s ∈ b ↔ s ∈ c) →
  (jk r n done b = none ∧ (mq r n done c).length < n) ∨ ∃ d, jk r n done b = some (mq r n done c, d) ∧ (mq r n done c).length = n ∧ ∀ s, s ∈ d ↔ s ∈ c ++ fR r (mq r n done c)
 | 0, done, b, c, h => .inr ⟨b, rfl, rfl, fun s => by simpa [mq, fR] using h s⟩
 | n + 1, done, b, c, h => by
  rw [jk, mq, zW hr h]
  cases h1 : decide (cU r done c < 0) with
  | true => left; exact ⟨rfl, by simp⟩
  | false =>
   rw [aa5, aa5]
   rcases po hr n (done.set (cU r done c).toNat true) (bH b (gH r (cU r done c).toNat)) (c ++ eM r (cU r done c).toNat) (fun s => by
    rw [jT, List.mem_append, h s, vE hr]) with ⟨e1, e2⟩ | ⟨d, e1, e2, e3⟩
   ·left; rw [e1]; exact ⟨rfl, by simpa using e2⟩
   ·right
    refine ⟨d, by rw [e1]; rfl, by simpa using e2, fun s => ?_⟩
    rw [e3 s]
    simp only [fR, List.flatMap_cons, List.append_assoc]
def kE (r : Rl) : List Bool := List.replicate r.body.length false
def Ez (r : Rl) : Bool := match jk r r.body.length (kE r) [] with | some x => hasB x.2 (dx r.head) | none => false
theorem Aa {r : Rl} (hr : aG r = true) : Ez r = iw r := by
 unfold Ez iw gw kE
 rcases po hr r.body.length (List.replicate r.body.length false) [] [] (fun _ => Iff.rfl) with ⟨e1, e2⟩ | ⟨d, e1, e2, e3⟩
 ·rw [e1, aa4 (by omega)]; rfl
 ·rw [e1, aa6 (by omega), ac0]
  exact kW (fun s => by simpa using e3 s) fun s => by rw [lu (s6 hr).1, mm]
def nG (c : Int) : Bool := decide (48 ≤ c) && decide (c ≤ 57)
def rT (s : ByteArray) : Nat → Nat → Bool
 | 0, _ => true
 | n + 1, i => (letter (iM s i) || (!decide (i = 0) && nG (iM s i))) && rT s n (i + 1)
theorem B1 {s : ByteArray} {p : Nat} (h : p < s.size) : iM s p = (s.get! p).toNat := by
 have e : s[p]? = some s[p] := getElem?_pos s p h
 unfold iM
 rw [e]
 have : s.get! p = s[p] := by
  obtain ⟨⟨l⟩⟩ := s
  show Array.get!Internal ⟨l⟩ p = _
  rw [Array.get!Internal_eq_getElem!, getElem!_pos _ p h]; rfl
 rw [this]
theorem MV {s : ByteArray} {p : Nat} (h : (s.get! p).toNat < 128) : Utf8.decode s p = ((s.get! p).toNat, 1) := by
 unfold Utf8.decode
 simp [h]
theorem Mk {s : ByteArray} {p : Nat} (h : ¬ (s.get! p).toNat < 128) : 128 ≤ (Utf8.decode s p).1 := by
 unfold Utf8.decode
 dsimp only
 simp only [Nat.add_zero, if_neg h]
 repeat' split
 all_goals simp only [Utf8.runeError, ge_iff_le, aa0, aa1] at *
 all_goals omega
theorem wk {c : Int} (h : 128 ≤ c) : letter c = false := by
 unfold letter
 rw [aa4 (show ¬ c ≤ 122 by omega), aa4 (show ¬ c ≤ 90 by omega), aa4 (show ¬ c = 95 by omega)]
 simp
theorem Au (s : ByteArray) : ∀ n i : Nat, i + n = s.size → rT s n i = nameAt s i
 | 0, i, h => by rw [rT, nameAt, dif_neg (by omega)]
 | n + 1, i, h => by
  rw [rT, nameAt, dif_pos (by omega), B1 (by omega)]
  by_cases hb : (s.get! i).toNat < 128
  ·rw [MV hb, Au s n (i + 1) (by omega)]
   congr 2
   unfold nG
   generalize ((s.get! i).toNat : Int) = c
   rw [Bool.eq_iff_iff]
   simp only [aa1, Bool.not_eq_true', aa0, aa2, Bool.or_eq_false_iff]
   omega
  ·have h1 := Mk hb
   rw [wk (c := ((Utf8.decode s i).1 : Int)) (by omega), wk (c := ((s.get! i).toNat : Int)) (by omega), aa6 (show (57 : Int) < ((Utf8.decode s i).1 : Int) by omega)]
   unfold nG
   rw [aa4 (show ¬ ((s.get! i).toNat : Int) ≤ 57 by omega)]
   simp
def xP (s : ByteArray) : Bool := (!(decide ((s.size : Int) < 1) || decide ((s.size : Int) > 40) || gC s (ByteArray.mk #[95]))) && rT s s.size 0
theorem Cg (s : ByteArray) : xP s = isName s := by
 unfold xP isName
 rw [Au s s.size 0 (by omega)]
 congr 2
 have e : decide ((s.size : Int) < 1) = gC s (ByteArray.mk #[]) := by
  unfold gC
  obtain ⟨⟨l⟩⟩ := s
  rw [ByteArray.toList_eq, ByteArray.toList_eq]
  cases l with
  | nil => rfl
  | cons a l =>
   rw [aa4 (by show ¬ (((a :: l).length : Nat) : Int) < 1; simp only [List.length_cons]; omega)]
   rfl
 have e2 : decide ((s.size : Int) > 40) = decide ((40 : Int) < s.size) := rfl
 rw [e, e2]
 cases gC s (ByteArray.mk #[]) <;> cases decide ((40 : Int) < s.size) <;> cases gC s (ByteArray.mk #[95]) <;> rfl
end Go.Rl
namespace Go.Proofs.YtdpmikfheebicaaGreatDoor
open Go Go.Dn Go.Rl Go.Proofs
attribute [local irreducible] a9 vc
set_option maxRecDepth 20000
def So : List AV → Option (Bool × AV)
 | [.lit (.int .u8 c)] => some (true, .bool (letter c))
 | _ => none
def RO : List AV → Option (Bool × AV)
 | [.lit (.int .u8 c)] => some (true, .bool (nG c))
 | _ => none
theorem cO {b c : Bool} (h : b = c) : AV.bool b = .lit (.bool c) := by rw [h]
theorem Fo (a b : Int) : (a == b) = decide (a = b) := by by_cases h : a = b <;> simp [h]
theorem XN (κ : Kp) (c : Int) (K : AV → List Dn.Obj → Prop) : (a9 (PK κ) 12 161 [.lit (.int .u8 c)] [] K) = (
 letI z2 := K (AV.bool (c == (95 : Int))) []
 letI z1 := ax (decide (c ≥ (65 : Int))) (ax (decide (c ≤ (90 : Int))) (K (AV.bool true) []) z2) z2
 ax (decide (c ≥ (97 : Int))) (ax (decide (c ≤ (122 : Int))) (K (AV.bool true) []) z1) z1) := by kernel_rfl
theorem Ze (κ : Kp) : bM (PK κ) 12 161 So := by
 intro args x h
 unfold So at h
 split at h
 ·simp only [aa3, aa9, true_and] at h
  subst h
  refine ⟨_, rfl, rfl, ?_⟩
  rw [XN]
  simp only [af, aa0, aa2, Fo]
  unfold letter
  repeat' (first | apply And.intro | intro _)
  all_goals (refine cO ?_; rw [Bool.eq_iff_iff]; simp only [ab6, aa1, aa0, Bool.false_eq_true, ge_iff_le, true_iff, false_iff]; omega)
 ·cases h
noncomputable def Of (κ : Kp) : Env := (PK κ).au 161 So
theorem ZG (κ : Kp) : aw (Of κ) := (WE κ).au (Tk κ) (Ze κ)
theorem Uk (κ : Kp) : ai (Of κ) := (Tk κ).au
theorem Wv (κ : Kp) (c : Int) (K : AV → List Dn.Obj → Prop) : (a9 (Of κ) 12 162 [.lit (.int .u8 c)] [] K) = (
 ax (decide (c ≥ (48 : Int))) (K (AV.bool (decide (c ≤ (57 : Int)))) []) (K (AV.bool false) [])) := by kernel_rfl
theorem pR2 (κ : Kp) : bM (Of κ) 12 162 RO := by
 intro args x h
 unfold RO at h
 split at h
 ·simp only [aa3, aa9, true_and] at h
  subst h
  refine ⟨_, rfl, rfl, ?_⟩
  rw [Wv]
  simp only [af, aa0, aa2]
  unfold nG
  repeat' (first | apply And.intro | intro _)
  all_goals (refine cO ?_; rw [Bool.eq_iff_iff]; simp only [aa1, aa0, Bool.false_eq_true, ge_iff_le, true_iff, false_iff]; omega)
 ·cases h
noncomputable def Qg (κ : Kp) : Env := (Of κ).au 162 RO
theorem Yq (κ : Kp) : aw (Qg κ) := (ZG κ).au (Uk κ) (pR2 κ)
theorem Tc (κ : Kp) : ai (Qg κ) := (Uk κ).au
theorem yR3 (κ : Kp) (op : Int) (K : AV → List Dn.Obj → Prop) : (a9 (Qg κ) 12 105 [.int op] [] K) = (
 ax (op == (5 : Int)) (K (AV.bool true) []) (ax (op == (6 : Int)) (K (AV.bool true) []) (K (AV.bool (op == (7 : Int))) []))) := by kernel_rfl
theorem XU (κ : Kp) : bM (Qg κ) 12 105 NT := by
 intro args x h
 unfold NT at h
 split at h
 ·rename_i op
  simp only [aa3, aa9, true_and] at h
  subst h
  refine ⟨_, rfl, rfl, ?_⟩
  rw [yR3]
  unfold dV
  by_cases h1 : op = 5 <;> by_cases h2 : op = 6 <;> by_cases h3 : op = 7 <;> simp [af, h1, h2, h3] <;> omega
 ·cases h
noncomputable def Pz (κ : Kp) : Env := (Qg κ).au 105 NT
theorem eRc (κ : Kp) : aw (Pz κ) := (Yq κ).au (Tc κ) (XU κ)
theorem TG (κ : Kp) : ai (Pz κ) := (Tc κ).au
theorem YV (κ : Kp) (op : Int) (s : ByteArray) (n : Int) (l : List AV) (K : AV → List Dn.Obj → Prop) : (a9 (Pz κ) 12 143 [.agg [.int op, .lit (.string s), .int n, .ae 52 l]] [] K) = (
 letI z1 := K (AV.bool false) []
 ax (op == (0 : Int)) (ax (ByteArray.toList s == ByteArray.toList { data := #[] }) (ax (n == (0 : Int)) (K (AV.bool ((↑(l.length) : Int) == (0 : Int))) []) z1) z1) z1) := by kernel_rfl
theorem pR4 (κ : Kp) : bM (Pz κ) 12 143 NF := by
 intro args x h
 unfold NF at h
 split at h
 ·rename_i op s n l
  simp only [aa3, aa9, true_and] at h
  subst h
  refine ⟨_, rfl, rfl, ?_⟩
  rw [YV]
  rw [HD]
  unfold bare gC
  cases h5 : (ByteArray.toList s == ByteArray.toList (ByteArray.mk #[])) <;> by_cases h0 : op = 0 <;> by_cases h1 : n = 0 <;> simp [af, h0, h1] <;> first | rfl | skip
 ·cases h
noncomputable def Qa (κ : Kp) : Env := (Pz κ).au 143 NF
theorem Xh (κ : Kp) : aw (Qa κ) := (eRc κ).au (TG κ) (pR4 κ)
theorem Tt (κ : Kp) : ai (Qa κ) := (TG κ).au
theorem WD (κ : Kp) (s : ByteArray) (l : List AV) (K : AV → List Dn.Obj → Prop) : (a9 (Qa κ) 12 144 [.agg [.lit (.string s), .ae 52 l]] [] K) = (
 ax (ByteArray.toList s == ByteArray.toList { data := #[] }) (K (AV.bool ((↑(l.length) : Int) == (0 : Int))) []) (K (AV.bool false) [])) := by kernel_rfl
theorem ZJ (κ : Kp) : bM (Qa κ) 12 144 NL := by
 intro args x h
 unfold NL at h
 split at h
 ·rename_i s l
  simp only [aa3, aa9, true_and] at h
  subst h
  refine ⟨_, rfl, rfl, ?_⟩
  rw [WD]
  unfold gC
  rw [HD]
  cases h5 : (ByteArray.toList s == ByteArray.toList (ByteArray.mk #[])) <;> simp [af] <;> first | rfl | skip
 ·cases h
noncomputable def Ky (κ : Kp) : Env := (Qa κ).au 144 NL
theorem eR1 (κ : Kp) : aw (Ky κ) := (Xh κ).au (Tt κ) (ZJ κ)
theorem Ut (κ : Kp) : ai (Ky κ) := (Tt κ).au
theorem Wj (κ : Kp) (s : ByteArray) (i : Int) (I : Nat → S → Prop) (n : Nat) (K : Exit → S → Prop) : (vc (Ky κ) 12 136 none 0 (ag (Pr κ).toProgram 136 4) (sp 42 [(0, .lit (.string s)), (3, .int i)] []) (bC (Ky κ) 136 4 0 I n K)) = (
 letI z1 := sp 42 [(0, AV.str s), (3, AV.int (IntKind.wrap IntKind.i64 (i + (1 : Int))))] []
 letI z2 := decide ((0 : Int) ≤ i) && decide (i < (↑(ByteArray.size s) : Int))
 letI z3 := K Exit.ret (sp 42 [(2, AV.bool false)] [])
 ax (decide (i < (↑(ByteArray.size s) : Int))) (aZ z2 (aZ z2 (ax (!letter (↑(iM s i.toNat) : Int)) (ax (i == (0 : Int)) z3 (ax (!nG (↑(iM s i.toNat) : Int)) z3
 (∃ (m : Nat), m < n ∧ I m z1))) (∃ (m : Nat), m < n ∧ I m z1)))) (K (Exit.exit 0) (sp 42 [] []))) := by kernel_rfl
abbrev Kb (a : ByteArray × Int) : S := sp 42 [(0, .lit (.string a.1)), (3, .int a.2)] []
def C5 (a : ByteArray × Int) : Prop := a.1.size ≤ aI ∧ 0 ≤ a.2 ∧ a.2 ≤ a.1.size
def zJ (a : ByteArray × Int) : Out (Exit × S) := .ax (rT a.1 (a.1.size - a.2.toNat) a.2.toNat) (.one (.exit 0, sp 42 [] [])) (.one (.ret, sp 42 [(2, .bool false)] []))
theorem XG (κ : Kp) : bg (Ky κ) 12 136 4 (aK 0 Kb C5 zJ) := by
 refine aO (fun a => a.1.size - a.2.toNat) ?_
 rintro ⟨s, i⟩ K ⟨h1, h2, h3⟩ ho
 simp only at h1 h2 h3
 rw [show (Ky κ).P = Pr κ from rfl]
 refine Eq.mpr (Wj κ s i _ _ K) ?_
 simp only [aI] at h1
 simp only [zJ, Out.run, af] at ho
 simp only [af, aq, aa0, aa2, aa1, Fo, Bool.not_eq_true', ab2]
 refine ⟨fun hi => ?_, fun hi => ?_⟩
 ·obtain ⟨m, hm⟩ : ∃ m, s.size - i.toNat = m + 1 := ⟨s.size - i.toNat - 1, by omega⟩
  rw [hm, rT] at ho
  rw [aU (n := i + 1) (by omega) (by omega)]
  have go : (letter (iM s i.toNat) || (!decide (i.toNat = 0) && nG (iM s i.toNat))) = true → ∃ m, m < s.size - i.toNat ∧ fp Kb C5 zJ (fun a => a.1.size - a.2.toNat) K m (Kb (s, i + 1)) := fun e => by
   refine ⟨_, ?_, (s, i + 1), rfl, ⟨by simpa [aI] using h1, by simp only; omega, by simp only; omega⟩, rfl, ?_⟩
   ·simp only; omega
   ·rw [e, ac0] at ho
    simp only [zJ, Out.run, af, show (i + 1).toNat = i.toNat + 1 by omega, show s.size - (i.toNat + 1) = m by omega]
    exact ho
  have no : (letter (iM s i.toNat) || (!decide (i.toNat = 0) && nG (iM s i.toNat))) = false → K .ret (sp 42 [(2, .bool false)] []) := fun e => by
   rw [e, Bool.false_and] at ho
   exact ho.2 rfl
  refine ⟨⟨h2, hi⟩, ⟨h2, hi⟩, fun e1 => ⟨fun e2 => no ?_, fun e2 => ⟨fun e3 => no ?_, fun e3 => go ?_⟩⟩, fun e1 => go ?_⟩
  ·rw [e1, aa6 (show i.toNat = 0 by omega)]; rfl
  ·rw [e1, e3]; simp
  ·rw [e1, e3, aa4 (show ¬ i.toNat = 0 by omega)]; rfl
  ·rw [e1]; rfl
 ·rw [show s.size - i.toNat = 0 by omega] at ho
  exact ho.1 rfl
noncomputable def GL (κ : Kp) : Env := (Ky κ).aj 136 4 (aK 0 Kb C5 zJ)
theorem Sb (κ : Kp) : aw (GL κ) := (eR1 κ).aj (Ut κ) (XG κ)
theorem Pc (κ : Kp) : ai (GL κ) := (Ut κ).aj aE
theorem Y4 (κ : Kp) (s : ByteArray) (K : AV → List Dn.Obj → Prop) : (a9 (GL κ) 12 136 [.lit (.string s)] [] K) = (
 letI z1 := K (AV.bool false) []
 letI z2 := Pg.toProgram (Env.P (Ky κ))
 ax (decide ((↑(ByteArray.size s) : Int) < (1 : Int))) z1 (ax (decide ((↑(ByteArray.size s) : Int) > (40 : Int))) z1 (ax (ByteArray.toList s == ByteArray.toList { data := #[OfNat.ofNat 95] }) z1 (ag z2 136 4 = ag z2 136 4 ∧ ∃ (a : ByteArray × Int), sp 42 [(0, AV.str s), (3, AV.int 0)] [] = sp 42 [(0, AV.str a.1), (3, AV.int a.2)] [] ∧ (ByteArray.size a.1 ≤ 9223372036854775807 ∧ (0 : Int) ≤ a.2 ∧ a.2 ≤ (↑(ByteArray.size a.1) : Int)) ∧ ax (rT a.1 (ByteArray.size a.1 - a.2.toNat) a.2.toNat) (K (AV.bool true) []) z1)))) := by kernel_rfl
theorem Xv (κ : Kp) : bM (GL κ) 12 136 NZ := by
 intro args x h
 unfold NZ at h
 split at h
 ·rename_i s
  simp only [aa3, aa9, true_and] at h
  subst h
  refine ⟨_, rfl, rfl, ?_⟩
  rw [Y4]
  rw [← Cg]
  unfold xP gC
  simp only [af, aa0, aa2]
  refine ⟨fun h1 => by rw [aa6 h1]; rfl, fun h1 => ⟨fun h2 => by rw [aa6 h2, aa4 h1]; rfl, fun h2 => ⟨fun h3 => ?_, fun h3 => ⟨trivial, ⟨s, 0⟩, rfl, ⟨by simp only [aI]; omega, by simp only; omega, by simp only; omega⟩, ?_⟩⟩⟩⟩
  ·rw [h3, aa4 h1, aa4 h2]; rfl
  ·rw [h3, aa4 h1, aa4 h2]
   simp only [ab8, Nat.sub_zero]
   exact ⟨fun h4 => by rw [h4]; rfl, fun h4 => by rw [h4]; rfl⟩
 ·cases h
noncomputable def N8 (κ : Kp) : Env := (GL κ).au 136 NZ
theorem eR6 (κ : Kp) : aw (N8 κ) := (Sb κ).au (Pc κ) (Xv κ)
theorem T9 (κ : Kp) : ai (N8 κ) := (Pc κ).au
theorem yR7 (κ : Kp) (op : Int) (s : ByteArray) (n : Int) (l : List AV) (K : AV → List Dn.Obj → Prop) : (a9 (N8 κ) 12 164 [.agg [.int op, .lit (.string s), .int n, .ae 52 l]] [] K) = (
 letI z2 := K (AV.bool false) []
 letI z3 := ByteArray.toList s == ByteArray.toList { data := #[] }
 letI z4 := K (AV.bool ((↑(l.length) : Int) == (0 : Int))) []
 letI z1 := ax (n == (0 : Int)) z4 z2
 ax (op == (1 : Int)) (ax (isName s) z1 z2) (ax (op == (2 : Int)) (ax z3 z4 z2) (ax (op == (3 : Int)) z1 (ax (op == (4 : Int)) (ax z3 z1 z2) z2)))) := by kernel_rfl
def Du (op : Int) (s : ByteArray) (n : Int) (k : Nat) : Bool := bif decide (op = 0) then false else bare op s n && decide (k = 0)
def Sa : List AV → Option (Bool × AV)
 | [.agg [.lit (.int .i64 op), .lit (.string s), .lit (.int .i64 n), .ae 52 l]] => some (true, .bool (Du op s n l.length))
 | _ => none
theorem Pu (l : List AV) : ((l.length : Int) == 0) = decide (l.length = 0) := by
 rw [HD]
 by_cases h : l.length = 0
 ·rw [aa6 h, aa6 (by omega)]
 ·rw [aa4 h, aa4 (by omega)]
theorem Yr (κ : Kp) : bM (N8 κ) 12 164 Sa := by
 intro args x h
 unfold Sa at h
 split at h
 ·rename_i op s n l
  simp only [aa3, aa9, true_and] at h
  subst h
  refine ⟨_, rfl, rfl, ?_⟩
  rw [yR7]
  simp only [Pu]
  simp only [Fo]
  unfold Du bare gC
  generalize (ByteArray.toList s == ByteArray.toList (ByteArray.mk #[])) = z
  generalize isName s = y
  generalize decide (n = 0) = w
  generalize decide (l.length = 0) = v
  by_cases h1 : op = 1
  ·subst h1; cases y <;> cases w <;> cases v <;> rfl
  by_cases h2 : op = 2
  ·subst h2; cases z <;> cases v <;> rfl
  by_cases h3 : op = 3
  ·subst h3; cases w <;> cases v <;> rfl
  by_cases h4 : op = 4
  ·subst h4; cases z <;> cases w <;> cases v <;> rfl
  rw [aa4 h1, aa4 h2, aa4 h3, aa4 h4]
  cases decide (op = 0) <;> rfl
 ·cases h
noncomputable def Q0 (κ : Kp) : Env := (N8 κ).au 164 Sa
theorem Tq (κ : Kp) : aw (Q0 κ) := (eR6 κ).au (T9 κ) (Yr κ)
theorem UU (κ : Kp) : ai (Q0 κ) := (T9 κ).au
def Nf : List AV → Option (Bool × AV)
 | [.agg [.lit (.int .i64 op), .lit (.string s), .lit (.int .i64 n), .ae 52 l], .lit (.int .i64 h)] => some (decide (0 ≤ h) && decide (h ≤ 1000), .bool (ak h.toNat (.mk op s n (aa l))))
 | _ => none
noncomputable def yV (κ : Kp) (n : Nat) : Env := (Q0 κ).au 142 (below Nf qp n)
theorem xR8 (κ : Kp) (r : Nat) (op : Int) (s : ByteArray) (m : Int) (h : Int) (l : List AV) (i : Int) (I : Nat → S → Prop) (n : Nat) (K : Exit → S → Prop) : (vc (yV κ r) 12 142 none 0 (ag (Pr κ).toProgram 142 8) (sp 59 [(1, .int h), (2, .ptr 0 0 [] 0), (5, .int i)] [.box 52 (.agg [.int op, .lit (.string s), .int m, .ae 52 l])]) (bC (yV κ r) 142 8 0 I n K)) = (
 letI z1 := decide ((0 : Int) ≤ i) && decide (i < (↑(l.length) : Int))
 letI z2 := nth l i.toNat
 letI z3 := K Exit.ret (sp 59 [(4, AV.bool false)] [])
 letI z5 := h - (1 : Int)
 letI z4 := IntKind.wrap IntKind.i64 z5
 ax (decide (i < (2 : Int))) (aZ z1 (ax (toInt (ad z2 0) == (3 : Int)) z3 (aZ z1 (ax (toInt (ad z2 0) == (4 : Int)) z3 (aZ z1 (aZ (decide ((0 : Int) ≤
 IntKind.wrap IntKind.i64 z5) && decide (IntKind.wrap IntKind.i64 z5 ≤ (1000 : Int)) && Nat.blt (qp [AV.agg [AV.int (toInt (ad z2 0)), AV.str (toStr (ad z2 1)),
 AV.int (toInt (ad z2 2)), AV.ae 52 (ah (ad z2 3))], AV.int z4]) r) (ax (!ak (Int.toNat z4) (Tm.mk (toInt (ad z2 0)) (toStr (ad z2 1)) (toInt (ad z2 2)) (aa (ah
 (ad z2 3))))) z3 (∃ (m_1 : Nat), m_1 < n ∧ I m_1 (sp 59 [(1, AV.int h), (2, AV.ptr 0 0 [] 0), (5, AV.int (IntKind.wrap IntKind.i64 (i + (1 : Int))))] [Obj.box
 52 (AV.agg [AV.int op, AV.str s, AV.int m, AV.ae 52 l])]))))))))) (K (Exit.exit 0) (sp 59 [] []))) := by kernel_rfl
structure QP where
 op : Int
 s : ByteArray
 m : Int
 h : Int
 l : List AV
 i : Int
abbrev PB (a : QP) : S := sp 59 [(1, .int a.h), (2, .ptr 0 0 [] 0), (5, .int a.i)] [.box 52 (.agg [.int a.op, .lit (.string a.s), .int a.m, .ae 52 a.l])]
def HI (r : Nat) (a : QP) : Prop := 1 ≤ a.h ∧ a.h ≤ 1000 ∧ a.h.toNat ≤ r ∧ a.l.length = 2 ∧ 0 ≤ a.i ∧ a.i ≤ 2
def Fe (a : QP) : Out (Exit × S) :=
 .ax (fc (a.h - 1).toNat (aa (a.l.drop a.i.toNat))) (.one (.exit 0, sp 59 [] [])) (.one (.ret, sp 59 [(4, .bool false)] []))
theorem YE (κ : Kp) (r : Nat) : bg (yV κ r) 12 142 8 (aK 0 PB (HI r) Fe) := by
 refine aO (fun a => 2 - a.i.toNat) ?_
 rintro ⟨op, s, m, h, l, i⟩ K ⟨h1, h2, h3, h4, h5, h6⟩ ho
 simp only at h1 h2 h3 h4 h5 h6
 rw [show (yV κ r).P = Pr κ from rfl]
 refine Eq.mpr (xR8 κ r op s m h l i _ _ K) ?_
 simp only [Fe, Out.run, af] at ho
 simp only [← bX]
 simp only [af, aq, aa0, aa2, aa1, beq_iff_eq, beq_eq_false_iff_ne, Bool.not_eq_true', ab2, qp, Nat.blt_eq]
 refine ⟨fun hi => ?_, fun hi => ho.1 ?_⟩
 ·have e := cy l i.toNat (by omega)
  rw [e] at ho
  have hop : (bI (nth l i.toNat)).op = toInt (ad (nth l i.toNat) 0) := by rw [bX]; rfl
  simp only [fc, ac1, hop] at ho
  rw [aU (n := h - 1) (by omega) (by omega)]
  refine ⟨⟨h5, by omega⟩, fun ha => ho.2 (by simp [ha]), fun ha => ⟨⟨h5, by omega⟩, fun hb => ho.2 (by simp [hb]), fun hb => ⟨⟨h5, by omega⟩, ⟨⟨by omega, by omega⟩, by omega⟩, fun hc => ?_, fun hc => ?_⟩⟩⟩
  ·exact ho.2 (by rw [hc]; simp)
  ·rw [aU (n := i + 1) (by omega) (by omega)]
   refine ⟨_, ?_, ⟨op, s, m, h, l, i + 1⟩, rfl, ⟨h1, h2, h3, h4, by simp only; omega, by simp only; omega⟩, rfl, ?_⟩
   ·simp only; omega
   ·rw [hc] at ho
    simp only [Fe, Out.run, af, fc]
    rw [show (i + 1).toNat = i.toNat + 1 by omega]
    simpa [ha, hb] using ho
 ·rw [aa8 (by omega)]; rfl
noncomputable def F8 (κ : Kp) (r : Nat) : Env := (yV κ r).aj 142 8 (aK 0 PB (HI r) Fe)
theorem yR8 (κ : Kp) (r : Nat) (op : Int) (s : ByteArray) (n : Int) (l : List AV) (h : Int) (K : AV → List Dn.Obj → Prop) : (a9 (F8 κ r) 12 142 [.agg [.int op, .lit (.string s), .int n, .ae 52 l], .int h] [] K) = (
 letI z1 := K (AV.bool false) []
 letI z2 := Pg.toProgram (Env.P (yV κ r))
 ax (decide (h < (1 : Int))) z1 (ax (!dV op) (K (AV.bool (Du op s n l.length)) []) (ax (!ByteArray.toList s == ByteArray.toList {data := #[] }) z1 (ax (n != (0 : Int)) z1 (ax ((↑(l.length) : Int) != (2 : Int)) z1 (ag z2 142 8 = ag z2 142 8 ∧ ∃ (a : QP), sp 59 [(1, AV.int h), (2, AV.ptr 0 0 [] 0), (5, AV.int 0)] [Obj.box 52 (AV.agg [AV.int op, AV.str s, AV.int n, AV.ae 52 l])] = sp 59 [(1, AV.int a.h), (2, AV.ptr 0 0 [] 0), (5, AV.int a.i)] [Obj.box 52 (AV.agg [AV.int a.op, AV.str a.s, AV.int a.m, AV.ae 52 a.l])] ∧ ((1 : Int) ≤ a.h ∧ a.h ≤ (1000 : Int) ∧ a.h.toNat ≤ r ∧ a.l.length = 2 ∧ (0 : Int) ≤ a.i ∧ a.i ≤ (2 : Int)) ∧ ax (fc (Int.toNat (a.h - (1 : Int))) (aa (List.drop a.i.toNat a.l))) (K (AV.bool true) []) z1)))))) := by kernel_rfl
theorem RA (κ : Kp) (r : Nat) (hp : fe (Pr κ) 142 (below Nf qp r)) : aw (F8 κ r) ∧ ai (F8 κ r) ∧ (F8 κ r).P = Pr κ :=
 have h : aw (yV κ r) := (Tq κ).dp hp
 have hm : ai (yV κ r) := (UU κ).au
 ⟨h.aj hm (YE κ r), hm.aj aE, rfl⟩
theorem Yh (κ : Kp) (r : Nat) : bM (F8 κ r) 12 142 (fun xs => bif Nat.beq (qp xs) r then Nf xs else none) := by
 intro args x hh
 cases hb : Nat.beq (qp args) r with
 | false => simp only [hb] at hh; cases hh
 | true =>
  simp only [hb, aa7] at hh
  unfold Nf at hh
  split at hh
  ·rename_i op s n l h
   simp only [aa3, aa9, aa1, aa0] at hh
   obtain ⟨⟨h1, h2⟩, rfl⟩ := hh
   have hr : h.toNat = r := Nat.eq_of_beq_eq_true hb
   refine ⟨_, rfl, rfl, ?_⟩
   refine Eq.mpr (yR8 κ r op s n l h _) ?_
   by_cases h0 : h = 0
   ·subst h0; rfl
   ·obtain ⟨m, hm⟩ : ∃ m, h.toNat = m + 1 := ⟨h.toNat - 1, by omega⟩
    rw [hm, hN, cL]
    unfold gC
    generalize (ByteArray.toList s == ByteArray.toList (ByteArray.mk #[])) = z
    simp only [af, beq_iff_eq, beq_eq_false_iff_ne, Bool.not_eq_true', ab2, aa0, aa2, bne_iff_ne, bne_eq_false_iff_eq]
    refine ⟨fun e => absurd e (by omega), fun _ => ⟨fun e2 => cO ?_, fun e2 => ?_⟩⟩
    ·rw [e2]; unfold Du; rfl
    ·have h5 : decide (op = 0) = false := by
      rw [aa2]; intro h; subst h; revert e2; decide
     rw [e2, h5, aa5, aa7]
     refine ⟨fun e3 => cO (by rw [e3]; rfl), fun e3 => ⟨fun e4 => cO (by rw [e3, aa4 e4]; rfl), fun e4 => ⟨fun e5 => cO ?_, fun e5 => ?_⟩⟩⟩
     ·rw [aa4 (show ¬ l.length = 2 by omega)]; simp
     ·refine ⟨trivial, ⟨op, s, n, h, l, 0⟩, rfl, ⟨by simp only; omega, h2, by simp only; omega, by simp only; omega, by simp only; omega, by simp only; omega⟩, ?_⟩
      rw [e3, aa6 e4, aa6 (show l.length = 2 by omega)]
      simp only [show (h - 1).toNat = m by omega, ab8, ab0, ac0]
      exact ⟨fun e => by rw [e], fun e => by rw [e]⟩
  ·cases hh
theorem qR8 (κ : Kp) : fe (Pr κ) 142 Nf := aw.me Nf qp (F8 κ) (RA κ) (Yh κ)
noncomputable def Kk (κ : Kp) : Env := (Q0 κ).au 142 Nf
theorem eR8 (κ : Kp) : aw (Kk κ) := (Tq κ).dp (qR8 κ)
theorem To (κ : Kp) : ai (Kk κ) := (UU κ).au
theorem xRA (κ : Kp) (rel : ByteArray) (l : List AV) (i : Int) (I : Nat → S → Prop) (n : Nat) (K : Exit → S → Prop) : (vc (Kk κ) 12 104 none 0 (ag (Pr κ).toProgram 104 5) (sp 38 [(1, .ptr 0 0 [] 0), (4, .int i)] [.box 38 (.agg [.lit (.string rel), .ae 52 l])]) (bC (Kk κ) 104 5 0 I n K)) = (
 letI z1 := nth l i.toNat
 ax (decide (i < (↑(l.length) : Int))) (aZ (decide ((0 : Int) ≤ i) && decide (i < (↑(l.length) : Int))) (ax (!ak 20 (Tm.mk (toInt (ad z1 0)) (toStr (ad z1 1))
 (toInt (ad z1 2)) (aa (ah (ad z1 3))))) (K Exit.ret (sp 38 [(2, AV.bool false)] [])) (∃ (m : Nat), m < n ∧ I m (sp 38 [(1, AV.ptr 0 0 [] 0), (4, AV.int
 (IntKind.wrap IntKind.i64 (i + (1 : Int))))] [Obj.box 38 (AV.agg [AV.str rel, AV.ae 52 l])])))) (K (Exit.exit 0) (sp 38 [] []))) := by kernel_rfl
abbrev N5 (a : ByteArray × List AV × Int) : S := sp 38 [(1, .ptr 0 0 [] 0), (4, .int a.2.2)] [.box 38 (.agg [.lit (.string a.1), .ae 52 a.2.1])]
def GJ (a : ByteArray × List AV × Int) : Prop := a.2.1.length ≤ aI ∧ 0 ≤ a.2.2 ∧ a.2.2 ≤ a.2.1.length
def Eg (a : ByteArray × List AV × Int) : Out (Exit × S) := .ax ((aa (a.2.1.drop a.2.2.toNat)).all (ak 20)) (.one (.exit 0, sp 38 [] [])) (.one (.ret, sp 38 [(2, .bool false)] []))
theorem Ws (κ : Kp) : bg (Kk κ) 12 104 5 (aK 0 N5 GJ Eg) := by
 refine aO (fun a => a.2.1.length - a.2.2.toNat) ?_
 rintro ⟨rel, l, i⟩ K ⟨h1, h2, h3⟩ ho
 simp only at h1 h2 h3
 rw [show (Kk κ).P = Pr κ from rfl]
 refine Eq.mpr (xRA κ rel l i _ _ K) ?_
 simp only [aI] at h1
 simp only [Eg, Out.run, af] at ho
 simp only [← bX]
 simp only [af, aq, aa0, aa2, aa1, Bool.not_eq_true', ab2]
 refine ⟨fun hi => ?_, fun hi => ?_⟩
 ·rw [cy l i.toNat (by omega), ac1] at ho
  rw [aU (n := i + 1) (by omega) (by omega)]
  refine ⟨⟨h2, hi⟩, fun e => ?_, fun e => ?_⟩
  ·exact ho.2 (by rw [show ak 20 (bI (nth l i.toNat)) = false from e]; rfl)
  ·rw [show ak 20 (bI (nth l i.toNat)) = true from e, ac0] at ho
   refine ⟨_, ?_, (rel, l, i + 1), rfl, ⟨by simpa [aI] using h1, by simp only; omega, by simp only; omega⟩, rfl, ?_⟩
   ·simp only; omega
   ·simp only [Eg, Out.run, af, show (i + 1).toNat = i.toNat + 1 by omega]
    exact ho
 ·rw [aa8 (by omega)] at ho
  exact ho.1 rfl
noncomputable def He (κ : Kp) : Env := (Kk κ).aj 104 5 (aK 0 N5 GJ Eg)
theorem SW (κ : Kp) : aw (He κ) := (eR8 κ).aj (To κ) (Ws κ)
theorem O0 (κ : Kp) : ai (He κ) := (To κ).aj aE
theorem yRA (κ : Kp) (rel : ByteArray) (l : List AV) (K : AV → List Dn.Obj → Prop) : (a9 (He κ) 12 104 [.agg [.lit (.string rel), .ae 52 l]] [] K) = (
 letI z1 := K (AV.bool false) []
 letI z2 := Pg.toProgram (Env.P (Kk κ))
 ax (!isName rel) z1 (ax (decide ((↑(l.length) : Int) < (1 : Int))) z1 (ax (decide ((↑(l.length) : Int) > (8 : Int))) z1 (ag z2 104 5 = ag z2 104 5 ∧ ∃ (a :
 ByteArray × List AV × Int), sp 38 [(1, AV.ptr 0 0 [] 0), (4, AV.int 0)] [Obj.box 38 (AV.agg [AV.str rel, AV.ae 52 l])] = sp 38 [(1, AV.ptr 0 0 [] 0), (4, AV.int
 (a.2.2))] [Obj.box 38 (AV.agg [AV.str a.1, AV.ae 52 a.2.1])] ∧ (a.2.1.length ≤ 9223372036854775807 ∧ (0 : Int) ≤ a.2.2 ∧ a.2.2 ≤ (↑(a.2.1.length) : Int)) ∧ ax
 (List.all (aa (List.drop (Int.toNat (a.2.2)) a.2.1)) (ak 20)) (K (AV.bool true) []) z1)))) := by kernel_rfl
def RP : List AV → Option (Bool × AV)
 | [.agg [.lit (.string rel), .ae 52 l]] => some (decide (l.length ≤ aI), .bool (aW ⟨rel, aa l⟩))
 | _ => none
theorem WI (κ : Kp) : bM (He κ) 12 104 RP := by
 intro args x hh
 unfold RP at hh
 split at hh
 ·rename_i rel l
  simp only [aa3, aa9, aa0] at hh
  obtain ⟨h1, rfl⟩ := hh
  refine ⟨_, rfl, rfl, ?_⟩
  refine Eq.mpr (yRA κ rel l _) ?_
  unfold aW
  simp only [cL]
  simp only [af, aa0, aa2, Bool.not_eq_true', ab2]
  refine ⟨fun e => cO (by rw [e]; rfl), fun e => ⟨fun e2 => cO ?_, fun e2 => ⟨fun e3 => cO ?_, fun e3 => ⟨trivial, (rel, l, 0), rfl, ⟨h1, by simp only; omega, by simp only; omega⟩, ?_⟩⟩⟩⟩
  ·rw [aa6 (show l.length = 0 by omega)]; simp
  ·rw [aa4 (show ¬ l.length ≤ 8 by omega)]; simp
  ·rw [e, aa4 (show ¬ l.length = 0 by omega), aa6 (show l.length ≤ 8 by omega)]
   simp only [ab8, ab0, Bool.not_false, ac0]
   exact ⟨fun e4 => cO e4.symm, fun e4 => cO e4.symm⟩
 ·cases hh
noncomputable def Qw (κ : Kp) : Env := (He κ).au 104 RP
theorem Xx (κ : Kp) : aw (Qw κ) := (SW κ).au (O0 κ) (WI κ)
theorem Uo (κ : Kp) : ai (Qw κ) := (O0 κ).au
theorem Yn (κ : Kp) (op : Int) (rel : ByteArray) (l : List AV) (o1 : Int) (s1 : ByteArray) (n1 : Int) (l1 : List AV) (o2 : Int) (s2 : ByteArray) (n2 : Int) (l2 : List AV) (K : AV → List Dn.Obj → Prop) : (a9 (Qw κ) 12 106 [.agg [.int op, .agg [.lit (.string rel), .ae 52 l], .agg [.int o1, .lit (.string s1), .int n1, .ae 52 l1], .agg [.int o2, .lit (.string s2), .int n2, .ae 52 l2]]] [] K) = (
 letI z1 := K (AV.bool false) []
 letI z7 := aW { rel := rel, l := aa l }
 letI z9 := ak 20 (Tm.mk o1 s1 n1 (aa l1))
 letI z10 := (0 : Int)
 letI z4 := K (AV.lit (Value.bool (decide (o2 = z10) && bare o2 s2 n2 && decide ((↑(l2.length) : Int) = z10)))) []
 letI z6 := ax z7 (ax (decide (o1 = z10) && bare o1 s1 n1 && decide ((↑(l1.length) : Int) = z10)) z4 z1) z1
 letI z11 := ak 20 (Tm.mk o2 s2 n2 (aa l2))
 letI z5 := ax z9 (ax z11 (ax (o1 != (4 : Int)) (K (AV.bool (o2 != (4 : Int))) []) z1) z1) z1
 letI z3 := ax (gC rel { data := #[] } && decide ((↑(l.length) : Int) = z10)) z5 z1
 letI z8 := ax z11 (K (AV.bool (o2 == (1 : Int))) []) z1
 letI z2 := ax z9 (ax (o1 == (1 : Int)) z8 (ax (o1 == (2 : Int)) z8 z1)) z1
 aZ (decide (l.length ≤ 9223372036854775807)) (ax (op == (1 : Int)) z6 (ax (op == (2 : Int)) z6 (ax (op == (3 : Int)) z3 (ax (op == (4 : Int)) z3 (ax (op == (5 : Int)) (ax (gC rel {data := #[] } && decide ((↑(l.length) : Int) = z10)) z5 z1) (ax (op == (6 : Int)) z3 (ax (op == (7 : Int)) (ax z7 (ax z9 (ax (o1 == (1 : Int)) z4 (ax (o1 == (2 : Int)) z4 z1)) z1) z1) (ax (op == (8 : Int)) (ax z7 z2 z1) (ax (op == (9 : Int)) (ax (aW {rel := rel, l := aa l }) z2 z1) (ax (op == (10 : Int)) (ax z7 z2 z1) z1))))))))))) := by kernel_rfl
def R8 : List AV → Option (Bool × AV)
 | [.agg [.lit (.int .i64 op), .agg [.lit (.string rel), .ae 52 l], .agg [.lit (.int .i64 o1), .lit (.string s1), .lit (.int .i64 n1), .ae 52 l1], .agg [.lit (.int .i64 o2), .lit (.string s2), .lit (.int .i64 n2), .ae 52 l2]]] =>
  some (decide (l.length ≤ aI), .bool (dI ⟨op, ⟨rel, aa l⟩, .mk o1 s1 n1 (aa l1), .mk o2 s2 n2 (aa l2)⟩))
 | _ => none
theorem sD (a b : Int) : (a != b) = !decide (a = b) := by by_cases h : a = b <;> simp [h]
theorem ZV (κ : Kp) : bM (Qw κ) 12 106 R8 := by
 intro args x hh
 unfold R8 at hh
 split at hh
 ·rename_i op rel l o1 s1 n1 l1 o2 s2 n2 l2
  simp only [aa3, aa9, aa0] at hh
  obtain ⟨h1, rfl⟩ := hh
  refine ⟨_, rfl, rfl, ?_⟩
  refine Eq.mpr (Yn κ op rel l o1 s1 n1 l1 o2 s2 n2 l2 _) ?_
  rw [xI, CU, CU, IY, aq, aa0]
  refine ⟨h1, ?_⟩
  simp only [Fo, sD]
  rw [show NP (.mk o1 s1 n1 (aa l1)) = (decide (o1 = 1) || decide (o1 = 2)) from rfl]
  generalize aW ⟨rel, aa l⟩ = A
  generalize ak 20 (.mk o1 s1 n1 (aa l1)) = X
  generalize ak 20 (.mk o2 s2 n2 (aa l2)) = Y
  generalize (decide (o1 = 0) && bare o1 s1 n1 && decide ((l1.length : Int) = 0)) = nx
  generalize (decide (o2 = 0) && bare o2 s2 n2 && decide ((l2.length : Int) = 0)) = ny
  generalize (gC rel (ByteArray.mk #[]) && decide ((l.length : Int) = 0)) = na
  generalize decide (o1 = 4) = a4
  generalize decide (o2 = 4) = b4
  generalize decide (o1 = 1) = a1
  generalize decide (o1 = 2) = a2
  generalize decide (o2 = 1) = b1
  by_cases e1 : op = 1
  ·subst e1; cases A <;> cases nx <;> rfl
  by_cases e2 : op = 2
  ·subst e2; cases A <;> cases nx <;> rfl
  by_cases e3 : op = 3
  ·subst e3; cases na <;> cases X <;> cases Y <;> cases a4 <;> cases b4 <;> rfl
  by_cases e4 : op = 4
  ·subst e4; cases na <;> cases X <;> cases Y <;> cases a4 <;> cases b4 <;> rfl
  by_cases e5 : op = 5
  ·subst e5; cases na <;> cases X <;> cases Y <;> cases a4 <;> cases b4 <;> rfl
  by_cases e6 : op = 6
  ·subst e6; cases na <;> cases X <;> cases Y <;> cases a4 <;> cases b4 <;> rfl
  by_cases e7 : op = 7
  ·subst e7; cases A <;> cases X <;> cases a1 <;> cases a2 <;> cases ny <;> rfl
  by_cases e8 : op = 8
  ·subst e8; cases A <;> cases X <;> cases Y <;> cases a1 <;> cases a2 <;> cases b1 <;> rfl
  by_cases e9 : op = 9
  ·subst e9; cases A <;> cases X <;> cases Y <;> cases a1 <;> cases a2 <;> cases b1 <;> rfl
  by_cases Q1 : op = 10
  ·subst Q1; cases A <;> cases X <;> cases Y <;> cases a1 <;> cases a2 <;> cases b1 <;> rfl
  rw [aa4 e1, aa4 e2, aa4 e3, aa4 e4, aa4 e5, aa4 e6, aa4 e7, aa4 e8, aa4 e9, aa4 Q1]
  rfl
 ·cases hh
noncomputable def LI (κ : Kp) : Env := (Qw κ).au 106 R8
theorem WV (κ : Kp) : aw (LI κ) := (Xx κ).au (Uo κ) (ZV κ)
theorem TU (κ : Kp) : ai (LI κ) := (Uo κ).au
abbrev AP := b5 × Int
theorem YH (κ : Kp) (a : AP) (I : Nat → S → Prop) (n : Nat) (K : Exit → S → Prop) : (vc (LI κ) 12 65 none 0 (ag (Pr κ).toProgram 65 5) (sp 65 [(1, .ptr 0 0 [] 0), (4, .int a.2)] [.box 41 (aF a.1)]) (bC (LI κ) 65 5 0 I n K)) = (
 letI z1 := sp 65 [(1, AV.ptr 0 0 [] 0), (4, AV.int (IntKind.wrap IntKind.i64 (a.2 + (1 : Int))))] [Obj.box 41 (aF a.1)]
 letI z2 := K Exit.ret (sp 65 [(2, AV.bool false)] [])
 letI z3 := ad (nth a.1.hl a.2.toNat) 0
 ax (decide (a.2 < (↑(a.1.hl.length) : Int))) (aZ (decide ((0 : Int) ≤ a.2) && decide (a.2 < (↑(a.1.hl.length) : Int))) (ax (toInt z3 == (4 : Int)) z2 (ax (dV
 (toInt z3)) z2 (ax (toInt z3 == (1 : Int)) (ax ((↑(a.1.bl.length) : Int) == (0 : Int)) z2 (∃ (m : Nat), m < n ∧ I m z1)) (∃ (m : Nat), m < n ∧ I m z1))))) (K
 (Exit.exit 0) (sp 65 [(1, AV.ptr 0 0 [] 0)] [Obj.box 41 (aF a.1)]))) := by kernel_rfl
abbrev KF (a : AP) : S := sp 65 [(1, .ptr 0 0 [] 0), (4, .int a.2)] [.box 41 (aF a.1)]
def Cy (a : AP) : Prop := a.1.hl.length ≤ aI ∧ 0 ≤ a.2 ∧ a.2 ≤ a.1.hl.length
def zK (a : AP) : Out (Exit × S) := .ax ((aa (a.1.hl.drop a.2.toNat)).all (kQ a.1.bl.length)) (.one (.exit 0, sp 65 [(1, .ptr 0 0 [] 0)] [.box 41 (aF a.1)])) (.one (.ret, sp 65 [(2, .bool false)] []))
theorem VI (κ : Kp) : bg (LI κ) 12 65 5 (aK 0 KF Cy zK) := by
 refine aO (fun a => a.1.hl.length - a.2.toNat) ?_
 rintro ⟨a, i⟩ K ⟨h1, h2, h3⟩ ho
 simp only at h1 h2 h3
 rw [show (LI κ).P = Pr κ from rfl]
 refine Eq.mpr (YH κ (a, i) _ _ K) ?_
 simp only [aI] at h1
 simp only [zK, Out.run, af] at ho
 simp only [af, aq, aa0, aa2, aa1, beq_iff_eq, beq_eq_false_iff_ne]
 refine ⟨fun hi => ?_, fun hi => ?_⟩
 ·have hop : (bI (nth a.hl i.toNat)).op = toInt (ad (nth a.hl i.toNat) 0) := by rw [bX]; rfl
  rw [cy a.hl i.toNat (by omega), ac1, kQ, hop] at ho
  rw [aU (n := i + 1) (by omega) (by omega)]
  generalize toInt (ad (nth a.hl i.toNat) 0) = op at *
  have go : (!decide (op = 4) && !dV op && (!decide (op = 1) || decide (0 < a.bl.length))) = true → ∃ m, m < a.hl.length - i.toNat ∧ fp KF Cy zK (fun a => a.1.hl.length - a.2.toNat) K m (KF (a, i + 1)) := fun e => by
   rw [e, ac0] at ho
   refine ⟨_, ?_, (a, i + 1), rfl, ⟨by simpa [aI] using h1, by simp only; omega, by simp only; omega⟩, rfl, ?_⟩
   ·simp only; omega
   ·simp only [zK, Out.run, af, show (i + 1).toNat = i.toNat + 1 by omega]
    exact ho
  have no : (!decide (op = 4) && !dV op && (!decide (op = 1) || decide (0 < a.bl.length))) = false → K .ret (sp 65 [(2, .bool false)] []) := fun e => by
   rw [e, Bool.false_and] at ho
   exact ho.2 rfl
  refine ⟨⟨h2, hi⟩, fun e1 => no ?_, fun e1 => ⟨fun e2 => no ?_, fun e2 => ⟨fun e3 => ⟨fun e4 => no ?_, fun e4 => go ?_⟩, fun e3 => go ?_⟩⟩⟩
  ·rw [aa6 e1]; rfl
  ·rw [e2]; simp
  ·rw [aa6 e3, aa4 (show ¬ 0 < a.bl.length by omega)]; simp
  ·rw [aa4 e1, e2, aa6 (show 0 < a.bl.length by omega)]; simp
  ·rw [aa4 e1, e2, aa4 e3]; rfl
 ·rw [aa8 (by omega)] at ho
  exact ho.1 rfl
noncomputable def KJ (κ : Kp) : Env := (LI κ).aj 65 5 (aK 0 KF Cy zK)
theorem W6 (κ : Kp) : aw (KJ κ) := (WV κ).aj (TU κ) (VI κ)
theorem Th (κ : Kp) : ai (KJ κ) := (TU κ).aj aE
theorem Zo (κ : Kp) (a : AP) (I : Nat → S → Prop) (n : Nat) (K : Exit → S → Prop) : (vc (KJ κ) 12 65 none 0 (ag (Pr κ).toProgram 65 11) (sp 65 [(1, .ptr 0 0 [] 0), (6, .int a.2)] [.box 41 (aF a.1)]) (bC (KJ κ) 65 11 0 I n K)) = (
 letI z1 := nth a.1.bl a.2.toNat
 ax (decide (a.2 < (↑(a.1.bl.length) : Int))) (aZ (decide ((0 : Int) ≤ a.2) && decide (a.2 < (↑(a.1.bl.length) : Int))) (aZ (decide (List.length (ah (ad (ad z1 1) 1)) ≤ 9223372036854775807)) (ax (!dI {op := toInt (ad z1 0), a := { rel := toStr (ad (ad z1 1) 0), l := aa (ah (ad (ad z1 1) 1)) }, x := Tm.mk (toInt (ad (ad z1 2) 0)) (toStr (ad (ad z1 2) 1)) (toInt (ad (ad z1 2) 2)) (aa (ah (ad (ad z1 2) 3))), y := Tm.mk (toInt (ad (ad z1 3) 0)) (toStr (ad (ad z1 3) 1)) (toInt (ad (ad z1 3) 2)) (aa (ah (ad (ad z1 3) 3))) }) (K Exit.ret (sp 65 [(2, AV.bool false)] [])) (∃ (m : Nat), m < n ∧ I m (sp 65 [(1, AV.ptr 0 0 [] 0), (6, AV.int (IntKind.wrap IntKind.i64 (a.2 + (1 : Int))))] [Obj.box 41 (AV.agg [AV.agg [AV.str a.1.rel, AV.ae 52 a.1.hl], AV.ae 55 a.1.bl, AV.int a.1.line])]))))) (K (Exit.exit 2) (sp 65 [] []))) := by kernel_rfl
abbrev OW (a : AP) : S := sp 65 [(1, .ptr 0 0 [] 0), (6, .int a.2)] [.box 41 (aF a.1)]
def Iz (a : AP) : Prop := (a.1.bl.length ≤ aI ∧ ∀ x, x ∈ a.1.bl → (ah (ad (ad x 1) 1)).length ≤ aI) ∧ 0 ≤ a.2 ∧ a.2 ≤ a.1.bl.length
def E5 (a : AP) : Out (Exit × S) := .ax ((bn (a.1.bl.drop a.2.toNat)).all dI) (.one (.exit 2, sp 65 [] [])) (.one (.ret, sp 65 [(2, .bool false)] []))
theorem ZP (κ : Kp) : bg (KJ κ) 12 65 11 (aK 0 OW Iz E5) := by
 refine aO (fun a => a.1.bl.length - a.2.toNat) ?_
 rintro ⟨a, i⟩ K ⟨⟨h1, h4⟩, h2, h3⟩ ho
 simp only at h1 h2 h3 h4
 rw [show (KJ κ).P = Pr κ from rfl]
 refine Eq.mpr (Zo κ (a, i) _ _ K) ?_
 simp only [E5, Out.run, af] at ho
 simp only [← lt_eq]
 simp only [af, aq, aa0, aa2, aa1, Bool.not_eq_true', ab2]
 refine ⟨fun hi => ?_, fun hi => ?_⟩
 ·have hm : nth a.bl i.toNat ∈ a.bl := by rw [bx a.bl i.toNat (by omega)]; exact List.getElem_mem _
  have h5 := h4 _ hm
  simp only [aI] at h1 h5
  rw [jd a.bl i.toNat (by omega), ac1] at ho
  rw [aU (n := i + 1) (by omega) (by omega)]
  refine ⟨⟨h2, hi⟩, h5, fun e => ?_, fun e => ?_⟩
  ·rw [e, Bool.false_and] at ho
   exact ho.2 rfl
  ·rw [e, ac0] at ho
   refine ⟨_, ?_, (a, i + 1), rfl, ⟨⟨by simpa [aI] using h1, h4⟩, by simp only; omega, by simp only; omega⟩, rfl, ?_⟩
   ·simp only; omega
   ·simp only [E5, Out.run, af, show (i + 1).toNat = i.toNat + 1 by omega]
    exact ho
 ·rw [aa8 (by omega)] at ho
  exact ho.1 rfl
noncomputable def G1 (κ : Kp) : Env := (KJ κ).aj 65 11 (aK 0 OW Iz E5)
theorem Rs (κ : Kp) : aw (G1 κ) := (W6 κ).aj (Th κ) (ZP κ)
theorem O3 (κ : Kp) : ai (G1 κ) := (Th κ).aj aE
theorem Wl (κ : Kp) (a : b5) (K : AV → List Dn.Obj → Prop) : (a9 (G1 κ) 12 65 [aF a] [] K) = (
 letI z1 := K (AV.bool false) []
 letI z2 := Pg.toProgram (Env.P (LI κ))
 letI z3 := Pg.toProgram (Env.P (KJ κ))
 aZ (decide (a.hl.length ≤ 9223372036854775807)) (ax (!aW { rel := a.rel, l := aa a.hl }) z1 (ax (decide ((↑(a.bl.length) : Int) > (20 : Int))) z1 (ag z2 65 5 = ag z2 65 5 ∧ ∃ (a_1 : AP), sp 65 [(1, AV.ptr 0 0 [] 0), (4, AV.int 0)] [Obj.box 41 (AV.agg [AV.agg [AV.str a.rel, AV.ae 52 a.hl], AV.ae 55 a.bl, AV.int a.line])] = sp 65 [(1, AV.ptr 0 0 [] 0), (4, AV.int a_1.2)] [Obj.box 41 (AV.agg [AV.agg [AV.str a_1.1.rel, AV.ae 52 a_1.1.hl], AV.ae 55 a_1.1.bl, AV.int a_1.1.line])] ∧ (a_1.1.hl.length ≤ 9223372036854775807 ∧ (0 : Int) ≤ a_1.2 ∧ a_1.2 ≤ (↑(a_1.1.hl.length) : Int)) ∧ ax (List.all (aa (List.drop a_1.2.toNat a_1.1.hl)) (kQ a_1.1.bl.length)) (ag z3 65 11 = ag z3 65 11 ∧ ∃ (a : AP), sp 65 [(1, AV.ptr 0 0 [] 0), (6, AV.int 0)] [Obj.box 41 (AV.agg [AV.agg [AV.str a_1.1.rel, AV.ae 52 a_1.1.hl], AV.ae 55 a_1.1.bl, AV.int a_1.1.line])] = sp 65 [(1, AV.ptr 0 0 [] 0), (6, AV.int a.2)] [Obj.box 41 (AV.agg [AV.agg [AV.str a.1.rel, AV.ae 52 a.1.hl], AV.ae 55 a.1.bl, AV.int a.1.line])] ∧ ((a.1.bl.length ≤ 9223372036854775807 ∧ ∀ (x : AV), List.Mem x a.1.bl → List.length (ah (ad (ad x 1) 1)) ≤ 9223372036854775807) ∧ (0 : Int) ≤ a.2 ∧ a.2 ≤ (↑(a.1.bl.length) : Int)) ∧ ax (List.all (bn (List.drop a.2.toNat a.1.bl)) dI) (K (AV.bool true) []) z1) z1)))) := by kernel_rfl
def vH : List AV → Bool
 | [] => true
 | x :: l => decide ((ah (ad (ad x 1) 1)).length ≤ aI) && vH l
theorem vt : ∀ {l : List AV}, vH l = true ↔ ∀ x, x ∈ l → (ah (ad (ad x 1) 1)).length ≤ aI
 | [] => by simp [vH]
 | x :: l => by simp [vH, vt (l := l)]
def RG : List AV → Option (Bool × AV)
 | [.agg [.agg [.lit (.string rel), .ae 52 hl], .ae 55 bl, .lit (.int .i64 _)]] => some ((decide (hl.length ≤ aI) && decide (bl.length ≤ aI)) && vH bl, .bool (aG ⟨⟨rel, aa hl⟩, bn bl⟩))
 | _ => none
theorem Wg (κ : Kp) : bM (G1 κ) 12 65 RG := by
 intro args x hh
 unfold RG at hh
 split at hh
 ·rename_i rel hl bl line
  simp only [aa3, aa9, aa1, aa0] at hh
  obtain ⟨⟨⟨h1, h2⟩, h3⟩, rfl⟩ := hh
  refine ⟨_, rfl, rfl, ?_⟩
  refine Eq.mpr (Wl κ ⟨[], [], rel, hl, bl, line, 0⟩ _) ?_
  unfold aG
  simp only [sW]
  simp only [af, aq, aa0, aa2, Bool.not_eq_true', ab2]
  refine ⟨h1, fun e => cO (by rw [e]; rfl), fun e => ⟨fun e2 => cO ?_, fun e2 => ⟨trivial, (⟨[], [], rel, hl, bl, line, 0⟩, 0), rfl, ⟨h1, by simp only; omega, by simp only; omega⟩, ?_⟩⟩⟩
  ·rw [aa4 (show ¬ bl.length ≤ 20 by omega)]; simp
  ·rw [e, aa6 (show bl.length ≤ 20 by omega)]
   simp only [ab8, ab0, ac0]
   refine ⟨fun e3 => ⟨trivial, (⟨[], [], rel, hl, bl, line, 0⟩, 0), rfl, ⟨⟨h2, vt.1 h3⟩, by simp only; omega, by simp only; omega⟩, ?_⟩, fun e3 => cO (by rw [e3]; rfl)⟩
   rw [e3]
   simp only [ab8, ab0, ac0]
   exact ⟨fun e4 => cO e4.symm, fun e4 => cO e4.symm⟩
 ·cases hh
noncomputable def Lw (κ : Kp) : Env := (G1 κ).au 65 RG
theorem Vs (κ : Kp) : aw (Lw κ) := (Rs κ).au (O3 κ) (Wg κ)
theorem UP (κ : Kp) : ai (Lw κ) := (O3 κ).au
abbrev AW := List ByteArray × List ByteArray × Int
abbrev JN (a : AW) : S := sp 36 [(1, .ae 9 (strs a.1)), (5, .a7 0 0 (strs a.2.1).length), (6, .int a.2.2)] [.row 9 (strs a.2.1)]
def wu (a : AW) : Prop := a.1.length ≤ 1000000 ∧ 0 ≤ a.2.2 ∧ a.2.2 ≤ a.1.length ∧ a.2.1.length + (a.1.length - a.2.2.toNat) ≤ 2000000
def vZ (a : AW) : Out (Exit × S) := .one (.exit 0, sp 36 [(5, .a7 0 0 (strs (bH a.2.1 (a.1.drop a.2.2.toNat))).length)] [.row 9 (strs (bH a.2.1 (a.1.drop a.2.2.toNat)))])
theorem xW (κ : Kp) (m o : List AV) (i : Int) (I : Nat → S → Prop) (n : Nat) (K : Exit → S → Prop) : (vc (Lw κ) 12 111 none 0 (ag (Pr κ).toProgram 111 3) (sp 36 [(1, .ae 9 m), (5, .a7 0 0 o.length), (6, .int i)] [.row 9 o]) (bC (Lw κ) 111 3 0 I n K)) = (
 letI z1 := decide ((0 : Int) ≤ i) && decide (i < (↑(m.length) : Int))
 letI z2 := IntKind.wrap IntKind.i64 (i + (1 : Int))
 letI z3 := List.take o.length (List.drop 0 o)
 ax (decide (i < (↑(m.length) : Int))) (aZ z1 (aZ (decide (List.length z3 ≤ 9223372036854775807)) (ax (decide (bm (toStr (nth m i.toNat)) z3 (0 : Int) < (0 :
 Int))) (aZ z1 (aZ (decide ((o.length + 1 + 1) * 17 ≤ 70368744177664)) (∃ (m_1 : Nat), m_1 < n ∧ I m_1 (sp 36 [(1, AV.ae 9 m), (5, AV.a7 0 0 (o.length + 1)), (6,
 AV.int z2)] [Obj.row 9 (List.take o.length o ++ [AV.str (toStr (nth m i.toNat))])])))) (∃ (m_1 : Nat), m_1 < n ∧ I m_1 (sp 36 [(1, AV.ae 9 m), (5, AV.a7 0 0
 o.length), (6, AV.int z2)] [Obj.row 9 o]))))) (K (Exit.exit 0) (sp 36 [(5, AV.a7 0 0 o.length)] [Obj.row 9 o]))) := by kernel_rfl
theorem BI (o : List ByteArray) (s : ByteArray) : (pE o s).length ≤ o.length + 1 := by
 unfold pE; cases o.contains s <;> simp
theorem lW (κ : Kp) : bg (Lw κ) 12 111 3 (aK 0 JN wu vZ) := by
 refine aO (fun a => a.1.length - a.2.2.toNat) ?_
 rintro ⟨m, o, i⟩ K ⟨h1, h2, h3, h4⟩ ho
 simp only at h1 h2 h3 h4
 rw [show (Lw κ).P = Pr κ from rfl]
 refine Eq.mpr (xW κ (strs m) (strs o) i _ _ K) ?_
 simp only [vZ, Out.run] at ho
 simp only [ab0, List.take_length]
 simp only [af, aq, aa0, aa2, aa1]
 simp only [aM] at ho ⊢
 refine ⟨fun hi => ⟨⟨h2, hi⟩, by omega, ?_⟩, fun hi => ?_⟩
 ·have hk : i.toNat < m.length := by omega
  rw [nU m _ hk]
  have hc := fO m[i.toNat] o 0 (by omega)
  have go : ∃ k, k < m.length - i.toNat ∧ fp JN wu vZ (fun a => a.1.length - a.2.2.toNat) K k (JN (m, pE o m[i.toNat], i + 1)) := by
   have hl := BI o m[i.toNat]
   rw [ab1 hk, fY] at ho
   refine ⟨_, ?_, (m, pE o m[i.toNat], i + 1), rfl, ⟨h1, by simp only; omega, by simp only; omega, by simp only; omega⟩, rfl, ?_⟩
   ·simp only; omega
   ·simp only [vZ, Out.run, show (i + 1).toNat = i.toNat + 1 by omega, aM]
    exact ho
  rw [aU (n := i + 1) (by omega) (by omega)]
  simp only [JN, aM, pE] at go
  refine ⟨fun e => ⟨⟨h2, hi⟩, by omega, ?_⟩, fun e => ?_⟩
  ·rw [← hc, aa4 (show ¬ bm m[i.toNat] (strs o) 0 ≥ 0 from fun h => absurd e (by show ¬ bm m[i.toNat] (strs o) 0 < 0; omega))] at go
   simp only [aa5, gn, ab9, List.length_cons, List.length_nil] at go
   exact go
  ·rw [← hc, aa6 (show bm m[i.toNat] (strs o) 0 ≥ 0 from by have e' : ¬ bm m[i.toNat] (strs o) 0 < 0 := e; omega)] at go
   exact go
 ·rw [aa8 (by omega)] at ho
  exact ho
noncomputable def KB (κ : Kp) : Env := (Lw κ).aj 111 3 (aK 0 JN wu vZ)
theorem Zj (κ : Kp) : aw (KB κ) := (Vs κ).aj (UP κ) (lW κ)
theorem Ua (κ : Kp) : ai (KB κ) := (UP κ).aj aE
theorem xW6 (κ : Kp) (m o : List AV) (i : Int) (I : Nat → S → Prop) (n : Nat) (K : Exit → S → Prop) : (vc (KB κ) 12 108 none 0 (ag (Pr κ).toProgram 108 3) (sp 36 [(1, .ae 9 m), (5, .a7 0 0 o.length), (6, .int i)] [.row 9 o]) (bC (KB κ) 108 3 0 I n K)) = (
 letI z1 := decide ((0 : Int) ≤ i) && decide (i < (↑(m.length) : Int))
 letI z2 := IntKind.wrap IntKind.i64 (i + (1 : Int))
 letI z3 := List.take o.length (List.drop 0 o)
 ax (decide (i < (↑(m.length) : Int))) (aZ z1 (aZ (decide (List.length z3 ≤ 9223372036854775807)) (ax (decide (bm (toStr (nth m i.toNat)) z3 (0 : Int) < (0 :
 Int))) (aZ z1 (aZ (decide ((o.length + 1 + 1) * 17 ≤ 70368744177664)) (∃ (m_1 : Nat), m_1 < n ∧ I m_1 (sp 36 [(1, AV.ae 9 m), (5, AV.a7 0 0 (o.length + 1)), (6,
 AV.int z2)] [Obj.row 9 (List.take o.length o ++ [AV.str (toStr (nth m i.toNat))])])))) (∃ (m_1 : Nat), m_1 < n ∧ I m_1 (sp 36 [(1, AV.ae 9 m), (5, AV.a7 0 0
 o.length), (6, AV.int z2)] [Obj.row 9 o]))))) (K (Exit.exit 0) (sp 36 [(5, AV.a7 0 0 o.length)] [Obj.row 9 o]))) := by kernel_rfl
theorem Yw (κ : Kp) : bg (KB κ) 12 108 3 (aK 0 JN wu vZ) := by
 refine aO (fun a => a.1.length - a.2.2.toNat) ?_
 rintro ⟨m, o, i⟩ K ⟨h1, h2, h3, h4⟩ ho
 simp only at h1 h2 h3 h4
 rw [show (KB κ).P = Pr κ from rfl]
 refine Eq.mpr (xW6 κ (strs m) (strs o) i _ _ K) ?_
 simp only [vZ, Out.run] at ho
 simp only [ab0, List.take_length]
 simp only [af, aq, aa0, aa2, aa1]
 simp only [aM] at ho ⊢
 refine ⟨fun hi => ⟨⟨h2, hi⟩, by omega, ?_⟩, fun hi => ?_⟩
 ·have hk : i.toNat < m.length := by omega
  rw [nU m _ hk]
  have hc := fO m[i.toNat] o 0 (by omega)
  have go : ∃ k, k < m.length - i.toNat ∧ fp JN wu vZ (fun a => a.1.length - a.2.2.toNat) K k (JN (m, pE o m[i.toNat], i + 1)) := by
   have hl := BI o m[i.toNat]
   rw [ab1 hk, fY] at ho
   refine ⟨_, ?_, (m, pE o m[i.toNat], i + 1), rfl, ⟨h1, by simp only; omega, by simp only; omega, by simp only; omega⟩, rfl, ?_⟩
   ·simp only; omega
   ·simp only [vZ, Out.run, show (i + 1).toNat = i.toNat + 1 by omega, aM]
    exact ho
  rw [aU (n := i + 1) (by omega) (by omega)]
  simp only [JN, aM, pE] at go
  refine ⟨fun e => ⟨⟨h2, hi⟩, by omega, ?_⟩, fun e => ?_⟩
  ·rw [← hc, aa4 (show ¬ bm m[i.toNat] (strs o) 0 ≥ 0 from fun h => absurd e (by show ¬ bm m[i.toNat] (strs o) 0 < 0; omega))] at go
   simp only [aa5, gn, ab9, List.length_cons, List.length_nil] at go
   exact go
  ·rw [← hc, aa6 (show bm m[i.toNat] (strs o) 0 ≥ 0 from by have e' : ¬ bm m[i.toNat] (strs o) 0 < 0 := e; omega)] at go
   exact go
 ·rw [aa8 (by omega)] at ho
  exact ho
noncomputable def Ou (κ : Kp) : Env := (KB κ).aj 108 3 (aK 0 JN wu vZ)
theorem Yz (κ : Kp) : aw (Ou κ) := (Zj κ).aj (Ua κ) (Yw κ)
theorem US (κ : Kp) : ai (Ou κ) := (Ua κ).aj aE
def KX (a : List ByteArray × List ByteArray) : List AV × List Dn.Obj := ([.ae 9 (strs a.1), .ae 9 (strs a.2)], [])
def yb (a : List ByteArray × List ByteArray) : Prop := a.1.length ≤ 1000000 ∧ a.2.length ≤ 1000000
def wK (a : List ByteArray × List ByteArray) : Out (AV × List Dn.Obj) := .one (.ae 9 (strs (bH a.1 a.2)), [])
theorem yW (κ : Kp) (o m : List AV) (K : AV → List Dn.Obj → Prop) : (a9 (Ou κ) 12 111 [.ae 9 o, .ae 9 m] [] K) = (
 letI z1 := Pg.toProgram (Env.P (Lw κ))
 aZ (true && decide ((0 : Int) ≤ IntKind.wrap IntKind.i64 ((↑(o.length) : Int) + (↑(m.length) : Int))) && decide ((Int.toNat (IntKind.wrap IntKind.i64
 ((↑(o.length) : Int) + (↑(m.length) : Int))) + 1) * 17 ≤ 70368744177664) && true) (aZ (decide ((0 + o.length + 1) * 17 ≤ 70368744177664)) (ag z1 111 3 = ag z1
 111 3 ∧ ∃ (a : AW), sp 36 [(1, AV.ae 9 m), (5, AV.a7 0 0 (0 + o.length)), (6, AV.int 0)] [Obj.row 9 ([] ++ o)] = sp 36 [(1, AV.ae 9 (strs a.1)), (5, AV.a7 0 0
 (List.length (strs a.2.1))), (6, AV.int (a.2.2))] [Obj.row 9 (strs a.2.1)] ∧ (a.1.length ≤ 1000000 ∧ (0 : Int) ≤ a.2.2 ∧ a.2.2 ≤ (↑(a.1.length) : Int) ∧
 a.2.1.length + (a.1.length - Int.toNat (a.2.2)) ≤ 2000000) ∧ K (AV.ae 9 (List.take (List.length (strs (bH a.2.1 (List.drop (Int.toNat (a.2.2)) a.1))))
 (List.drop 0 (strs (bH a.2.1 (List.drop (Int.toNat (a.2.2)) a.1)))))) []))) := by kernel_rfl
theorem cW (κ : Kp) : bJ (Ou κ) 12 111 (a8 KX yb wK) := by
 refine bh ?_
 rintro ⟨o, m⟩ K ⟨h1, h2⟩ ho
 simp only at h1 h2
 refine Eq.mpr (yW κ (strs o) (strs m) K) ?_
 simp only [wK, Out.run] at ho
 rw [aM, aM]
 rw [aU (n := (o.length : Int) + (m.length : Int)) (by omega) (by omega)]
 simp only [aq, aa1, aa0]
 refine ⟨⟨⟨⟨trivial, by omega⟩, by omega⟩, trivial⟩, by omega, trivial, (m, o, 0), ?_, ⟨h2, by simp only; omega, by simp only; omega, by simp only; omega⟩, ?_⟩
 ·simp only [Nat.zero_add, aM, List.nil_append]
 ·simp only [ab8, ab0, List.take_length]
  exact ho
noncomputable def OT (κ : Kp) : Env := (Ou κ).ar 111 (a8 KX yb wK)
theorem eW2 (κ : Kp) : aw (OT κ) := (Yz κ).ar (US κ) (cW κ)
theorem U2 (κ : Kp) : ai (OT κ) := (US κ).ar aJ
theorem VO (κ : Kp) (o m : List AV) (K : AV → List Dn.Obj → Prop) : (a9 (OT κ) 12 108 [.ae 9 o, .ae 9 m] [] K) = (
 letI z1 := Pg.toProgram (Env.P (KB κ))
 aZ (true && decide ((0 : Int) ≤ IntKind.wrap IntKind.i64 ((↑(o.length) : Int) + (↑(m.length) : Int))) && decide ((Int.toNat (IntKind.wrap IntKind.i64
 ((↑(o.length) : Int) + (↑(m.length) : Int))) + 1) * 17 ≤ 70368744177664) && true) (aZ (decide ((0 + o.length + 1) * 17 ≤ 70368744177664)) (ag z1 108 3 = ag z1
 108 3 ∧ ∃ (a : AW), sp 36 [(1, AV.ae 9 m), (5, AV.a7 0 0 (0 + o.length)), (6, AV.int 0)] [Obj.row 9 ([] ++ o)] = sp 36 [(1, AV.ae 9 (strs a.1)), (5, AV.a7 0 0
 (List.length (strs a.2.1))), (6, AV.int (a.2.2))] [Obj.row 9 (strs a.2.1)] ∧ (a.1.length ≤ 1000000 ∧ (0 : Int) ≤ a.2.2 ∧ a.2.2 ≤ (↑(a.1.length) : Int) ∧
 a.2.1.length + (a.1.length - Int.toNat (a.2.2)) ≤ 2000000) ∧ K (AV.ae 9 (List.take (List.length (strs (bH a.2.1 (List.drop (Int.toNat (a.2.2)) a.1))))
 (List.drop 0 (strs (bH a.2.1 (List.drop (Int.toNat (a.2.2)) a.1)))))) []))) := by kernel_rfl
theorem Wn (κ : Kp) : bJ (OT κ) 12 108 (a8 KX yb wK) := by
 refine bh ?_
 rintro ⟨o, m⟩ K ⟨h1, h2⟩ ho
 simp only at h1 h2
 refine Eq.mpr (VO κ (strs o) (strs m) K) ?_
 simp only [wK, Out.run] at ho
 rw [aM, aM]
 rw [aU (n := (o.length : Int) + (m.length : Int)) (by omega) (by omega)]
 simp only [aq, aa1, aa0]
 refine ⟨⟨⟨⟨trivial, by omega⟩, by omega⟩, trivial⟩, by omega, trivial, (m, o, 0), ?_, ⟨h2, by simp only; omega, by simp only; omega, by simp only; omega⟩, ?_⟩
 ·simp only [Nat.zero_add, aM, List.nil_append]
 ·simp only [ab8, ab0, List.take_length]
  exact ho
noncomputable def EW (κ : Kp) : Env := (OT κ).ar 108 (a8 KX yb wK)
theorem eW (κ : Kp) : aw (EW κ) := (eW2 κ).ar (U2 κ) (Wn κ)
theorem mW (κ : Kp) : ai (EW κ) := (U2 κ).ar aJ
structure AT where
 op : Int
 s : ByteArray
 n : Int
 l : List AV
def AT.tm (a : AT) : Tm := .mk a.op a.s a.n (aa a.l)
def kp (x : AV) : AT := ⟨toInt (ad x 0), toStr (ad x 1), toInt (ad x 2), ah (ad x 3)⟩
theorem fm (x : AV) : (kp x).tm = bI x := by rw [bX]; rfl
abbrev cI (a : AT) : AV := .agg [.int a.op, .lit (.string a.s), .int a.n, .ae 52 a.l]
def MU (a : AT) : List AV × List Dn.Obj := ([cI a], [])
def My (n : Nat) (a : AT) : Prop := a.tm.gF = n ∧ n ≤ 100000
def Dy (a : AT) : Out (AV × List Dn.Obj) := .one (.ae 9 (strs a.tm.rv), [])
def Ii (n : Nat) : ez := a8 MU (My n) Dy
noncomputable def Kf (κ : Kp) (r : Nat) : Env := (EW κ).ar 112 fun args st K => ∃ m, m < r ∧ Ii m args st K
theorem Zy (κ : Kp) (r : Nat) (a : AT) (o : List AV) (i : Int) (I : Nat → S → Prop) (n : Nat) (K : Exit → S → Prop) : (vc (Kf κ r) 12 112 none 0 (ag (Pr κ).toProgram 112 5) (sp 27 [(1, .ptr 0 0 [] 0), (3, .ae 9 o), (4, .int i)] [.box 52 (cI a)]) (bC (Kf κ r) 112 5 0 I n K)) = (
 letI z1 := nth a.l i.toNat
 ax (decide (i < (↑(a.l.length) : Int))) (aZ (decide ((0 : Int) ≤ i) && decide (i < (↑(a.l.length) : Int))) (∃ (m : Nat), m < r ∧ ∃ (a_1 : AT), ([AV.agg [AV.int
 (toInt (ad z1 0)), AV.str (toStr (ad z1 1)), AV.int (toInt (ad z1 2)), AV.ae 52 (ah (ad z1 3))]], az) = ([AV.agg [AV.int a_1.op, AV.str a_1.s, AV.int a_1.n,
 AV.ae 52 a_1.l]], az) ∧ (Tm.gF (AT.tm a_1) = m ∧ m ≤ 100000) ∧ ∃ (a_2 : List ByteArray × List ByteArray), ([AV.ae 9 o, AV.ae 9 (strs (Tm.rv (AT.tm a_1)))], az)
 = ([AV.ae 9 (strs a_2.1), AV.ae 9 (strs a_2.2)], az) ∧ (a_2.1.length ≤ 1000000 ∧ a_2.2.length ≤ 1000000) ∧ ∃ (m : Nat), m < n ∧ I m (sp 27 [(1, AV.ptr 0 0 []
 0), (3, AV.ae 9 (strs (bH a_2.1 a_2.2))), (4, AV.int (IntKind.wrap IntKind.i64 (i + (1 : Int))))] [Obj.box 52 (AV.agg [AV.int a.op, AV.str a.s, AV.int a.n,
 AV.ae 52 a.l])]))) (K (Exit.exit 0) (sp 27 [(3, AV.ae 9 o)] []))) := by kernel_rfl
abbrev Q5 := AT × List ByteArray × Int
abbrev QC (a : Q5) : S := sp 27 [(1, .ptr 0 0 [] 0), (3, .ae 9 (strs a.2.1)), (4, .int a.2.2)] [.box 52 (cI a.1)]
def Hl (r : Nat) (a : Q5) : Prop := a.1.l.length ≤ aI ∧ 0 ≤ a.2.2 ∧ a.2.2 ≤ a.1.l.length ∧ aH (aa (a.1.l.drop a.2.2.toNat)) < r ∧ a.2.1.length + aH (aa (a.1.l.drop a.2.2.toNat)) ≤ 100000
def DY (a : Q5) : Out (Exit × S) := .one (.exit 0, sp 27 [(3, .ae 9 (strs (sz (aa (a.1.l.drop a.2.2.toNat)) a.2.1)))] [])
theorem lTV (κ : Kp) (r : Nat) : bg (Kf κ r) 12 112 5 (aK 0 QC (Hl r) DY) := by
 refine aO (fun a => a.1.l.length - a.2.2.toNat) ?_
 rintro ⟨a, o, i⟩ K ⟨h1, h2, h3, h4, h5⟩ ho
 simp only at h1 h2 h3 h4 h5
 rw [show (Kf κ r).P = Pr κ from rfl]
 refine Eq.mpr (Zy κ r a (strs o) i _ _ K) ?_
 simp only [aI] at h1
 simp only [DY, Out.run] at ho
 simp only [af, aq, aa0, aa2, aa1]
 refine ⟨fun hi => ?_, fun hi => ?_⟩
 ·have hk : i.toNat < a.l.length := by omega
  have e := cy a.l i.toNat hk
  rw [e, aH] at h4 h5
  rw [e, sz] at ho
  have hl := Tm.jv (bI (nth a.l i.toNat))
  have hw := dK o (bI (nth a.l i.toNat)).rv
  rw [aU (n := i + 1) (by omega) (by omega)]
  refine ⟨⟨h2, hi⟩, (bI (nth a.l i.toNat)).gF, by omega, kp (nth a.l i.toNat), rfl, ⟨by rw [fm], by omega⟩, (o, (bI (nth a.l i.toNat)).rv), by rw [fm], ⟨by simp only; omega, by simp only; omega⟩, _, ?_, (a, bH o (bI (nth a.l i.toNat)).rv, i + 1), rfl, ⟨by simpa [aI] using h1, by simp only; omega, by simp only; omega, ?_, ?_⟩, rfl, ?_⟩
  ·simp only; omega
  ·simp only [show (i + 1).toNat = i.toNat + 1 by omega]; omega
  ·simp only [show (i + 1).toNat = i.toNat + 1 by omega]; omega
  ·simp only [DY, Out.run, show (i + 1).toNat = i.toNat + 1 by omega]
   exact ho
 ·rw [aa8 (by omega)] at ho
  exact ho
noncomputable def NH (κ : Kp) (r : Nat) : Env := (Kf κ r).aj 112 5 (aK 0 QC (Hl r) DY)
theorem WR (κ : Kp) (r : Nat) (a : AT) (K : AV → List Dn.Obj → Prop) : (a9 (NH κ r) 12 112 [cI a] [] K) = (
 letI z1 := Pg.toProgram (Env.P (Kf κ r))
 ax (a.op == (1 : Int)) (K (AV.ae 9 [AV.str a.s]) []) (ag z1 112 5 = ag z1 112 5 ∧ ∃ (a_1 : Q5), sp 27 [(1, AV.ptr 0 0 [] 0), (3, AV.ae 9 []), (4, AV.int 0)]
 [Obj.box 52 (AV.agg [AV.int a.op, AV.str a.s, AV.int a.n, AV.ae 52 a.l])] = sp 27 [(1, AV.ptr 0 0 [] 0), (3, AV.ae 9 (strs a_1.2.1)), (4, AV.int (a_1.2.2))]
 [Obj.box 52 (AV.agg [AV.int a_1.1.op, AV.str a_1.1.s, AV.int a_1.1.n, AV.ae 52 a_1.1.l])] ∧ (a_1.1.l.length ≤ 9223372036854775807 ∧ (0 : Int) ≤ a_1.2.2 ∧
 a_1.2.2 ≤ (↑(a_1.1.l.length) : Int) ∧ aH (aa (List.drop (Int.toNat (a_1.2.2)) a_1.1.l)) < r ∧ a_1.2.1.length + aH (aa (List.drop (Int.toNat (a_1.2.2)) a_1.1.l))
 ≤ 100000) ∧ K (AV.ae 9 (strs (sz (aa (List.drop (Int.toNat (a_1.2.2)) a_1.1.l)) a_1.2.1))) [])) := by kernel_rfl
theorem Gs (n : Nat) : (Ii n).ot := aJ
theorem eTr (κ : Kp) (r : Nat) (hp : ∀ args st K, (∃ m, m < r ∧ Ii m args st K) → dz (Pr κ) 112 args st K) : aw (NH κ r) ∧ ai (NH κ r) ∧ (NH κ r).P = Pr κ :=
 have h : aw (Kf κ r) := (eW κ).iN hp
 have hm : ai (Kf κ r) := (mW κ).ar (fun _ _ _ _ hK ⟨m, h1, h2⟩ => ⟨m, h1, Gs m _ _ _ _ hK h2⟩)
 ⟨h.aj hm (lTV κ r), hm.aj aE, rfl⟩
theorem cTV (κ : Kp) (r : Nat) : bJ (NH κ r) 12 112 (Ii r) := by
 refine bh ?_
 rintro a K ⟨h1, h2⟩ ho
 refine Eq.mpr (WR κ r a K) ?_
 simp only [Dy, Out.run] at ho
 have e1 : a.tm.gF = 1 + aH (aa a.l) := rfl
 have hl := dh (aa a.l)
 rw [cL] at hl
 have e2 : a.tm.rv = bif decide (a.op = 1) then [a.s] else sz (aa a.l) [] := rfl
 rw [e2] at ho
 rw [af, beq_iff_eq, beq_eq_false_iff_ne]
 refine ⟨fun e => by rw [aa6 e] at ho; exact ho, fun e => ⟨rfl, (a, [], 0), rfl, ⟨by simp only; omega, by simp only; omega, by simp only; omega, ?_, ?_⟩, ?_⟩⟩
 ·simp only [ab8, ab0]; omega
 ·simp only [ab8, ab0, List.length_nil]; omega
 ·rw [aa4 e] at ho
  simp only [ab8, ab0]
  exact ho
def gG (a : AT) : Prop := a.tm.gF ≤ 100000
theorem ZD (κ : Kp) : ∀ args st K, a8 MU gG Dy args st K → dz (Pr κ) 112 args st K := by
 rintro args st K ⟨a, h1, h2, h3⟩
 exact aw.qH Ii (NH κ) (eTr κ) (cTV κ) a.tm.gF args st K ⟨a, h1, ⟨rfl, h2⟩, h3⟩
noncomputable def ET (κ : Kp) : Env := (EW κ).ar 112 (a8 MU gG Dy)
theorem eT (κ : Kp) : aw (ET κ) := (eW κ).iN (ZD κ)
theorem mT (κ : Kp) : ai (ET κ) := (mW κ).ar aJ
end Go.Proofs.YtdpmikfheebicaaGreatDoor
