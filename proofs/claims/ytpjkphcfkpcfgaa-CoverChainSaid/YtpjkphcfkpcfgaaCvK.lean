import Derived.Test.YtpjkphcfkpcfgaaCvJ
import Derived.Test.YtpjkphcfkpcfgaaDpA
/-
  Maps of numbers; follow.
-/
namespace Go.Proofs.Ytpjkphcfkpcfgaa
open Go Go.Dn Go.Proofs

/-! ### Maps by numbers -/
abbrev VI (k : Int) : Value := .int .i64 k

def hasP {α : Type} (ps : List (Int × α)) (k : Int) : Bool :=
  match ps with
  | [] => false
  | p :: r => k == p.1 || hasP r k
def lookP {α : Type} (ps : List (Int × α)) (k : Int) (z : α) : α :=
  match ps with
  | [] => z
  | p :: r => if k = p.1 then p.2 else lookP r k z
def updP {α : Type} (ps : List (Int × α)) (k : Int) (v : α) : List (Int × α) :=
  match ps with
  | [] => [(k, v)]
  | p :: r => if k = p.1 then (k, v) :: r else p :: updP r k v

def mkM (ps : List (Int × Int)) : List (Value × AV) := ps.map fun p => (VI p.1, AV.int p.2)
def mkB (ps : List (Int × Bool)) : List (Value × AV) := ps.map fun p => (VI p.1, AV.bool p.2)
theorem keyEq_VI (k j : Int) : keyEq (VI k) (VI j) = (k == j) := by simp [keyEq]

theorem hasK_mkM (k : Int) : ∀ ps, hasK (mkM ps) (VI k) = hasP ps k
  | [] => rfl
  | p :: r => by show (keyEq (VI k) (VI p.1) || hasK (mkM r) (VI k)) = _; rw [keyEq_VI, hasK_mkM k r]; rfl
theorem hasK_mkB (k : Int) : ∀ ps, hasK (mkB ps) (VI k) = hasP ps k
  | [] => rfl
  | p :: r => by show (keyEq (VI k) (VI p.1) || hasK (mkB r) (VI k)) = _; rw [keyEq_VI, hasK_mkB k r]; rfl
theorem getK_mkM (k z : Int) : ∀ ps, getK (mkM ps) (VI k) (AV.int z) = AV.int (lookP ps k z)
  | [] => rfl
  | p :: r => by
    show (bif keyEq (VI k) (VI p.1) then AV.int p.2 else getK (mkM r) (VI k) (AV.int z)) = _
    rw [keyEq_VI, getK_mkM k z r, lookP]
    by_cases h : k = p.1
    · rw [if_pos h, beq_iff_eq.2 h]; rfl
    · rw [if_neg h, beq_eq_false_iff_ne.2 h]; rfl
theorem getK_mkB (k : Int) (z : Bool) : ∀ ps, getK (mkB ps) (VI k) (AV.bool z) = AV.bool (lookP ps k z)
  | [] => rfl
  | p :: r => by
    show (bif keyEq (VI k) (VI p.1) then AV.bool p.2 else getK (mkB r) (VI k) (AV.bool z)) = _
    rw [keyEq_VI, getK_mkB k z r, lookP]
    by_cases h : k = p.1
    · rw [if_pos h, beq_iff_eq.2 h]; rfl
    · rw [if_neg h, beq_eq_false_iff_ne.2 h]; rfl
theorem updK_mkM (k v : Int) : ∀ ps, updK (mkM ps) (VI k) (AV.int v) = mkM (updP ps k v)
  | [] => rfl
  | p :: r => by
    show (bif keyEq (VI k) (VI p.1) then (VI k, AV.int v) :: mkM r else (VI p.1, AV.int p.2) :: updK (mkM r) (VI k) (AV.int v)) = _
    rw [keyEq_VI, updK_mkM k v r, updP]
    by_cases h : k = p.1
    · rw [if_pos h, beq_iff_eq.2 h]; rfl
    · rw [if_neg h, beq_eq_false_iff_ne.2 h]; rfl
theorem updK_mkB (k : Int) (v : Bool) : ∀ ps, updK (mkB ps) (VI k) (AV.bool v) = mkB (updP ps k v)
  | [] => rfl
  | p :: r => by
    show (bif keyEq (VI k) (VI p.1) then (VI k, AV.bool v) :: mkB r else (VI p.1, AV.bool p.2) :: updK (mkB r) (VI k) (AV.bool v)) = _
    rw [keyEq_VI, updK_mkB k v r, updP]
    by_cases h : k = p.1
    · rw [if_pos h, beq_iff_eq.2 h]; rfl
    · rw [if_neg h, beq_eq_false_iff_ne.2 h]; rfl

theorem hasP_updP {α : Type} (k j : Int) (v : α) : ∀ ps : List (Int × α), hasP (updP ps k v) j = (j == k || hasP ps j)
  | [] => by simp [updP, hasP]
  | p :: r => by
    simp only [updP]
    by_cases h : k = p.1
    · rw [if_pos h]; simp only [hasP, h]; cases (j == p.1) <;> simp
    · rw [if_neg h]; simp only [hasP, hasP_updP k j v r]; cases (j == p.1) <;> cases (j == k) <;> simp
theorem lookP_updP {α : Type} (k j : Int) (v z : α) : ∀ ps : List (Int × α), lookP (updP ps k v) j z = if j = k then v else lookP ps j z
  | [] => by simp [updP, lookP]
  | p :: r => by
    simp only [updP]
    by_cases h : k = p.1
    · subst h; rw [if_pos rfl]; simp only [lookP]; by_cases e : j = p.1 <;> simp [e]
    · rw [if_neg h]; simp only [lookP, lookP_updP k j v z r]
      by_cases e : j = p.1
      · have : j ≠ k := fun e' => h (by rw [← e', e])
        simp [e, Ne.symm h]
      · simp [e]
theorem updP_twice {α : Type} (k : Int) (v u : α) : ∀ ps : List (Int × α), updP (updP ps k u) k v = updP ps k v
  | [] => by simp [updP]
  | p :: r => by
    simp only [updP]
    by_cases h : k = p.1
    · rw [if_pos h, if_pos h]; simp [updP]
    · rw [if_neg h, if_neg h]; simp only [updP, if_neg h, updP_twice k v u r]

/-- Whom each place lies behind; below 0: none. -/
def bP (ps : List (Int × Int)) (k : Nat) : Int := if hasP ps k then lookP ps k 0 else -1
def mP (ms : List (Int × Bool)) (k : Nat) : Bool := lookP ms k false

theorem bP_upd (ps : List (Int × Int)) (k : Nat) (v : Int) : bP (updP ps k v) = updF (bP ps) k v := by
  funext j
  simp only [bP, hasP_updP, lookP_updP, updF]
  by_cases h : j = k
  · subst h; simp
  · rw [if_neg h, beq_eq_false_iff_ne.2 (by omega : (j : Int) ≠ k), Bool.false_or, if_neg (by omega : ¬ (j : Int) = k)]
theorem mP_upd (ms : List (Int × Bool)) (k : Nat) (v : Bool) : mP (updP ms k v) = updF (mP ms) k v := by
  funext j
  simp only [mP, lookP_updP, updF]
  by_cases h : j = k
  · subst h; simp
  · rw [if_neg h, if_neg (by omega : ¬ (j : Int) = k)]

/-- Numbers that name places, each key once. -/
structure WfP (n : Nat) (ps : List (Int × Int)) : Prop where
  keys : ∀ p, p ∈ ps → 0 ≤ p.1 ∧ p.1 < n
  vals : ∀ p, p ∈ ps → 0 ≤ p.2 ∧ p.2 < n
  once : (ps.map (·.1)).Nodup

theorem mem_updP {α : Type} {k : Int} {v : α} : ∀ {ps : List (Int × α)} {p : Int × α}, p ∈ updP ps k v → p = (k, v) ∨ p ∈ ps
  | [], p, h => by simp [updP] at h; exact .inl h
  | q :: r, p, h => by
    simp only [updP] at h
    split at h
    · rcases List.mem_cons.1 h with h | h
      · exact .inl h
      · exact .inr (by simp [h])
    · rcases List.mem_cons.1 h with h | h
      · exact .inr (by simp [h])
      · rcases mem_updP h with h | h
        · exact .inl h
        · exact .inr (by simp [h])

theorem keys_updP {α : Type} {k : Int} {v : α} : ∀ {ps : List (Int × α)}, (ps.map (·.1)).Nodup → ((updP ps k v).map (·.1)).Nodup
  | [], _ => by simp [updP]
  | q :: r, h => by
    simp only [List.map_cons, List.nodup_cons] at h
    simp only [updP]
    split
    · rename_i e; simp only [List.map_cons, List.nodup_cons]; rw [e]; exact h
    · rename_i e
      simp only [List.map_cons, List.nodup_cons]
      refine ⟨fun hm => ?_, keys_updP h.2⟩
      obtain ⟨p, hp, hpe⟩ := List.mem_map.1 hm
      rcases mem_updP hp with rfl | hp
      · exact e hpe
      · exact h.1 (List.mem_map.2 ⟨p, hp, hpe⟩)

theorem WfP.upd {n : Nat} {ps : List (Int × Int)} (h : WfP n ps) {k v : Int} (hk : 0 ≤ k) (hk' : k < n) (hv : 0 ≤ v) (hv' : v < n) : WfP n (updP ps k v) := by
  refine ⟨fun p hp => ?_, fun p hp => ?_, keys_updP h.once⟩
  · rcases mem_updP hp with rfl | hp
    · exact ⟨hk, hk'⟩
    · exact h.keys p hp
  · rcases mem_updP hp with rfl | hp
    · exact ⟨hv, hv'⟩
    · exact h.vals p hp

theorem hasP_mem {α : Type} {k : Int} {z : α} : ∀ {ps : List (Int × α)}, hasP ps k = true → (k, lookP ps k z) ∈ ps
  | [], h => by simp [hasP] at h
  | p :: r, h => by
    simp only [hasP, Bool.or_eq_true, beq_iff_eq] at h
    simp only [lookP]
    by_cases e : k = p.1
    · rw [if_pos e, e]; simp
    · rw [if_neg e]; exact List.mem_cons_of_mem _ (hasP_mem (h.resolve_left e))

theorem WfP.at {n : Nat} {ps : List (Int × Int)} (h : WfP n ps) {k : Int} (hk : hasP ps k = true) : 0 ≤ lookP ps k 0 ∧ lookP ps k 0 < n := h.vals _ (hasP_mem hk)

theorem bP_neg {n : Nat} {ps : List (Int × Int)} (h : WfP n ps) {k : Nat} : bP ps k < 0 ↔ hasP ps k = false := by
  unfold bP
  cases hk : hasP ps k with
  | true => simp; exact (h.at hk).1
  | false => simp

/-! ### follow -/
def edgeL (l : List AV) (i k : Nat) : Bool := insideI (ints (toLst (nth l i))) (ints (toLst (nth l k)))

noncomputable def G0 : Env := { F23 with inl := fun f => memN f [29, 30, 32, 33, 37, 39, 40, 42, 43, 44, 45] }
theorem eG0 : EnvOK G0 := ⟨eF23.prog, eF23.pcall, eF23.call, eF23.loop⟩
theorem mG0 : EnvMono G0 := ⟨mF23.call, mF23.loop⟩

/-- sets, what lies behind what, what was met, from where. -/
structure A35 where
  l : List AV
  ps : List (Int × Int)
  ms : List (Int × Bool)
  i : Int

def st35 (a : A35) : List AV × List Dn.Obj := ([.ptr 0 0 [] 0, .int a.i, .mp 2], [.box 42 (.agg [.lst 25 a.l, .mp 1]), .map 3 3 (mkM a.ps), .map 3 4 (mkB a.ms)])
def side35 (a : A35) : Prop := fitB a.l = true ∧ WfP a.l.length a.ps ∧ 0 ≤ a.i ∧ a.i < a.l.length
def mu35 (a : A35) : Nat := num (fun k => !mP a.ms k) a.l.length

structure Res where
  r : Bool
  ps : List (Int × Int)
  ms : List (Int × Bool)

def rel35 (a : A35) (k : Nat) (y : Res) : Prop := Dfs (edgeL a.l) a.l.length a.i.toNat k (bP a.ps) (mP a.ms) y.r (bP y.ps) (mP y.ms) ∧ WfP a.l.length y.ps

noncomputable def out35 (a : A35) : Out (AV × List Dn.Obj) :=
  .all (rel35 a 0) fun y => .one (.bool y.r, [.box 42 (.agg [.lst 25 a.l, .mp 1]), .map 3 3 (mkM y.ps), .map 3 4 (mkB y.ms)])

noncomputable def sp35 (n : Nat) : CallSpec := callE st35 (fun a => side35 a ∧ mu35 a = n) out35

noncomputable def R35 (N : Nat) : Env := G0.addCall 35 fun args st K => ∃ m, m < N ∧ sp35 m args st K

def regs45 (i : Int) : List (Nat × AV) := [(0, .ptr 0 0 [] 0), (1, .int i), (2, .mp 2), (3, .ptr 3 0 [] 0), (4, .ptr 4 0 [] 0), (5, .ptr 5 0 [] 0), (6, .bool false), (7, .ptr 6 0 [] 0), (11, .ptr 0 0 [] 0), (12, .int i), (13, .clo 45 [.ptr 7 0 [] 0, .ptr 8 0 [] 0])]
def store45 (l : List AV) (es met : List (Value × AV)) (i : Int) (found : Bool) (o : Dn.Obj) : List Dn.Obj :=
  [.box 42 (.agg [.lst 25 l, .mp 1]), .map 3 3 es, .map 3 4 met, .box 43 (.ptr 0 0 [] 0), .box 3 (.int i), .box 50 (.mp 2), .box 4 (.bool found), .box 43 (.ptr 0 0 [] 0), .box 3 (.int i), o]

structure A45 where
  a : A35
  k : Int

noncomputable def st45 (a : A45) : S :=
  sp 45 [(0, .yld 9), (1, .ptr 7 0 [] 0), (2, .ptr 8 0 [] 0), (9, .lst 25 a.a.l), (10, .int a.a.l.length), (11, .int a.k)] (store45 a.a.l (mkM a.a.ps) (mkB a.a.ms) a.a.i false (.loop (lpA Try.prog 35 3 .ready none (spR (junks 46) (regs45 a.a.i)))))
def side45 (N : Nat) (a : A45) : Prop := side35 a.a ∧ mu35 a.a ≤ N ∧ 0 ≤ a.k ∧ a.k ≤ a.a.l.length
def end45 (a : A45) (y : Res) (found : Bool) (o : Dn.Obj) : S := sp 45 [] (store45 a.a.l (mkM y.ps) (mkB y.ms) a.a.i found o)
noncomputable def out45 (a : A45) : Out (Exit × S) :=
  .all (rel35 a.a a.k.toNat) fun y => .brn y.r
    (.one (.ret, end45 a y true (.loop (lpA Try.prog 35 3 .done (some (.exit 0)) (spR (junks 46) (regs45 a.a.i))))))
    (.one (.exit 0, end45 a y false (.loop (lpA Try.prog 35 3 .ready none (spR (junks 46) (regs45 a.a.i))))))

theorem x45 (N : Nat) (a : A45) (I : Nat → S → Prop) (n : Nat) (K : Exit → S → Prop) : (vc (R35 N) 12 45 none 10 (loopCode Try.prog 45 1) (st45 a) (loopK (R35 N) 45 1 10 I n K)) = (
  brn (decide (A45.k a < (↑(List.length (A35.l (A45.a a))) : Int)))
  (cnd (decide ((0 : Int) ≤ A45.k a) && decide (A45.k a < (↑(List.length (A35.l (A45.a a))) : Int)))
    (cnd (decide ((0 : Int) ≤ A35.i (A45.a a)) && decide (A35.i (A45.a a) < (↑(List.length (A35.l (A45.a a))) : Int)))
      (brn
        (decide
          ((↑(List.length (toLst (nth (A35.l (A45.a a)) (Int.toNat (A35.i (A45.a a)))))) : Int) <
            (↑(List.length (toLst (nth (A35.l (A45.a a)) (Int.toNat (A45.k a))))) : Int)))
        (cnd
          (decide ((0 : Int) ≤ A35.i (A45.a a)) && decide (A35.i (A45.a a) < (↑(List.length (A35.l (A45.a a))) : Int)))
          (cnd
            (decide
                (List.length (toLst (nth (A35.l (A45.a a)) (Int.toNat (A35.i (A45.a a))))) ≤
                  (9223372036854775807 : Nat)) &&
              decide (List.length (toLst (nth (A35.l (A45.a a)) (Int.toNat (A45.k a)))) ≤ (9223372036854775807 : Nat)))
            (brn
              (withinI (ints (toLst (nth (A35.l (A45.a a)) (Int.toNat (A35.i (A45.a a))))))
                (ints (toLst (nth (A35.l (A45.a a)) (Int.toNat (A45.k a))))))
              (brn
                (Dn.toBool
                  (getK (mkB (A35.ms (A45.a a))) (Value.int IntKind.i64 (A45.k a)) (AV.lit (Value.bool false))))
                (∃ (m : Nat),
                  m < n ∧
                    I m
                      (sp (45 : Nat)
                        [((0 : Nat), AV.yld (9 : Nat)), ((1 : Nat), AV.ptr (7 : Nat) (0 : Nat) [] (0 : Nat)),
                          ((2 : Nat), AV.ptr (8 : Nat) (0 : Nat) [] (0 : Nat)),
                          ((9 : Nat), AV.lst (25 : Nat) (A35.l (A45.a a))),
                          ((10 : Nat), AV.lit (Value.int IntKind.i64 (↑(List.length (A35.l (A45.a a))) : Int))),
                          ((11 : Nat), AV.lit (Value.int IntKind.i64 (IntKind.wrap IntKind.i64 (A45.k a + (1 : Int)))))]
                        [Obj.box (42 : Nat) (AV.agg [AV.lst (25 : Nat) (A35.l (A45.a a)), AV.mp (1 : Nat)]),
                          Dn.Obj.map (3 : Nat) (3 : Nat) (mkM (A35.ps (A45.a a))),
                          Dn.Obj.map (3 : Nat) (4 : Nat) (mkB (A35.ms (A45.a a))),
                          Obj.box (43 : Nat) (AV.ptr (0 : Nat) (0 : Nat) [] (0 : Nat)),
                          Obj.box (3 : Nat) (AV.lit (Value.int IntKind.i64 (A35.i (A45.a a)))),
                          Obj.box (50 : Nat) (AV.mp (2 : Nat)), Obj.box (4 : Nat) (AV.lit (Value.bool false)),
                          Obj.box (43 : Nat) (AV.ptr (0 : Nat) (0 : Nat) [] (0 : Nat)),
                          Obj.box (3 : Nat) (AV.lit (Value.int IntKind.i64 (A35.i (A45.a a)))),
                          Dn.Obj.loop
                            (lpA Try.prog (35 : Nat) (3 : Nat) LoopState.ready none
                              (spR (junks (46 : Nat))
                                [((0 : Nat), AV.ptr (0 : Nat) (0 : Nat) [] (0 : Nat)),
                                  ((1 : Nat), AV.lit (Value.int IntKind.i64 (A35.i (A45.a a)))),
                                  ((2 : Nat), AV.mp (2 : Nat)), ((3 : Nat), AV.ptr (3 : Nat) (0 : Nat) [] (0 : Nat)),
                                  ((4 : Nat), AV.ptr (4 : Nat) (0 : Nat) [] (0 : Nat)),
                                  ((5 : Nat), AV.ptr (5 : Nat) (0 : Nat) [] (0 : Nat)),
                                  ((6 : Nat), AV.lit (Value.bool false)),
                                  ((7 : Nat), AV.ptr (6 : Nat) (0 : Nat) [] (0 : Nat)),
                                  ((11 : Nat), AV.ptr (0 : Nat) (0 : Nat) [] (0 : Nat)),
                                  ((12 : Nat), AV.lit (Value.int IntKind.i64 (A35.i (A45.a a)))),
                                  ((13 : Nat),
                                    AV.clo (45 : Nat)
                                      [AV.ptr (7 : Nat) (0 : Nat) [] (0 : Nat),
                                        AV.ptr (8 : Nat) (0 : Nat) [] (0 : Nat)])]))]))
                (brn (!hasK (mkM (A35.ps (A45.a a))) (Value.int IntKind.i64 (A45.k a)))
                  (K Exit.ret
                      (sp (45 : Nat) []
                        [Obj.box (42 : Nat) (AV.agg [AV.lst (25 : Nat) (A35.l (A45.a a)), AV.mp (1 : Nat)]),
                          Dn.Obj.map (3 : Nat) (3 : Nat)
                            (updK
                              (updK (mkM (A35.ps (A45.a a))) (Value.int IntKind.i64 (A45.k a))
                                (AV.lit
                                  (Value.int IntKind.i64
                                    (toInt
                                      (getK (mkM (A35.ps (A45.a a))) (Value.int IntKind.i64 (A45.k a))
                                        (AV.lit (Value.int IntKind.i64 (0 : Int))))))))
                              (Value.int IntKind.i64 (A45.k a)) (AV.lit (Value.int IntKind.i64 (A35.i (A45.a a))))),
                          Dn.Obj.map (3 : Nat) (4 : Nat)
                            (updK (mkB (A35.ms (A45.a a))) (Value.int IntKind.i64 (A45.k a))
                              (AV.lit (Value.bool true))),
                          Obj.box (43 : Nat) (AV.ptr (0 : Nat) (0 : Nat) [] (0 : Nat)),
                          Obj.box (3 : Nat) (AV.lit (Value.int IntKind.i64 (A35.i (A45.a a)))),
                          Obj.box (50 : Nat) (AV.mp (2 : Nat)), Obj.box (4 : Nat) (AV.lit (Value.bool true)),
                          Obj.box (43 : Nat) (AV.ptr (0 : Nat) (0 : Nat) [] (0 : Nat)),
                          Obj.box (3 : Nat) (AV.lit (Value.int IntKind.i64 (A35.i (A45.a a)))),
                          Dn.Obj.loop
                            (lpA Try.prog (35 : Nat) (3 : Nat) LoopState.done (some (Code.exit (0 : Nat)))
                              (spR (junks (46 : Nat))
                                [((0 : Nat), AV.ptr (0 : Nat) (0 : Nat) [] (0 : Nat)),
                                  ((1 : Nat), AV.lit (Value.int IntKind.i64 (A35.i (A45.a a)))),
                                  ((2 : Nat), AV.mp (2 : Nat)), ((3 : Nat), AV.ptr (3 : Nat) (0 : Nat) [] (0 : Nat)),
                                  ((4 : Nat), AV.ptr (4 : Nat) (0 : Nat) [] (0 : Nat)),
                                  ((5 : Nat), AV.ptr (5 : Nat) (0 : Nat) [] (0 : Nat)),
                                  ((6 : Nat), AV.lit (Value.bool false)),
                                  ((7 : Nat), AV.ptr (6 : Nat) (0 : Nat) [] (0 : Nat)),
                                  ((11 : Nat), AV.ptr (0 : Nat) (0 : Nat) [] (0 : Nat)),
                                  ((12 : Nat), AV.lit (Value.int IntKind.i64 (A35.i (A45.a a)))),
                                  ((13 : Nat),
                                    AV.clo (45 : Nat)
                                      [AV.ptr (7 : Nat) (0 : Nat) [] (0 : Nat),
                                        AV.ptr (8 : Nat) (0 : Nat) [] (0 : Nat)])]))]) ∧
                    K Exit.ret
                      (sp (45 : Nat) []
                        [Obj.box (42 : Nat) (AV.agg [AV.lst (25 : Nat) (A35.l (A45.a a)), AV.mp (1 : Nat)]),
                          Dn.Obj.map (3 : Nat) (3 : Nat)
                            (updK
                              (updK (mkM (A35.ps (A45.a a))) (Value.int IntKind.i64 (A45.k a))
                                (AV.lit
                                  (Value.int IntKind.i64
                                    (toInt
                                      (getK (mkM (A35.ps (A45.a a))) (Value.int IntKind.i64 (A45.k a))
                                        (AV.lit (Value.int IntKind.i64 (0 : Int))))))))
                              (Value.int IntKind.i64 (A45.k a)) (AV.lit (Value.int IntKind.i64 (A35.i (A45.a a))))),
                          Dn.Obj.map (3 : Nat) (4 : Nat)
                            (updK (mkB (A35.ms (A45.a a))) (Value.int IntKind.i64 (A45.k a))
                              (AV.lit (Value.bool true))),
                          Obj.box (43 : Nat) (AV.ptr (0 : Nat) (0 : Nat) [] (0 : Nat)),
                          Obj.box (3 : Nat) (AV.lit (Value.int IntKind.i64 (A35.i (A45.a a)))),
                          Obj.box (50 : Nat) (AV.mp (2 : Nat)), Obj.box (4 : Nat) (AV.lit (Value.bool true)),
                          Obj.box (43 : Nat) (AV.ptr (0 : Nat) (0 : Nat) [] (0 : Nat)),
                          Obj.box (3 : Nat) (AV.lit (Value.int IntKind.i64 (A35.i (A45.a a)))),
                          Dn.Obj.loop
                            (lpA Try.prog (35 : Nat) (3 : Nat) LoopState.done (some (Code.exit (0 : Nat)))
                              (spR (junks (46 : Nat))
                                [((0 : Nat), AV.ptr (0 : Nat) (0 : Nat) [] (0 : Nat)),
                                  ((1 : Nat), AV.lit (Value.int IntKind.i64 (A35.i (A45.a a)))),
                                  ((2 : Nat), AV.mp (2 : Nat)), ((3 : Nat), AV.ptr (3 : Nat) (0 : Nat) [] (0 : Nat)),
                                  ((4 : Nat), AV.ptr (4 : Nat) (0 : Nat) [] (0 : Nat)),
                                  ((5 : Nat), AV.ptr (5 : Nat) (0 : Nat) [] (0 : Nat)),
                                  ((6 : Nat), AV.lit (Value.bool false)),
                                  ((7 : Nat), AV.ptr (6 : Nat) (0 : Nat) [] (0 : Nat)),
                                  ((11 : Nat), AV.ptr (0 : Nat) (0 : Nat) [] (0 : Nat)),
                                  ((12 : Nat), AV.lit (Value.int IntKind.i64 (A35.i (A45.a a)))),
                                  ((13 : Nat),
                                    AV.clo (45 : Nat)
                                      [AV.ptr (7 : Nat) (0 : Nat) [] (0 : Nat),
                                        AV.ptr (8 : Nat) (0 : Nat) [] (0 : Nat)])]))]))
                  (∃ (m : Nat),
                    m < N ∧
                      ∃ (a_1 : A35),
                        ([AV.ptr (0 : Nat) (0 : Nat) [] (0 : Nat),
                                AV.lit
                                  (Value.int IntKind.i64
                                    (toInt
                                      (getK (mkM (A35.ps (A45.a a))) (Value.int IntKind.i64 (A45.k a))
                                        (AV.lit (Value.int IntKind.i64 (0 : Int)))))),
                                AV.mp (2 : Nat)],
                              [Obj.box (42 : Nat) (AV.agg [AV.lst (25 : Nat) (A35.l (A45.a a)), AV.mp (1 : Nat)]),
                                Dn.Obj.map (3 : Nat) (3 : Nat) (mkM (A35.ps (A45.a a))),
                                Dn.Obj.map (3 : Nat) (4 : Nat)
                                  (updK (mkB (A35.ms (A45.a a))) (Value.int IntKind.i64 (A45.k a))
                                    (AV.lit (Value.bool true)))]) =
                            ([AV.ptr (0 : Nat) (0 : Nat) [] (0 : Nat), AV.lit (Value.int IntKind.i64 (A35.i a_1)),
                                AV.mp (2 : Nat)],
                              [Obj.box (42 : Nat) (AV.agg [AV.lst (25 : Nat) (A35.l a_1), AV.mp (1 : Nat)]),
                                Dn.Obj.map (3 : Nat) (3 : Nat) (mkM (A35.ps a_1)),
                                Dn.Obj.map (3 : Nat) (4 : Nat) (mkB (A35.ms a_1))]) ∧
                          ((fitB (A35.l a_1) = true ∧
                                WfP (List.length (A35.l a_1)) (A35.ps a_1) ∧
                                  (0 : Int) ≤ A35.i a_1 ∧ A35.i a_1 < (↑(List.length (A35.l a_1)) : Int)) ∧
                              mu35 a_1 = m) ∧
                            ∀ (y : Res),
                              Dfs (edgeL (A35.l a_1)) (List.length (A35.l a_1)) (Int.toNat (A35.i a_1)) (0 : Nat)
                                    (bP (A35.ps a_1)) (mP (A35.ms a_1)) (Res.r y) (bP (Res.ps y)) (mP (Res.ms y)) ∧
                                  WfP (List.length (A35.l a_1)) (Res.ps y) →
                                brn (Res.r y)
                                  (K Exit.ret
                                      (sp (45 : Nat) []
                                        [Obj.box (42 : Nat) (AV.agg [AV.lst (25 : Nat) (A35.l a_1), AV.mp (1 : Nat)]),
                                          Dn.Obj.map (3 : Nat) (3 : Nat)
                                            (updK
                                              (updK (mkM (Res.ps y)) (Value.int IntKind.i64 (A45.k a))
                                                (AV.lit
                                                  (Value.int IntKind.i64
                                                    (toInt
                                                      (getK (mkM (Res.ps y)) (Value.int IntKind.i64 (A45.k a))
                                                        (AV.lit (Value.int IntKind.i64 (0 : Int))))))))
                                              (Value.int IntKind.i64 (A45.k a))
                                              (AV.lit (Value.int IntKind.i64 (A35.i (A45.a a))))),
                                          Dn.Obj.map (3 : Nat) (4 : Nat) (mkB (Res.ms y)),
                                          Obj.box (43 : Nat) (AV.ptr (0 : Nat) (0 : Nat) [] (0 : Nat)),
                                          Obj.box (3 : Nat) (AV.lit (Value.int IntKind.i64 (A35.i (A45.a a)))),
                                          Obj.box (50 : Nat) (AV.mp (2 : Nat)),
                                          Obj.box (4 : Nat) (AV.lit (Value.bool true)),
                                          Obj.box (43 : Nat) (AV.ptr (0 : Nat) (0 : Nat) [] (0 : Nat)),
                                          Obj.box (3 : Nat) (AV.lit (Value.int IntKind.i64 (A35.i (A45.a a)))),
                                          Dn.Obj.loop
                                            (lpA Try.prog (35 : Nat) (3 : Nat) LoopState.done
                                              (some (Code.exit (0 : Nat)))
                                              (spR (junks (46 : Nat))
                                                [((0 : Nat), AV.ptr (0 : Nat) (0 : Nat) [] (0 : Nat)),
                                                  ((1 : Nat), AV.lit (Value.int IntKind.i64 (A35.i (A45.a a)))),
                                                  ((2 : Nat), AV.mp (2 : Nat)),
                                                  ((3 : Nat), AV.ptr (3 : Nat) (0 : Nat) [] (0 : Nat)),
                                                  ((4 : Nat), AV.ptr (4 : Nat) (0 : Nat) [] (0 : Nat)),
                                                  ((5 : Nat), AV.ptr (5 : Nat) (0 : Nat) [] (0 : Nat)),
                                                  ((6 : Nat), AV.lit (Value.bool false)),
                                                  ((7 : Nat), AV.ptr (6 : Nat) (0 : Nat) [] (0 : Nat)),
                                                  ((11 : Nat), AV.ptr (0 : Nat) (0 : Nat) [] (0 : Nat)),
                                                  ((12 : Nat), AV.lit (Value.int IntKind.i64 (A35.i (A45.a a)))),
                                                  ((13 : Nat),
                                                    AV.clo (45 : Nat)
                                                      [AV.ptr (7 : Nat) (0 : Nat) [] (0 : Nat),
                                                        AV.ptr (8 : Nat) (0 : Nat) [] (0 : Nat)])]))]) ∧
                                    K Exit.ret
                                      (sp (45 : Nat) []
                                        [Obj.box (42 : Nat) (AV.agg [AV.lst (25 : Nat) (A35.l a_1), AV.mp (1 : Nat)]),
                                          Dn.Obj.map (3 : Nat) (3 : Nat)
                                            (updK
                                              (updK (mkM (Res.ps y)) (Value.int IntKind.i64 (A45.k a))
                                                (AV.lit
                                                  (Value.int IntKind.i64
                                                    (toInt
                                                      (getK (mkM (Res.ps y)) (Value.int IntKind.i64 (A45.k a))
                                                        (AV.lit (Value.int IntKind.i64 (0 : Int))))))))
                                              (Value.int IntKind.i64 (A45.k a))
                                              (AV.lit (Value.int IntKind.i64 (A35.i (A45.a a))))),
                                          Dn.Obj.map (3 : Nat) (4 : Nat) (mkB (Res.ms y)),
                                          Obj.box (43 : Nat) (AV.ptr (0 : Nat) (0 : Nat) [] (0 : Nat)),
                                          Obj.box (3 : Nat) (AV.lit (Value.int IntKind.i64 (A35.i (A45.a a)))),
                                          Obj.box (50 : Nat) (AV.mp (2 : Nat)),
                                          Obj.box (4 : Nat) (AV.lit (Value.bool true)),
                                          Obj.box (43 : Nat) (AV.ptr (0 : Nat) (0 : Nat) [] (0 : Nat)),
                                          Obj.box (3 : Nat) (AV.lit (Value.int IntKind.i64 (A35.i (A45.a a)))),
                                          Dn.Obj.loop
                                            (lpA Try.prog (35 : Nat) (3 : Nat) LoopState.done
                                              (some (Code.exit (0 : Nat)))
                                              (spR (junks (46 : Nat))
                                                [((0 : Nat), AV.ptr (0 : Nat) (0 : Nat) [] (0 : Nat)),
                                                  ((1 : Nat), AV.lit (Value.int IntKind.i64 (A35.i (A45.a a)))),
                                                  ((2 : Nat), AV.mp (2 : Nat)),
                                                  ((3 : Nat), AV.ptr (3 : Nat) (0 : Nat) [] (0 : Nat)),
                                                  ((4 : Nat), AV.ptr (4 : Nat) (0 : Nat) [] (0 : Nat)),
                                                  ((5 : Nat), AV.ptr (5 : Nat) (0 : Nat) [] (0 : Nat)),
                                                  ((6 : Nat), AV.lit (Value.bool false)),
                                                  ((7 : Nat), AV.ptr (6 : Nat) (0 : Nat) [] (0 : Nat)),
                                                  ((11 : Nat), AV.ptr (0 : Nat) (0 : Nat) [] (0 : Nat)),
                                                  ((12 : Nat), AV.lit (Value.int IntKind.i64 (A35.i (A45.a a)))),
                                                  ((13 : Nat),
                                                    AV.clo (45 : Nat)
                                                      [AV.ptr (7 : Nat) (0 : Nat) [] (0 : Nat),
                                                        AV.ptr (8 : Nat) (0 : Nat) [] (0 : Nat)])]))]))
                                  (∃ (m : Nat),
                                    m < n ∧
                                      I m
                                        (sp (45 : Nat)
                                          [((0 : Nat), AV.yld (9 : Nat)),
                                            ((1 : Nat), AV.ptr (7 : Nat) (0 : Nat) [] (0 : Nat)),
                                            ((2 : Nat), AV.ptr (8 : Nat) (0 : Nat) [] (0 : Nat)),
                                            ((9 : Nat), AV.lst (25 : Nat) (A35.l (A45.a a))),
                                            ((10 : Nat),
                                              AV.lit (Value.int IntKind.i64 (↑(List.length (A35.l (A45.a a))) : Int))),
                                            ((11 : Nat),
                                              AV.lit
                                                (Value.int IntKind.i64
                                                  (IntKind.wrap IntKind.i64 (A45.k a + (1 : Int)))))]
                                          [Obj.box (42 : Nat) (AV.agg [AV.lst (25 : Nat) (A35.l a_1), AV.mp (1 : Nat)]),
                                            Dn.Obj.map (3 : Nat) (3 : Nat) (mkM (Res.ps y)),
                                            Dn.Obj.map (3 : Nat) (4 : Nat) (mkB (Res.ms y)),
                                            Obj.box (43 : Nat) (AV.ptr (0 : Nat) (0 : Nat) [] (0 : Nat)),
                                            Obj.box (3 : Nat) (AV.lit (Value.int IntKind.i64 (A35.i (A45.a a)))),
                                            Obj.box (50 : Nat) (AV.mp (2 : Nat)),
                                            Obj.box (4 : Nat) (AV.lit (Value.bool false)),
                                            Obj.box (43 : Nat) (AV.ptr (0 : Nat) (0 : Nat) [] (0 : Nat)),
                                            Obj.box (3 : Nat) (AV.lit (Value.int IntKind.i64 (A35.i (A45.a a)))),
                                            Dn.Obj.loop
                                              (lpA Try.prog (35 : Nat) (3 : Nat) LoopState.ready none
                                                (spR (junks (46 : Nat))
                                                  [((0 : Nat), AV.ptr (0 : Nat) (0 : Nat) [] (0 : Nat)),
                                                    ((1 : Nat), AV.lit (Value.int IntKind.i64 (A35.i (A45.a a)))),
                                                    ((2 : Nat), AV.mp (2 : Nat)),
                                                    ((3 : Nat), AV.ptr (3 : Nat) (0 : Nat) [] (0 : Nat)),
                                                    ((4 : Nat), AV.ptr (4 : Nat) (0 : Nat) [] (0 : Nat)),
                                                    ((5 : Nat), AV.ptr (5 : Nat) (0 : Nat) [] (0 : Nat)),
                                                    ((6 : Nat), AV.lit (Value.bool false)),
                                                    ((7 : Nat), AV.ptr (6 : Nat) (0 : Nat) [] (0 : Nat)),
                                                    ((11 : Nat), AV.ptr (0 : Nat) (0 : Nat) [] (0 : Nat)),
                                                    ((12 : Nat), AV.lit (Value.int IntKind.i64 (A35.i (A45.a a)))),
                                                    ((13 : Nat),
                                                      AV.clo (45 : Nat)
                                                        [AV.ptr (7 : Nat) (0 : Nat) [] (0 : Nat),
                                                          AV.ptr (8 : Nat) (0 : Nat) [] (0 : Nat)])]))])))))
              (∃ (m : Nat),
                m < n ∧
                  I m
                    (sp (45 : Nat)
                      [((0 : Nat), AV.yld (9 : Nat)), ((1 : Nat), AV.ptr (7 : Nat) (0 : Nat) [] (0 : Nat)),
                        ((2 : Nat), AV.ptr (8 : Nat) (0 : Nat) [] (0 : Nat)),
                        ((9 : Nat), AV.lst (25 : Nat) (A35.l (A45.a a))),
                        ((10 : Nat), AV.lit (Value.int IntKind.i64 (↑(List.length (A35.l (A45.a a))) : Int))),
                        ((11 : Nat), AV.lit (Value.int IntKind.i64 (IntKind.wrap IntKind.i64 (A45.k a + (1 : Int)))))]
                      [Obj.box (42 : Nat) (AV.agg [AV.lst (25 : Nat) (A35.l (A45.a a)), AV.mp (1 : Nat)]),
                        Dn.Obj.map (3 : Nat) (3 : Nat) (mkM (A35.ps (A45.a a))),
                        Dn.Obj.map (3 : Nat) (4 : Nat) (mkB (A35.ms (A45.a a))),
                        Obj.box (43 : Nat) (AV.ptr (0 : Nat) (0 : Nat) [] (0 : Nat)),
                        Obj.box (3 : Nat) (AV.lit (Value.int IntKind.i64 (A35.i (A45.a a)))),
                        Obj.box (50 : Nat) (AV.mp (2 : Nat)), Obj.box (4 : Nat) (AV.lit (Value.bool false)),
                        Obj.box (43 : Nat) (AV.ptr (0 : Nat) (0 : Nat) [] (0 : Nat)),
                        Obj.box (3 : Nat) (AV.lit (Value.int IntKind.i64 (A35.i (A45.a a)))),
                        Dn.Obj.loop
                          (lpA Try.prog (35 : Nat) (3 : Nat) LoopState.ready none
                            (spR (junks (46 : Nat))
                              [((0 : Nat), AV.ptr (0 : Nat) (0 : Nat) [] (0 : Nat)),
                                ((1 : Nat), AV.lit (Value.int IntKind.i64 (A35.i (A45.a a)))),
                                ((2 : Nat), AV.mp (2 : Nat)), ((3 : Nat), AV.ptr (3 : Nat) (0 : Nat) [] (0 : Nat)),
                                ((4 : Nat), AV.ptr (4 : Nat) (0 : Nat) [] (0 : Nat)),
                                ((5 : Nat), AV.ptr (5 : Nat) (0 : Nat) [] (0 : Nat)),
                                ((6 : Nat), AV.lit (Value.bool false)),
                                ((7 : Nat), AV.ptr (6 : Nat) (0 : Nat) [] (0 : Nat)),
                                ((11 : Nat), AV.ptr (0 : Nat) (0 : Nat) [] (0 : Nat)),
                                ((12 : Nat), AV.lit (Value.int IntKind.i64 (A35.i (A45.a a)))),
                                ((13 : Nat),
                                  AV.clo (45 : Nat)
                                    [AV.ptr (7 : Nat) (0 : Nat) [] (0 : Nat),
                                      AV.ptr (8 : Nat) (0 : Nat) [] (0 : Nat)])]))])))))
        (∃ (m : Nat),
          m < n ∧
            I m
              (sp (45 : Nat)
                [((0 : Nat), AV.yld (9 : Nat)), ((1 : Nat), AV.ptr (7 : Nat) (0 : Nat) [] (0 : Nat)),
                  ((2 : Nat), AV.ptr (8 : Nat) (0 : Nat) [] (0 : Nat)),
                  ((9 : Nat), AV.lst (25 : Nat) (A35.l (A45.a a))),
                  ((10 : Nat), AV.lit (Value.int IntKind.i64 (↑(List.length (A35.l (A45.a a))) : Int))),
                  ((11 : Nat), AV.lit (Value.int IntKind.i64 (IntKind.wrap IntKind.i64 (A45.k a + (1 : Int)))))]
                [Obj.box (42 : Nat) (AV.agg [AV.lst (25 : Nat) (A35.l (A45.a a)), AV.mp (1 : Nat)]),
                  Dn.Obj.map (3 : Nat) (3 : Nat) (mkM (A35.ps (A45.a a))),
                  Dn.Obj.map (3 : Nat) (4 : Nat) (mkB (A35.ms (A45.a a))),
                  Obj.box (43 : Nat) (AV.ptr (0 : Nat) (0 : Nat) [] (0 : Nat)),
                  Obj.box (3 : Nat) (AV.lit (Value.int IntKind.i64 (A35.i (A45.a a)))),
                  Obj.box (50 : Nat) (AV.mp (2 : Nat)), Obj.box (4 : Nat) (AV.lit (Value.bool false)),
                  Obj.box (43 : Nat) (AV.ptr (0 : Nat) (0 : Nat) [] (0 : Nat)),
                  Obj.box (3 : Nat) (AV.lit (Value.int IntKind.i64 (A35.i (A45.a a)))),
                  Dn.Obj.loop
                    (lpA Try.prog (35 : Nat) (3 : Nat) LoopState.ready none
                      (spR (junks (46 : Nat))
                        [((0 : Nat), AV.ptr (0 : Nat) (0 : Nat) [] (0 : Nat)),
                          ((1 : Nat), AV.lit (Value.int IntKind.i64 (A35.i (A45.a a)))), ((2 : Nat), AV.mp (2 : Nat)),
                          ((3 : Nat), AV.ptr (3 : Nat) (0 : Nat) [] (0 : Nat)),
                          ((4 : Nat), AV.ptr (4 : Nat) (0 : Nat) [] (0 : Nat)),
                          ((5 : Nat), AV.ptr (5 : Nat) (0 : Nat) [] (0 : Nat)), ((6 : Nat), AV.lit (Value.bool false)),
                          ((7 : Nat), AV.ptr (6 : Nat) (0 : Nat) [] (0 : Nat)),
                          ((11 : Nat), AV.ptr (0 : Nat) (0 : Nat) [] (0 : Nat)),
                          ((12 : Nat), AV.lit (Value.int IntKind.i64 (A35.i (A45.a a)))),
                          ((13 : Nat),
                            AV.clo (45 : Nat)
                              [AV.ptr (7 : Nat) (0 : Nat) [] (0 : Nat),
                                AV.ptr (8 : Nat) (0 : Nat) [] (0 : Nat)])]))])))))
  (K (Exit.exit (0 : Nat))
    (sp (45 : Nat) []
      [Obj.box (42 : Nat) (AV.agg [AV.lst (25 : Nat) (A35.l (A45.a a)), AV.mp (1 : Nat)]),
        Dn.Obj.map (3 : Nat) (3 : Nat) (mkM (A35.ps (A45.a a))),
        Dn.Obj.map (3 : Nat) (4 : Nat) (mkB (A35.ms (A45.a a))),
        Obj.box (43 : Nat) (AV.ptr (0 : Nat) (0 : Nat) [] (0 : Nat)),
        Obj.box (3 : Nat) (AV.lit (Value.int IntKind.i64 (A35.i (A45.a a)))), Obj.box (50 : Nat) (AV.mp (2 : Nat)),
        Obj.box (4 : Nat) (AV.lit (Value.bool false)), Obj.box (43 : Nat) (AV.ptr (0 : Nat) (0 : Nat) [] (0 : Nat)),
        Obj.box (3 : Nat) (AV.lit (Value.int IntKind.i64 (A35.i (A45.a a)))),
        Dn.Obj.loop
          (lpA Try.prog (35 : Nat) (3 : Nat) LoopState.ready none
            (spR (junks (46 : Nat))
              [((0 : Nat), AV.ptr (0 : Nat) (0 : Nat) [] (0 : Nat)),
                ((1 : Nat), AV.lit (Value.int IntKind.i64 (A35.i (A45.a a)))), ((2 : Nat), AV.mp (2 : Nat)),
                ((3 : Nat), AV.ptr (3 : Nat) (0 : Nat) [] (0 : Nat)),
                ((4 : Nat), AV.ptr (4 : Nat) (0 : Nat) [] (0 : Nat)),
                ((5 : Nat), AV.ptr (5 : Nat) (0 : Nat) [] (0 : Nat)), ((6 : Nat), AV.lit (Value.bool false)),
                ((7 : Nat), AV.ptr (6 : Nat) (0 : Nat) [] (0 : Nat)),
                ((11 : Nat), AV.ptr (0 : Nat) (0 : Nat) [] (0 : Nat)),
                ((12 : Nat), AV.lit (Value.int IntKind.i64 (A35.i (A45.a a)))),
                ((13 : Nat),
                  AV.clo (45 : Nat)
                    [AV.ptr (7 : Nat) (0 : Nat) [] (0 : Nat), AV.ptr (8 : Nat) (0 : Nat) [] (0 : Nat)])]))]))) := by kernel_rfl


theorem mu_upd {l : List AV} {ms : List (Int × Bool)} {k : Nat} (hk : k < l.length) (hm : mP ms k = false) : num (fun j => !mP (updP ms k true) j) l.length < num (fun j => !mP ms j) l.length := by
  have := num_upd (p := fun j => !mP ms j) (p' := fun j => !mP (updP ms k true) j) hk (fun j hj => by simp only [mP_upd, updF_other _ _ hj])
  simp only [mP_upd, updF_same, hm, Bool.not_false, Bool.not_true, Bool.toNat_true, Bool.toNat_false] at this
  simp only [mP_upd]
  omega

theorem l45 (N : Nat) : LoopOk (R35 N) 12 45 1 (loopE 10 st45 (side45 N) out45) := by
  refine loopE_ok (fun a => a.a.l.length - a.k.toNat) ?_
  rintro ⟨⟨l, ps, ms, i⟩, k⟩ K ⟨⟨h1, h2, h3, h4⟩, h5, h6, h7⟩ ho
  refine Eq.mpr (x45 N _ _ _ K) ?_
  simp only at h1 h2 h3 h4 h5 h6 h7
  obtain ⟨k, rfl⟩ := Int.eq_ofNat_of_zero_le h6
  obtain ⟨i, rfl⟩ := Int.eq_ofNat_of_zero_le h3
  have hl := fit_len h1
  simp only [maxI] at hl
  -- a place further
  have next : ∀ (ps' : List (Int × Int)) (ms' : List (Int × Bool)), k < l.length → WfP l.length ps' → (∀ z : Res, rel35 ⟨l, ps', ms', i⟩ (k + 1) z → rel35 ⟨l, ps, ms, i⟩ k z) → mu35 ⟨l, ps', ms', i⟩ ≤ N →
    ∃ m, m < l.length - k ∧ invOf st45 (side45 N) out45 (fun a => a.a.l.length - a.k.toNat) K m (st45 ⟨⟨l, ps', ms', i⟩, IntKind.wrap .i64 ((k : Int) + 1)⟩) := by
    intro ps' ms' hk hw hz hmu
    rw [wrap_ok (by omega) (by omega)]
    refine ⟨_, ?_, _, rfl, ⟨⟨h1, hw, h3, h4⟩, hmu, by simp only; omega, by simp only; omega⟩, rfl, ?_⟩
    · simp only; omega
    · intro z hz'
      simp only [show ((k : Int) + 1).toNat = k + 1 by omega] at hz'
      exact ho z (hz z hz')
  have go : k < l.length → (edgeL l i k = false ∨ mP ms k = true) → _ := fun hk hp => next ps ms hk h2 (fun z hz => ⟨hz.1.pass hp, hz.2⟩) h5
  have hie : i < l.length := by omega
  have ed : edgeL l i k = (withinI (ints (toLst (nth l i))) (ints (toLst (nth l k))) && decide ((toLst (nth l i)).length < (toLst (nth l k)).length)) := by simp only [edgeL, insideI, ints_length]
  simp only [brn_iff, cnd_iff, decide_eq_true_eq, decide_eq_false_iff_not, Bool.and_eq_true, Bool.not_eq_true', Bool.not_eq_false', getK_mkB, getK_mkM, hasK_mkM, updK_mkM, updK_mkB, updP_twice, Int.toNat_natCast]
  refine ⟨fun hk => ⟨⟨h6, hk⟩, ⟨h3, h4⟩, fun hlt => ⟨⟨h3, h4⟩, ⟨fit_row h1 hie, fit_row h1 (by omega)⟩, fun hw => ⟨fun hm => go (by omega) (.inr hm), fun hm => ⟨fun hno => ?_, fun hyes => ?_⟩⟩, fun hw => go (by omega) (.inl (by rw [ed, hw]; rfl))⟩, fun hlt => go (by omega) (.inl (by rw [ed, decide_eq_false (by omega), Bool.and_false]))⟩, fun hk => ?_⟩
  · have he : edgeL l i k = true := by rw [ed, hw, decide_eq_true (by omega)]; rfl
    have hkl : k < l.length := by omega
    have := ho ⟨true, updP ps k i, updP ms k true⟩ ⟨by
      rw [bP_upd, mP_upd]
      exact Dfs.free hkl hie he hm ((bP_neg h2).2 hno), h2.upd h6 hk h3 h4⟩
    exact ⟨this, this⟩
  · have he : edgeL l i k = true := by rw [ed, hw, decide_eq_true (by omega)]; rfl
    have hkl : k < l.length := by omega
    have hb : bP ps k = lookP ps k 0 := by unfold bP; rw [if_pos hyes]
    have hat := h2.at hyes
    have hmu := mu_upd hkl hm
    have hb0 : 0 ≤ bP ps k := by rw [hb]; exact hat.1
    refine ⟨_, ?_, ⟨l, ps, updP ms k true, lookP ps k 0⟩, rfl, ⟨⟨h1, h2, hat.1, hat.2⟩, rfl⟩, fun y hy => ?_⟩
    · exact Nat.lt_of_lt_of_le hmu h5
    · obtain ⟨⟨y1, y2⟩, y3⟩ : (Dfs (edgeL l) l.length (lookP ps k 0).toNat 0 (bP ps) (mP (updP ms k true)) y.r (bP y.ps) (mP y.ms) ∧ WfP l.length y.ps) ∧ True := ⟨hy, trivial⟩
      rw [← hb, mP_upd] at y1
      refine ⟨fun hr => ?_, fun hr => ?_⟩
      · rw [hr] at y1
        have := ho ⟨true, updP y.ps k i, y.ms⟩ ⟨by
          rw [bP_upd]
          exact Dfs.deep hkl hie he hm hb0 y1, y2.upd h6 hk h3 h4⟩
        exact ⟨this, this⟩
      · rw [hr] at y1
        refine next y.ps y.ms hkl y2 (fun z hz => ⟨Dfs.back hkl he hm hb0 y1 hz.1, hz.2⟩) ?_
        refine Nat.le_trans (num_le fun j hj hnj => ?_) h5
        simp only [Bool.not_eq_true'] at hnj ⊢
        cases hmj : mP ms j with
        | false => rfl
        | true =>
          have := y1.met j hj (by by_cases e : j = k <;> simp [updF, e, hmj])
          rw [hnj] at this; cases this
  · exact ho ⟨false, ps, ms⟩ ⟨Dfs.last (by simp only [Int.toNat_natCast]; omega), h2⟩

noncomputable def Q35 (N : Nat) : Env := (R35 N).addLoop 45 1 (loopE 10 st45 (side45 N) out45)

theorem y35 (N : Nat) (a : A35) (K : AV → List Dn.Obj → Prop) : (funA (Q35 N) 12 35 (st35 a).1 (st35 a).2 K) = (
  loopCode (Env.P (R35 N)) (45 : Nat) (1 : Nat) = loopCode (Env.P (R35 N)) (45 : Nat) (1 : Nat) ∧
  ∃ (a_1 : A45),
    sp (45 : Nat)
          [((0 : Nat), AV.yld (9 : Nat)), ((1 : Nat), AV.ptr (7 : Nat) (0 : Nat) [] (0 : Nat)),
            ((2 : Nat), AV.ptr (8 : Nat) (0 : Nat) [] (0 : Nat)), ((9 : Nat), AV.lst (25 : Nat) (A35.l a)),
            ((10 : Nat), AV.lit (Value.int IntKind.i64 (↑(List.length (A35.l a)) : Int))),
            ((11 : Nat), AV.lit (Value.int IntKind.i64 (0 : Int)))]
          [Obj.box (42 : Nat) (AV.agg [AV.lst (25 : Nat) (A35.l a), AV.mp (1 : Nat)]),
            Dn.Obj.map (3 : Nat) (3 : Nat) (mkM (A35.ps a)), Dn.Obj.map (3 : Nat) (4 : Nat) (mkB (A35.ms a)),
            Obj.box (43 : Nat) (AV.ptr (0 : Nat) (0 : Nat) [] (0 : Nat)),
            Obj.box (3 : Nat) (AV.lit (Value.int IntKind.i64 (A35.i a))), Obj.box (50 : Nat) (AV.mp (2 : Nat)),
            Obj.box (4 : Nat) (AV.lit (Value.bool false)), Obj.box (43 : Nat) (AV.ptr (0 : Nat) (0 : Nat) [] (0 : Nat)),
            Obj.box (3 : Nat) (AV.lit (Value.int IntKind.i64 (A35.i a))),
            Dn.Obj.loop
              (lpA Try.prog (35 : Nat) (3 : Nat) LoopState.ready none
                (spR (junks (46 : Nat))
                  [((0 : Nat), AV.ptr (0 : Nat) (0 : Nat) [] (0 : Nat)),
                    ((1 : Nat), AV.lit (Value.int IntKind.i64 (A35.i a))), ((2 : Nat), AV.mp (2 : Nat)),
                    ((3 : Nat), AV.ptr (3 : Nat) (0 : Nat) [] (0 : Nat)),
                    ((4 : Nat), AV.ptr (4 : Nat) (0 : Nat) [] (0 : Nat)),
                    ((5 : Nat), AV.ptr (5 : Nat) (0 : Nat) [] (0 : Nat)), ((6 : Nat), AV.lit (Value.bool false)),
                    ((7 : Nat), AV.ptr (6 : Nat) (0 : Nat) [] (0 : Nat)),
                    ((11 : Nat), AV.ptr (0 : Nat) (0 : Nat) [] (0 : Nat)),
                    ((12 : Nat), AV.lit (Value.int IntKind.i64 (A35.i a))),
                    ((13 : Nat),
                      AV.clo (45 : Nat)
                        [AV.ptr (7 : Nat) (0 : Nat) [] (0 : Nat), AV.ptr (8 : Nat) (0 : Nat) [] (0 : Nat)])]))] =
        sp (45 : Nat)
          [((0 : Nat), AV.yld (9 : Nat)), ((1 : Nat), AV.ptr (7 : Nat) (0 : Nat) [] (0 : Nat)),
            ((2 : Nat), AV.ptr (8 : Nat) (0 : Nat) [] (0 : Nat)), ((9 : Nat), AV.lst (25 : Nat) (A35.l (A45.a a_1))),
            ((10 : Nat), AV.lit (Value.int IntKind.i64 (↑(List.length (A35.l (A45.a a_1))) : Int))),
            ((11 : Nat), AV.lit (Value.int IntKind.i64 (A45.k a_1)))]
          [Obj.box (42 : Nat) (AV.agg [AV.lst (25 : Nat) (A35.l (A45.a a_1)), AV.mp (1 : Nat)]),
            Dn.Obj.map (3 : Nat) (3 : Nat) (mkM (A35.ps (A45.a a_1))),
            Dn.Obj.map (3 : Nat) (4 : Nat) (mkB (A35.ms (A45.a a_1))),
            Obj.box (43 : Nat) (AV.ptr (0 : Nat) (0 : Nat) [] (0 : Nat)),
            Obj.box (3 : Nat) (AV.lit (Value.int IntKind.i64 (A35.i (A45.a a_1)))),
            Obj.box (50 : Nat) (AV.mp (2 : Nat)), Obj.box (4 : Nat) (AV.lit (Value.bool false)),
            Obj.box (43 : Nat) (AV.ptr (0 : Nat) (0 : Nat) [] (0 : Nat)),
            Obj.box (3 : Nat) (AV.lit (Value.int IntKind.i64 (A35.i (A45.a a_1)))),
            Dn.Obj.loop
              (lpA Try.prog (35 : Nat) (3 : Nat) LoopState.ready none
                (spR (junks (46 : Nat))
                  [((0 : Nat), AV.ptr (0 : Nat) (0 : Nat) [] (0 : Nat)),
                    ((1 : Nat), AV.lit (Value.int IntKind.i64 (A35.i (A45.a a_1)))), ((2 : Nat), AV.mp (2 : Nat)),
                    ((3 : Nat), AV.ptr (3 : Nat) (0 : Nat) [] (0 : Nat)),
                    ((4 : Nat), AV.ptr (4 : Nat) (0 : Nat) [] (0 : Nat)),
                    ((5 : Nat), AV.ptr (5 : Nat) (0 : Nat) [] (0 : Nat)), ((6 : Nat), AV.lit (Value.bool false)),
                    ((7 : Nat), AV.ptr (6 : Nat) (0 : Nat) [] (0 : Nat)),
                    ((11 : Nat), AV.ptr (0 : Nat) (0 : Nat) [] (0 : Nat)),
                    ((12 : Nat), AV.lit (Value.int IntKind.i64 (A35.i (A45.a a_1)))),
                    ((13 : Nat),
                      AV.clo (45 : Nat)
                        [AV.ptr (7 : Nat) (0 : Nat) [] (0 : Nat), AV.ptr (8 : Nat) (0 : Nat) [] (0 : Nat)])]))] ∧
      ((fitB (A35.l (A45.a a_1)) = true ∧
            WfP (List.length (A35.l (A45.a a_1))) (A35.ps (A45.a a_1)) ∧
              (0 : Int) ≤ A35.i (A45.a a_1) ∧ A35.i (A45.a a_1) < (↑(List.length (A35.l (A45.a a_1))) : Int)) ∧
          mu35 (A45.a a_1) ≤ N ∧ (0 : Int) ≤ A45.k a_1 ∧ A45.k a_1 ≤ (↑(List.length (A35.l (A45.a a_1))) : Int)) ∧
        ∀ (y : Res),
          Dfs (edgeL (A35.l (A45.a a_1))) (List.length (A35.l (A45.a a_1))) (Int.toNat (A35.i (A45.a a_1)))
                (Int.toNat (A45.k a_1)) (bP (A35.ps (A45.a a_1))) (mP (A35.ms (A45.a a_1))) (Res.r y) (bP (Res.ps y))
                (mP (Res.ms y)) ∧
              WfP (List.length (A35.l (A45.a a_1))) (Res.ps y) →
            brn (Res.r y)
              (K (AV.lit (Value.bool true))
                [Obj.box (42 : Nat) (AV.agg [AV.lst (25 : Nat) (A35.l (A45.a a_1)), AV.mp (1 : Nat)]),
                  Dn.Obj.map (3 : Nat) (3 : Nat) (mkM (Res.ps y)), Dn.Obj.map (3 : Nat) (4 : Nat) (mkB (Res.ms y))])
              (K (AV.lit (Value.bool false))
                [Obj.box (42 : Nat) (AV.agg [AV.lst (25 : Nat) (A35.l (A45.a a_1)), AV.mp (1 : Nat)]),
                  Dn.Obj.map (3 : Nat) (3 : Nat) (mkM (Res.ps y)), Dn.Obj.map (3 : Nat) (4 : Nat) (mkB (Res.ms y))])) := by kernel_rfl


theorem c35 (N : Nat) : CallOk (Q35 N) 12 35 (sp35 N) := by
  refine callE_ok ?_
  rintro a K ⟨h1, h2⟩ ho
  rw [y35]
  refine ⟨rfl, ⟨a, 0⟩, rfl, ⟨h1, Nat.le_of_eq h2, by simp only; omega, by simp only; omega⟩, fun y hy => ?_⟩
  obtain ⟨r, ps, ms⟩ := y
  have := ho ⟨r, ps, ms⟩ hy
  cases r
  · exact this
  · exact this

theorem ext35 (N : Nat) (h : ∀ args st K, (∃ m, m < N ∧ sp35 m args st K) → SimCall Try.prog 35 args st K) : EnvOK (Q35 N) ∧ EnvMono (Q35 N) ∧ (Q35 N).P = Try.prog := by
  have h1 : EnvOK (R35 N) := eG0.addSim h
  have h2 : EnvMono (R35 N) := mG0.addCall fun args st K K' hK ⟨m, hm, hh⟩ => ⟨m, hm, callE_mono _ _ _ _ hK hh⟩
  exact ⟨h1.addLoop h2 (l45 N), h2.addLoop loopE_mono, rfl⟩

theorem s35 : ∀ n args st K, sp35 n args st K → SimCall Try.prog 35 args st K := EnvOK.addRecL sp35 Q35 ext35 c35

noncomputable def F35 : Env := G0.addCall 35 (callE st35 side35 out35)
theorem eF35 : EnvOK F35 := eG0.addSim fun args st K ⟨a, h1, h2, h3⟩ => s35 (mu35 a) args st K ⟨a, h1, ⟨h2, rfl⟩, h3⟩
theorem mF35 : EnvMono F35 := mG0.addCall callE_mono

end Go.Proofs.Ytpjkphcfkpcfgaa
