import Derived.Test.YtpjkphcfkpcfgaaCvL
/-
  order: what follows what.
-/
namespace Go.Proofs.Ytpjkphcfkpcfgaa
open Go Go.Dn Go.Proofs

theorem hasV_VI (k : Int) : ∀ vs : List Int, hasV (vs.map VI) (VI k) = vs.contains k
  | [] => rfl
  | v :: vs => by
    show (keyEq (VI v) (VI k) || hasV (vs.map VI) (VI k)) = _
    rw [keyEq_VI, hasV_VI k vs, List.contains_cons]
    congr 1
    rw [Bool.eq_iff_iff, beq_iff_eq, beq_iff_eq, eq_comm]

theorem allSeen_mkM (vs : List Int) : ∀ ps : List (Int × Int), allSeen (vs.map VI) (mkM ps) = ps.all fun p => vs.contains p.1
  | [] => rfl
  | p :: r => by
    show (hasV (vs.map VI) (VI p.1) && allSeen (vs.map VI) (mkM r)) = _
    rw [hasV_VI, allSeen_mkM vs r]; rfl

theorem mem_mkM {n : Int} {v : AV} {ps : List (Int × Int)} (h : List.Mem (VI n, v) (mkM ps)) : ∃ p, p ∈ ps ∧ p.1 = n := by
  obtain ⟨p, hp, e⟩ := List.mem_map.1 h
  simp only [Prod.mk.injEq, Value.int.injEq, true_and] at e
  exact ⟨p, hp, e.1⟩

/-- What comes next, of those that were met. -/
structure Nx (ps : List (Int × Int)) (vs : List Int) (qs : List (Int × Int)) : Prop where
  back : ∀ j, hasP qs j = true → hasP ps (lookP qs j 0) = true ∧ lookP ps (lookP qs j 0) 0 = j
  met : ∀ k, k ∈ vs → hasP ps k = true → hasP qs (lookP ps k 0) = true

structure A26 where
  l : List AV
  ps : List (Int × Int)
  i : Int
  c : Int
  vs : List Int
  qs : List (Int × Int)

def st26a (a : A26) : S := sp 71 [(0, .ptr 0 0 [] 0), (1, .int a.i), (2, .int a.c), (7, .mp 2), (20, .ptr 3 0 [] 0)] [.box 42 (.agg [.lst 25 a.l, .mp 1]), .map 3 3 (mkM a.ps), .map 3 3 (mkM a.qs), .iter 1 (mkM a.ps).length (a.vs.map VI)]
def side26a (a : A26) : Prop := Nx a.ps a.vs a.qs
def out26a (a : A26) : Out (Exit × S) := .all (fun qs => Nx a.ps (a.ps.map (·.1)) qs) fun qs => .one (.exit 0, sp 71 [(0, .ptr 0 0 [] 0), (1, .int a.i), (2, .int a.c), (7, .mp 2)] [.box 42 (.agg [.lst 25 a.l, .mp 1]), .map 3 3 (mkM a.ps), .map 3 3 (mkM qs)])

theorem x26a (a : A26) (I : Nat → S → Prop) (n : Nat) (K : Exit → S → Prop) : (vc F11 12 26 none 2 (loopCode Try.prog 26 3) (st26a a) (loopK F11 26 3 2 I n K)) = (
  cnd (Nat.beq (List.length (mkM (A26.ps a))) (List.length (mkM (A26.ps a))))
  ((∀ (n_1 : Int) (v : AV),
      List.Mem (Value.int IntKind.i64 n_1, v) (mkM (A26.ps a)) →
        hasV (List.map VI (A26.vs a)) (Value.int IntKind.i64 n_1) = false →
          cnd (Nat.beq (List.length (mkM (A26.ps a))) (List.length (mkM (A26.ps a))))
            (∃ (m : Nat),
              m < n ∧
                I m
                  (sp (71 : Nat)
                    [((0 : Nat), AV.ptr (0 : Nat) (0 : Nat) [] (0 : Nat)),
                      ((1 : Nat), AV.lit (Value.int IntKind.i64 (A26.i a))),
                      ((2 : Nat), AV.lit (Value.int IntKind.i64 (A26.c a))), ((7 : Nat), AV.mp (2 : Nat)),
                      ((20 : Nat), AV.ptr (3 : Nat) (0 : Nat) [] (0 : Nat))]
                    [Obj.box (42 : Nat) (AV.agg [AV.lst (25 : Nat) (A26.l a), AV.mp (1 : Nat)]),
                      Dn.Obj.map (3 : Nat) (3 : Nat) (mkM (A26.ps a)),
                      Dn.Obj.map (3 : Nat) (3 : Nat)
                        (updK (mkM (A26.qs a))
                          (Value.int IntKind.i64
                            (toInt
                              (getK (mkM (A26.ps a)) (Value.int IntKind.i64 n_1)
                                (AV.lit (Value.int IntKind.i64 (0 : Int))))))
                          (AV.lit (Value.int IntKind.i64 n_1))),
                      Obj.iter (1 : Nat) (List.length (mkM (A26.ps a)))
                        (Value.int IntKind.i64 n_1 :: List.map VI (A26.vs a))]))) ∧
    (allSeen (List.map VI (A26.vs a)) (mkM (A26.ps a)) = true →
      K (Exit.exit (0 : Nat))
        (sp (71 : Nat)
          [((0 : Nat), AV.ptr (0 : Nat) (0 : Nat) [] (0 : Nat)), ((1 : Nat), AV.lit (Value.int IntKind.i64 (A26.i a))),
            ((2 : Nat), AV.lit (Value.int IntKind.i64 (A26.c a))), ((7 : Nat), AV.mp (2 : Nat))]
          [Obj.box (42 : Nat) (AV.agg [AV.lst (25 : Nat) (A26.l a), AV.mp (1 : Nat)]),
            Dn.Obj.map (3 : Nat) (3 : Nat) (mkM (A26.ps a)), Dn.Obj.map (3 : Nat) (3 : Nat) (mkM (A26.qs a))])))) := by kernel_rfl


theorem filter_less {α : Type} {p q : α → Bool} (h : ∀ a, q a = true → p a = true) : ∀ {l : List α} {x : α}, x ∈ l → p x = true → q x = false → (l.filter q).length < (l.filter p).length
  | [], x, hx, _, _ => by simp at hx
  | a :: l, x, hx, hp, hq => by
    have le : ∀ l : List α, (l.filter q).length ≤ (l.filter p).length := by
      intro l
      induction l with
      | nil => simp
      | cons b l ih =>
        simp only [List.filter_cons]
        cases hb : q b with
        | true => simp [h b hb]; exact ih
        | false => cases p b <;> simp <;> omega
    simp only [List.filter_cons]
    rcases List.mem_cons.1 hx with rfl | hx
    · rw [hp, hq]; have := le l; simp; omega
    · have := filter_less h hx hp hq
      cases hb : q a with
      | true => simp [h a hb]; exact this
      | false => cases p a <;> simp <;> omega

theorem l26a : LoopOk F11 12 26 3 (loopE 2 st26a side26a out26a) := by
  refine loopE_ok (fun a => (a.ps.filter fun p => !a.vs.contains p.1).length) ?_
  rintro ⟨l, ps, i, c, vs, qs⟩ K h1 ho
  refine Eq.mpr (x26a _ _ _ K) ?_
  simp only [side26a] at h1 ⊢
  simp only [cnd_iff, Nat.beq_refl, true_and, allSeen_mkM, hasV_VI, updK_mkM, getK_mkM]
  refine ⟨fun k v hm hv => ?_, fun hs => ?_⟩
  · obtain ⟨p, hp, rfl⟩ := mem_mkM hm
    have hk : hasP ps p.1 = true := hasP_iff.2 (List.mem_map.2 ⟨p, hp, rfl⟩)
    refine ⟨_, ?_, ⟨l, ps, i, c, p.1 :: vs, updP qs (lookP ps p.1 0) p.1⟩, rfl, ⟨fun j hj => ?_, fun k hk' hkp => ?_⟩, rfl, ho⟩
    · refine filter_less (fun q hq => ?_) hp (by rw [hv]; rfl) (by simp)
      simp only [List.contains_cons, Bool.not_or, Bool.and_eq_true] at hq
      exact hq.2
    · rw [hasP_updP] at hj
      rw [lookP_updP]
      by_cases e : j = lookP ps p.1 0
      · rw [if_pos e]; exact ⟨hk, e.symm⟩
      · rw [if_neg e]
        rw [beq_eq_false_iff_ne.2 e, Bool.false_or] at hj
        exact h1.back j hj
    · rw [hasP_updP]
      rcases List.mem_cons.1 hk' with rfl | hk'
      · simp
      · rw [h1.met k hk' hkp, Bool.or_true]
  · refine ho qs ⟨h1.back, fun k hk hkp => h1.met k ?_ hkp⟩
    obtain ⟨p, hp, rfl⟩ := List.mem_map.1 hk
    have := List.all_eq_true.1 hs p hp
    simpa using this

noncomputable def E26a : Env := F11.addLoop 26 3 (loopE 2 st26a side26a out26a)
theorem e26a : EnvOK E26a := eF11.addLoop mF11 l26a
theorem m26a : EnvMono E26a := mF11.addLoop loopE_mono

end Go.Proofs.Ytpjkphcfkpcfgaa
