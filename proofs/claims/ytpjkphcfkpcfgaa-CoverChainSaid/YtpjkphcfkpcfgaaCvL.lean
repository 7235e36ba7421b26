import Derived.Test.YtpjkphcfkpcfgaaCvK
/-
  of, Least.
-/
namespace Go.Proofs.Ytpjkphcfkpcfgaa
open Go Go.Dn Go.Proofs

/-! ### The widest set -/
def Width (l : List AV) (w : Nat) : Prop := (∃ q, Apart (edgeL l) l.length q ∧ w ≤ num q l.length) ∧ ∀ q, Apart (edgeL l) l.length q → num q l.length ≤ w

theorem Width.one {l : List AV} {w v : Nat} (h : Width l w) (k : Width l v) : w = v := by
  obtain ⟨⟨q, h1, h2⟩, h3⟩ := h
  obtain ⟨⟨p, k1, k2⟩, k3⟩ := k
  have := h3 p k1
  have := k3 q h1
  omega

theorem hasI_trans {a b c : List Int} (h : withinI a b = true) (k : withinI b c = true) : withinI a c = true := by
  simp only [withinI, List.all_eq_true, hasI, List.contains_iff_mem] at h k ⊢
  exact fun x hx => k x (h x hx)

theorem edge_rank (l : List AV) (i k : Nat) (h : edgeL l i k = true) : (toLst (nth l i)).length < (toLst (nth l k)).length := by
  simp only [edgeL, insideI, ints_length, Bool.and_eq_true, decide_eq_true_eq] at h
  exact h.2
theorem edge_trans (l : List AV) (i j k : Nat) (h : edgeL l i j = true) (h' : edgeL l j k = true) : edgeL l i k = true := by
  simp only [edgeL, insideI, ints_length, Bool.and_eq_true, decide_eq_true_eq] at h h' ⊢
  exact ⟨hasI_trans h.1 h'.1, by omega⟩

theorem width_of {l : List AV} {b : Nat → Int} {Z : Nat → Prop} (h : Part (edgeL l) l.length l.length b Z) : Width l (neg b l.length) :=
  ⟨h.wide, fun _ hq => h.most (fun i => (toLst (nth l i)).length) (fun i k _ _ he => edge_rank l i k he) (fun i j k _ _ _ h1 h2 => edge_trans l i j k h1 h2) hq⟩

theorem hasP_iff {α : Type} {k : Int} : ∀ {ps : List (Int × α)}, hasP ps k = true ↔ k ∈ ps.map (·.1)
  | [] => by simp [hasP]
  | p :: r => by simp only [hasP, Bool.or_eq_true, beq_iff_eq, hasP_iff (ps := r), List.map_cons, List.mem_cons]

theorem len_num {α : Type} {n : Nat} : ∀ {ps : List (Int × α)}, (ps.map (·.1)).Nodup → (∀ p, p ∈ ps → 0 ≤ p.1 ∧ p.1 < n) → num (fun k => hasP ps k) n = ps.length
  | [], _, _ => num_none n
  | p :: r, h, hk => by
    simp only [List.map_cons, List.nodup_cons] at h
    have hp := hk p (by simp)
    have hs : num (fun k => hasP (p :: r) k) n = num (fun k => (k == p.1.toNat) || hasP r k) n := num_congr (fun k _ => by
      simp only [hasP]
      congr 1
      rw [Bool.eq_iff_iff, beq_iff_eq, beq_iff_eq]
      omega)
    have h1 : num (fun k => (k == p.1.toNat) || hasP r k) n = num (fun k => k == p.1.toNat) n + num (fun k => hasP r k) n := num_or (fun k _ ⟨h1, h2⟩ => by
      rw [beq_iff_eq] at h1
      rw [hasP_iff, h1, Int.toNat_of_nonneg hp.1] at h2
      exact h.1 h2)
    have h2 : num (fun k => k == p.1.toNat) n = 1 := by
      rw [num_drop (j := p.1.toNat) (by omega) (by simp), num_congr (q := fun _ => false) (fun k _ => by cases (k == p.1.toNat) <;> rfl), num_none]
    rw [hs, h1, h2, len_num h.2 (fun q hq => hk q (by simp [hq])), List.length_cons]
    omega

theorem WfP.len {n : Nat} {ps : List (Int × Int)} (h : WfP n ps) : ps.length + neg (bP ps) n = n := by
  have h1 := len_num h.once h.keys
  have h2 : neg (bP ps) n = num (fun k => !hasP ps (k : Int)) n := num_congr (fun k _ => by
    rw [Bool.eq_iff_iff, decide_eq_true_eq, bP_neg h, Bool.not_eq_true'])
  have h3 := num_not (fun k => hasP ps (k : Int)) n
  omega

/-! ### of -/
structure A22 where
  l : List AV
  ps : List (Int × Int)
  i : Int

/-- What is found. -/
def Made (l : List AV) (i : Nat) (ps : List (Int × Int)) : Prop := WfP l.length ps ∧ ∃ Z, Part (edgeL l) l.length i (bP ps) Z

def st22 (a : A22) : S := sp 20 [(3, .ptr 0 0 [] 0), (10, .int a.l.length), (11, .int a.i)] [.box 42 (.agg [.lst 25 a.l, .mp 1]), .map 3 3 (mkM a.ps)]
def side22 (a : A22) : Prop := fitB a.l = true ∧ 0 ≤ a.i ∧ a.i ≤ a.l.length ∧ Made a.l a.i.toNat a.ps
def out22 (a : A22) : Out (Exit × S) := .all (Made a.l a.l.length) fun ps => .one (.exit 0, sp 20 [(3, .ptr 0 0 [] 0)] [.box 42 (.agg [.lst 25 a.l, .mp 1]), .map 3 3 (mkM ps)])

theorem x22 (a : A22) (I : Nat → S → Prop) (n : Nat) (K : Exit → S → Prop) : (vc F35 12 22 none 0 (loopCode Try.prog 22 3) (st22 a) (loopK F35 22 3 0 I n K)) = (
  brn (decide (A22.i a < (↑(List.length (A22.l a)) : Int)))
  (∃ (a_1 : A35),
    ([AV.ptr (0 : Nat) (0 : Nat) [] (0 : Nat), AV.lit (Value.int IntKind.i64 (A22.i a)), AV.mp (2 : Nat)],
          [Obj.box (42 : Nat) (AV.agg [AV.lst (25 : Nat) (A22.l a), AV.mp (1 : Nat)]),
            Dn.Obj.map (3 : Nat) (3 : Nat) (mkM (A22.ps a)), Dn.Obj.map (3 : Nat) (4 : Nat) []]) =
        ([AV.ptr (0 : Nat) (0 : Nat) [] (0 : Nat), AV.lit (Value.int IntKind.i64 (A35.i a_1)), AV.mp (2 : Nat)],
          [Obj.box (42 : Nat) (AV.agg [AV.lst (25 : Nat) (A35.l a_1), AV.mp (1 : Nat)]),
            Dn.Obj.map (3 : Nat) (3 : Nat) (mkM (A35.ps a_1)), Dn.Obj.map (3 : Nat) (4 : Nat) (mkB (A35.ms a_1))]) ∧
      (fitB (A35.l a_1) = true ∧
          WfP (List.length (A35.l a_1)) (A35.ps a_1) ∧
            (0 : Int) ≤ A35.i a_1 ∧ A35.i a_1 < (↑(List.length (A35.l a_1)) : Int)) ∧
        ∀ (y : Res),
          Dfs (edgeL (A35.l a_1)) (List.length (A35.l a_1)) (Int.toNat (A35.i a_1)) (0 : Nat) (bP (A35.ps a_1))
                (mP (A35.ms a_1)) (Res.r y) (bP (Res.ps y)) (mP (Res.ms y)) ∧
              WfP (List.length (A35.l a_1)) (Res.ps y) →
            ∃ (m : Nat),
              m < n ∧
                I m
                  (sp (20 : Nat)
                    [((3 : Nat), AV.ptr (0 : Nat) (0 : Nat) [] (0 : Nat)),
                      ((10 : Nat), AV.lit (Value.int IntKind.i64 (↑(List.length (A22.l a)) : Int))),
                      ((11 : Nat), AV.lit (Value.int IntKind.i64 (IntKind.wrap IntKind.i64 (A22.i a + (1 : Int)))))]
                    [Obj.box (42 : Nat) (AV.agg [AV.lst (25 : Nat) (A35.l a_1), AV.mp (1 : Nat)]),
                      Dn.Obj.map (3 : Nat) (3 : Nat) (mkM (Res.ps y))]))
  (K (Exit.exit (0 : Nat))
    (sp (20 : Nat) [((3 : Nat), AV.ptr (0 : Nat) (0 : Nat) [] (0 : Nat))]
      [Obj.box (42 : Nat) (AV.agg [AV.lst (25 : Nat) (A22.l a), AV.mp (1 : Nat)]),
        Dn.Obj.map (3 : Nat) (3 : Nat) (mkM (A22.ps a))]))) := by kernel_rfl


theorem l22 : LoopOk F35 12 22 3 (loopE 0 st22 side22 out22) := by
  refine loopE_ok (fun a => a.l.length - a.i.toNat) ?_
  rintro ⟨l, ps, i⟩ K ⟨h1, h2, h3, h4, Z, h5⟩ ho
  refine Eq.mpr (x22 _ _ _ K) ?_
  simp only at h1 h2 h3 h4 h5 ⊢
  obtain ⟨i, rfl⟩ := Int.eq_ofNat_of_zero_le h2
  have hl := fit_len h1
  simp only [maxI] at hl
  simp only [Int.toNat_natCast] at h5
  rw [brn_iff]
  refine ⟨fun hi => ?_, fun hi => ?_⟩
  · have hi' : i < l.length := by simpa using hi
    refine ⟨⟨l, ps, [], i⟩, rfl, ⟨h1, h4, h2, by simp only; omega⟩, fun y hy => ?_⟩
    rw [wrap_ok (by omega) (by omega)]
    have hd : Dfs (edgeL l) l.length i 0 (bP ps) (mP []) y.r (bP y.ps) (mP y.ms) := hy.1
    obtain ⟨Z', hp, _⟩ := h5.next (fun k _ => rfl) hd
    refine ⟨_, ?_, ⟨l, y.ps, i + 1⟩, rfl, ⟨h1, by simp only; omega, by simp only; omega, hy.2, Z', ?_⟩, rfl, ho⟩
    · simp only [Int.toNat_natCast]; omega
    · simp only [show ((i : Int) + 1).toNat = i + 1 by omega]; exact hp
  · have : i = l.length := by simp at hi; omega
    subst this
    exact ho ps ⟨h4, Z, h5⟩

noncomputable def E22 : Env := F35.addLoop 22 3 (loopE 0 st22 side22 out22)
theorem e22 : EnvOK E22 := eF35.addLoop mF35 l22
theorem m22 : EnvMono E22 := mF35.addLoop loopE_mono


def stc22 (l : List AV) : List AV × List Dn.Obj := ([.lst 25 l], [])
theorem y22 (l : List AV) (K : AV → List Dn.Obj → Prop) : (funA E22 12 22 (stc22 l).1 (stc22 l).2 K) = (
  loopCode (Env.P F35) (22 : Nat) (3 : Nat) = loopCode (Env.P F35) (22 : Nat) (3 : Nat) ∧
  ∃ (a : A22),
    sp (20 : Nat)
          [((3 : Nat), AV.ptr (0 : Nat) (0 : Nat) [] (0 : Nat)),
            ((10 : Nat), AV.lit (Value.int IntKind.i64 (↑(List.length l) : Int))),
            ((11 : Nat), AV.lit (Value.int IntKind.i64 (0 : Int)))]
          [Obj.box (42 : Nat) (AV.agg [AV.lst (25 : Nat) l, AV.mp (1 : Nat)]), Dn.Obj.map (3 : Nat) (3 : Nat) []] =
        sp (20 : Nat)
          [((3 : Nat), AV.ptr (0 : Nat) (0 : Nat) [] (0 : Nat)),
            ((10 : Nat), AV.lit (Value.int IntKind.i64 (↑(List.length (A22.l a)) : Int))),
            ((11 : Nat), AV.lit (Value.int IntKind.i64 (A22.i a)))]
          [Obj.box (42 : Nat) (AV.agg [AV.lst (25 : Nat) (A22.l a), AV.mp (1 : Nat)]),
            Dn.Obj.map (3 : Nat) (3 : Nat) (mkM (A22.ps a))] ∧
      (fitB (A22.l a) = true ∧
          (0 : Int) ≤ A22.i a ∧
            A22.i a ≤ (↑(List.length (A22.l a)) : Int) ∧
              WfP (List.length (A22.l a)) (A22.ps a) ∧
                ∃ (Z : Nat → Prop),
                  Part (edgeL (A22.l a)) (List.length (A22.l a)) (Int.toNat (A22.i a)) (bP (A22.ps a)) Z) ∧
        ∀ (y : List (Int × Int)),
          (WfP (List.length (A22.l a)) y ∧
              ∃ (Z : Nat → Prop), Part (edgeL (A22.l a)) (List.length (A22.l a)) (List.length (A22.l a)) (bP y) Z) →
            K (AV.ptr (0 : Nat) (0 : Nat) [] (0 : Nat))
              [Obj.box (42 : Nat) (AV.agg [AV.lst (25 : Nat) (A22.l a), AV.mp (1 : Nat)]),
                Dn.Obj.map (3 : Nat) (3 : Nat) (mkM y)]) := by kernel_rfl


noncomputable def outc22 (l : List AV) : Out (AV × List Dn.Obj) := .all (Made l l.length) fun ps => .one (.ptr 0 0 [] 0, [.box 42 (.agg [.lst 25 l, .mp 1]), .map 3 3 (mkM ps)])

theorem c22 : CallOk E22 12 22 (callE stc22 (fun l => fitB l = true) outc22) := by
  refine callE_ok ?_
  intro l K h1 ho
  rw [y22]
  refine ⟨rfl, ⟨l, [], 0⟩, rfl, ⟨h1, Int.le_refl _, by simp only; omega, ⟨(fun _ h => nomatch h), (fun _ h => nomatch h), List.Pairwise.nil⟩, _, Part.start _ _ (fun k _ => rfl)⟩, fun ps hp => ho ps hp⟩

noncomputable def F22 : Env := E22.addCall 22 (callE stc22 (fun l => fitB l = true) outc22)
theorem eF22 : EnvOK F22 := e22.addCall m22 c22
theorem mF22 : EnvMono F22 := m22.addCall callE_mono

/-! ### Least -/

def stc11 (a : Int × List AV) : List AV × List Dn.Obj := ([.int a.1, .lst 25 a.2], [])
theorem y11 (a : Int × List AV) (K : AV → List Dn.Obj → Prop) : (funA F22 12 11 (stc11 a).1 (stc11 a).2 K) = (
  cnd (fitB (Prod.snd a))
  (brn (!rightI (Prod.fst a) (rows (Prod.snd a)))
    (K (AV.tup [AV.lit (Value.int IntKind.i64 (0 : Int)), AV.lit (Value.int IntKind.i64 (110 : Int))]) [])
    (∃ (a_1 : List AV),
      ([AV.lst (25 : Nat) (Prod.snd a)], nilO) = ([AV.lst (25 : Nat) a_1], nilO) ∧
        fitB a_1 = true ∧
          ∀ (y : List (Int × Int)),
            (WfP (List.length a_1) y ∧
                ∃ (Z : Nat → Prop), Part (edgeL a_1) (List.length a_1) (List.length a_1) (bP y) Z) →
              K
                (AV.tup
                  [AV.lit
                      (Value.int IntKind.i64
                        (if
                            IntKind.wrap IntKind.i64
                                ((↑(List.length (Prod.snd a)) : Int) - (↑(List.length (mkM y)) : Int)) >
                              (1 : Int) then
                          IntKind.wrap IntKind.i64
                            ((↑(List.length (Prod.snd a)) : Int) - (↑(List.length (mkM y)) : Int))
                        else (1 : Int))),
                    AV.lit (Value.int IntKind.i64 (0 : Int))])
                []))) := by kernel_rfl


noncomputable def outc11 (a : Int × List AV) : Out (AV × List Dn.Obj) :=
  .brn (rightI a.1 (rows a.2)) (.all (Width a.2) fun w => .one (.tup [.int (max 1 w : Nat), .int 0], [])) (.one (.tup [.int 0, .int 110], []))

theorem c11 : CallOk F22 12 11 (callE stc11 (fun a => fitB a.2 = true) outc11) := by
  refine callE_ok ?_
  rintro ⟨c, l⟩ K h1 ho
  rw [y11]
  simp only [outc11, Out.run, brn_iff] at ho
  simp only [cnd_iff, brn_iff]
  refine ⟨h1, fun hr => ho.2 (by simpa using hr), fun hr => ⟨l, rfl, h1, fun ps hp => ?_⟩⟩
  obtain ⟨hw, Z, hp⟩ := hp
  have hl := fit_len h1
  simp only [maxI] at hl
  have hlen := hw.len
  have he : (mkM ps).length = ps.length := by simp [mkM]
  have := ho.1 (by simpa using hr) _ (width_of hp)
  rw [he, wrap_ok (by omega) (by omega)]
  have e : (if (l.length : Int) - ps.length > 1 then (l.length : Int) - ps.length else 1) = ((max 1 (neg (bP ps) l.length) : Nat) : Int) := by
    rw [show (l.length : Int) - ps.length = (neg (bP ps) l.length : Nat) by omega]
    split <;> omega
  rw [e]
  exact this

noncomputable def F11 : Env := F22.addCall 11 (callE stc11 (fun a => fitB a.2 = true) outc11)
theorem eF11 : EnvOK F11 := eF22.addCall mF22 c11
theorem mF11 : EnvMono F11 := mF22.addCall callE_mono

end Go.Proofs.Ytpjkphcfkpcfgaa
