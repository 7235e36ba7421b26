import Derived.Test.YtpjkphcfkpcfgaaCvR
import Derived.Test.YtpjkphcfkpcfgaaDoG
import Derived.Test.YtpjkphcfkpcfgaaRows
import Derived.ProofKit
import Derived.Deep.DeepHandedRow
/-
  augment (ref).
-/
namespace Go.Proofs.Ytpjkphcfkpcfgaa
open Go Go.Dn Go.Proofs

def mkT (xs : List Bool) : List AV := xs.map AV.bool
theorem len_mkT (xs : List Bool) : (mkT xs).length = xs.length := by simp [mkT]

def bL (bs : List Int) (k : Nat) : Int := bs.getD k (-1)
def mL (ms : List Bool) (k : Nat) : Bool := ms.getD k false

noncomputable def G24 : Env := { F9 with own := fun f => Nat.beq f 24 }
theorem eG24 : EnvOK G24 := ⟨eF9.prog, eF9.pcall, eF9.call, eF9.loop⟩
theorem mG24 : EnvMono G24 := ⟨mF9.call, mF9.loop⟩

structure A24 where
  l : List AV
  bs : List Int
  ms : List Bool
  i : Int

def st24 (a : A24) : List AV × List Dn.Obj := ([.lst 25 a.l, .int a.i, .slc 0 0 a.l.length, .slc 1 0 a.l.length], [.row 3 (mkI a.bs), .row 4 (mkT a.ms)])
def side24 (a : A24) : Prop := fitB a.l = true ∧ (a.bs.length = a.l.length ∧ a.ms.length = a.l.length ∧ ∀ x, x ∈ a.bs → x < a.l.length) ∧ 0 ≤ a.i ∧ a.i < a.l.length
def mu24 (a : A24) : Nat := num (fun k => !mL a.ms k) a.l.length

structure Res24 where
  r : Bool
  bs : List Int
  ms : List Bool

def rel24 (a : A24) (k : Nat) (y : Res24) : Prop := Dfs (edgeL a.l) a.l.length a.i.toNat k (bL a.bs) (mL a.ms) y.r (bL y.bs) (mL y.ms) ∧ y.bs.length = a.l.length ∧ y.ms.length = a.l.length ∧ ∀ x, x ∈ y.bs → x < a.l.length

noncomputable def out24 (a : A24) : Out (AV × List Dn.Obj) :=
  .all (rel24 a 0) fun y => .one (.bool y.r, [.row 3 (mkI y.bs), .row 4 (mkT y.ms)])

noncomputable def sp24 (n : Nat) : CallSpec := callE st24 (fun a => side24 a ∧ mu24 a = n) out24
noncomputable def R24 (N : Nat) : Env := G24.addCall 24 fun args st K => ∃ m, m < N ∧ sp24 m args st K

structure A24l where
  a : A24
  k : Int

def st24l (a : A24l) : S := sp 56 [(0, .lst 25 a.a.l), (1, .int a.a.i), (2, .slc 0 0 a.a.l.length), (3, .slc 1 0 a.a.l.length), (9, .int a.k)] [.row 3 (mkI a.a.bs), .row 4 (mkT a.a.ms)]

theorem x24 (N : Nat) (a : A24l) (I : Nat → S → Prop) (n : Nat) (K : Exit → S → Prop) : (vc (R24 N) 12 24 none 2 (loopCode Try.prog 24 2) (st24l a) (loopK (R24 N) 24 2 2 I n K)) = (
  brn (decide (A24l.k a < (↑(List.length (A24.l (A24l.a a))) : Int)))
  (cnd (decide ((0 : Int) ≤ A24.i (A24l.a a)) && decide (A24.i (A24l.a a) < (↑(List.length (A24.l (A24l.a a))) : Int)))
    (cnd (decide ((0 : Int) ≤ A24l.k a) && decide (A24l.k a < (↑(List.length (A24.l (A24l.a a))) : Int)))
      (cnd
        (decide
            (List.length (toLst (nth (A24.l (A24l.a a)) (Int.toNat (A24.i (A24l.a a))))) ≤
              (9223372036854775807 : Nat)) &&
          decide (List.length (toLst (nth (A24.l (A24l.a a)) (Int.toNat (A24l.k a)))) ≤ (9223372036854775807 : Nat)))
        (brn
          (!insideI (ints (toLst (nth (A24.l (A24l.a a)) (Int.toNat (A24.i (A24l.a a))))))
              (ints (toLst (nth (A24.l (A24l.a a)) (Int.toNat (A24l.k a))))))
          (∃ (m : Nat),
            m < n ∧
              I m
                (sp (56 : Nat)
                  [((0 : Nat), AV.lst (25 : Nat) (A24.l (A24l.a a))),
                    ((1 : Nat), AV.lit (Value.int IntKind.i64 (A24.i (A24l.a a)))),
                    ((2 : Nat), AV.slc (0 : Nat) (0 : Nat) (List.length (A24.l (A24l.a a)))),
                    ((3 : Nat), AV.slc (1 : Nat) (0 : Nat) (List.length (A24.l (A24l.a a)))),
                    ((9 : Nat), AV.lit (Value.int IntKind.i64 (IntKind.wrap IntKind.i64 (A24l.k a + (1 : Int)))))]
                  [Obj.row (3 : Nat) (mkI (A24.bs (A24l.a a))), Obj.row (4 : Nat) (mkT (A24.ms (A24l.a a)))]))
          (cnd (decide ((0 : Int) ≤ A24l.k a) && decide (A24l.k a < (↑(List.length (A24.l (A24l.a a))) : Int)))
            (brn (Dn.toBool (nth (mkT (A24.ms (A24l.a a))) ((0 : Nat) + Int.toNat (A24l.k a))))
              (∃ (m : Nat),
                m < n ∧
                  I m
                    (sp (56 : Nat)
                      [((0 : Nat), AV.lst (25 : Nat) (A24.l (A24l.a a))),
                        ((1 : Nat), AV.lit (Value.int IntKind.i64 (A24.i (A24l.a a)))),
                        ((2 : Nat), AV.slc (0 : Nat) (0 : Nat) (List.length (A24.l (A24l.a a)))),
                        ((3 : Nat), AV.slc (1 : Nat) (0 : Nat) (List.length (A24.l (A24l.a a)))),
                        ((9 : Nat), AV.lit (Value.int IntKind.i64 (IntKind.wrap IntKind.i64 (A24l.k a + (1 : Int)))))]
                      [Obj.row (3 : Nat) (mkI (A24.bs (A24l.a a))), Obj.row (4 : Nat) (mkT (A24.ms (A24l.a a)))]))
              (cnd (decide ((0 : Int) ≤ A24l.k a) && decide (A24l.k a < (↑(List.length (A24.l (A24l.a a))) : Int)))
                (cnd (decide ((0 : Int) ≤ A24l.k a) && decide (A24l.k a < (↑(List.length (A24.l (A24l.a a))) : Int)))
                  (brn (decide (toInt (nth (mkI (A24.bs (A24l.a a))) ((0 : Nat) + Int.toNat (A24l.k a))) < (0 : Int)))
                    (cnd
                      (decide ((0 : Int) ≤ A24l.k a) && decide (A24l.k a < (↑(List.length (A24.l (A24l.a a))) : Int)))
                      (K Exit.ret
                        (sp (56 : Nat) [((8 : Nat), AV.lit (Value.bool true))]
                          [Obj.row (3 : Nat)
                              (setN (mkI (A24.bs (A24l.a a))) ((0 : Nat) + Int.toNat (A24l.k a))
                                (AV.lit (Value.int IntKind.i64 (A24.i (A24l.a a))))),
                            Obj.row (4 : Nat)
                              (setN (mkT (A24.ms (A24l.a a))) ((0 : Nat) + Int.toNat (A24l.k a))
                                (AV.lit (Value.bool true)))])))
                    (cnd
                      (decide ((0 : Int) ≤ A24l.k a) && decide (A24l.k a < (↑(List.length (A24.l (A24l.a a))) : Int)))
                      (∃ (m : Nat),
                        m < N ∧
                          ∃ (a_1 : A24),
                            ([AV.lst (25 : Nat) (A24.l (A24l.a a)),
                                    AV.lit
                                      (Value.int IntKind.i64
                                        (toInt (nth (mkI (A24.bs (A24l.a a))) ((0 : Nat) + Int.toNat (A24l.k a))))),
                                    AV.slc (0 : Nat) (0 : Nat) (List.length (A24.l (A24l.a a))),
                                    AV.slc (1 : Nat) (0 : Nat) (List.length (A24.l (A24l.a a)))],
                                  [Obj.row (3 : Nat) (mkI (A24.bs (A24l.a a))),
                                    Obj.row (4 : Nat)
                                      (setN (mkT (A24.ms (A24l.a a))) ((0 : Nat) + Int.toNat (A24l.k a))
                                        (AV.lit (Value.bool true)))]) =
                                ([AV.lst (25 : Nat) (A24.l a_1), AV.lit (Value.int IntKind.i64 (A24.i a_1)),
                                    AV.slc (0 : Nat) (0 : Nat) (List.length (A24.l a_1)),
                                    AV.slc (1 : Nat) (0 : Nat) (List.length (A24.l a_1))],
                                  [Obj.row (3 : Nat) (mkI (A24.bs a_1)), Obj.row (4 : Nat) (mkT (A24.ms a_1))]) ∧
                              ((fitB (A24.l a_1) = true ∧
                                    (List.length (A24.bs a_1) = List.length (A24.l a_1) ∧
                                        List.length (A24.ms a_1) = List.length (A24.l a_1) ∧
                                          ∀ (x : Int),
                                            List.Mem x (A24.bs a_1) → x < (↑(List.length (A24.l a_1)) : Int)) ∧
                                      (0 : Int) ≤ A24.i a_1 ∧ A24.i a_1 < (↑(List.length (A24.l a_1)) : Int)) ∧
                                  mu24 a_1 = m) ∧
                                ∀ (y : Res24),
                                  (Dfs (edgeL (A24.l a_1)) (List.length (A24.l a_1)) (Int.toNat (A24.i a_1)) (0 : Nat)
                                        (bL (A24.bs a_1)) (mL (A24.ms a_1)) (Res24.r y) (bL (Res24.bs y))
                                        (mL (Res24.ms y)) ∧
                                      List.length (Res24.bs y) = List.length (A24.l a_1) ∧
                                        List.length (Res24.ms y) = List.length (A24.l a_1) ∧
                                          ∀ (x : Int),
                                            List.Mem x (Res24.bs y) → x < (↑(List.length (A24.l a_1)) : Int)) →
                                    brn (Res24.r y)
                                      (cnd
                                        (decide ((0 : Int) ≤ A24l.k a) &&
                                          decide (A24l.k a < (↑(List.length (A24.l (A24l.a a))) : Int)))
                                        (K Exit.ret
                                          (sp (56 : Nat) [((8 : Nat), AV.lit (Value.bool true))]
                                            [Obj.row (3 : Nat)
                                                (setN (mkI (Res24.bs y)) ((0 : Nat) + Int.toNat (A24l.k a))
                                                  (AV.lit (Value.int IntKind.i64 (A24.i (A24l.a a))))),
                                              Obj.row (4 : Nat) (mkT (Res24.ms y))])))
                                      (∃ (m : Nat),
                                        m < n ∧
                                          I m
                                            (sp (56 : Nat)
                                              [((0 : Nat), AV.lst (25 : Nat) (A24.l (A24l.a a))),
                                                ((1 : Nat), AV.lit (Value.int IntKind.i64 (A24.i (A24l.a a)))),
                                                ((2 : Nat),
                                                  AV.slc (0 : Nat) (0 : Nat) (List.length (A24.l (A24l.a a)))),
                                                ((3 : Nat),
                                                  AV.slc (1 : Nat) (0 : Nat) (List.length (A24.l (A24l.a a)))),
                                                ((9 : Nat),
                                                  AV.lit
                                                    (Value.int IntKind.i64
                                                      (IntKind.wrap IntKind.i64 (A24l.k a + (1 : Int)))))]
                                              [Obj.row (3 : Nat) (mkI (Res24.bs y)),
                                                Obj.row (4 : Nat) (mkT (Res24.ms y))])))))))))))))
  (K (Exit.exit (0 : Nat))
    (sp (56 : Nat) [] [Obj.row (3 : Nat) (mkI (A24.bs (A24l.a a))), Obj.row (4 : Nat) (mkT (A24.ms (A24l.a a)))]))) := by kernel_rfl


theorem setN_mkI (v : Int) : ∀ (bs : List Int) (k : Nat), setN (mkI bs) k (AV.int v) = mkI (bs.set k v)
  | [], _ => rfl
  | _ :: _, 0 => rfl
  | b :: bs, k + 1 => by
    show AV.int b :: setN (mkI bs) k (AV.int v) = _
    rw [setN_mkI v bs k]; rfl
theorem setN_mkT (v : Bool) : ∀ (bs : List Bool) (k : Nat), setN (mkT bs) k (AV.bool v) = mkT (bs.set k v)
  | [], _ => rfl
  | _ :: _, 0 => rfl
  | b :: bs, k + 1 => by
    show AV.bool b :: setN (mkT bs) k (AV.bool v) = _
    rw [setN_mkT v bs k]; rfl
theorem nth_mkI : ∀ (bs : List Int) (k : Nat), k < bs.length → toInt (nth (mkI bs) k) = bL bs k
  | [], _, h => by simp at h
  | _ :: _, 0, _ => rfl
  | b :: bs, k + 1, h => by
    show toInt (nth (mkI bs) k) = _
    rw [nth_mkI bs k (by simpa using h)]; rfl
theorem nth_mkT : ∀ (bs : List Bool) (k : Nat), Dn.toBool (nth (mkT bs) k) = mL bs k
  | [], _ => rfl
  | _ :: _, 0 => rfl
  | b :: bs, k + 1 => by
    show Dn.toBool (nth (mkT bs) k) = _
    rw [nth_mkT bs k]; rfl
theorem getD_set {α : Type} (l : List α) (k : Nat) (v d : α) (h : k < l.length) (j : Nat) : (l.set k v).getD j d = if j = k then v else l.getD j d := by
  simp only [List.getD_eq_getElem?_getD, List.getElem?_set]
  by_cases e : k = j
  · subst e; simp [h]
  · rw [if_neg e, if_neg (Ne.symm e)]
theorem bL_upd {bs : List Int} {k : Nat} (h : k < bs.length) (v : Int) : bL (bs.set k v) = updF (bL bs) k v := by
  funext j; simp only [bL, updF, getD_set bs k v _ h j]
theorem mL_upd {bs : List Bool} {k : Nat} (h : k < bs.length) (v : Bool) : mL (bs.set k v) = updF (mL bs) k v := by
  funext j; simp only [mL, updF, getD_set bs k v _ h j]

def side24l (N : Nat) (a : A24l) : Prop := side24 a.a ∧ mu24 a.a ≤ N ∧ 0 ≤ a.k ∧ a.k ≤ a.a.l.length
noncomputable def out24l (a : A24l) : Out (Exit × S) :=
  .all (rel24 a.a a.k.toNat) fun y => .brn y.r (.one (.ret, sp 56 [(8, .bool true)] [.row 3 (mkI y.bs), .row 4 (mkT y.ms)])) (.one (.exit 0, sp 56 [] [.row 3 (mkI y.bs), .row 4 (mkT y.ms)]))

theorem l24 (N : Nat) : LoopOk (R24 N) 12 24 2 (loopE 2 st24l (side24l N) out24l) := by
  refine loopE_ok (fun a => a.a.l.length - a.k.toNat) ?_
  rintro ⟨⟨l, bs, ms, i⟩, k⟩ K ⟨⟨h1, ⟨hb, hm, hv⟩, h3, h4⟩, h5, h6, h7⟩ ho
  rw [show (R24 N).P = Try.prog from rfl, x24]
  simp only at h1 hb hm hv h3 h4 h5 h6 h7 ⊢
  obtain ⟨k, rfl⟩ := Int.eq_ofNat_of_zero_le h6
  obtain ⟨i, rfl⟩ := Int.eq_ofNat_of_zero_le h3
  have hl := fit_len h1
  simp only [maxI] at hl
  have next : ∀ (bs' : List Int) (ms' : List Bool), k < l.length → (bs'.length = l.length ∧ ms'.length = l.length ∧ ∀ x, x ∈ bs' → x < l.length) → (∀ z : Res24, rel24 ⟨l, bs', ms', i⟩ (k + 1) z → rel24 ⟨l, bs, ms, i⟩ k z) → mu24 ⟨l, bs', ms', i⟩ ≤ N →
    ∃ m, m < l.length - k ∧ invOf st24l (side24l N) out24l (fun a => a.a.l.length - a.k.toNat) K m (st24l ⟨⟨l, bs', ms', i⟩, IntKind.wrap .i64 ((k : Int) + 1)⟩) := by
    intro bs' ms' hk hw hz hmu
    rw [wrap_ok (by omega) (by omega)]
    refine ⟨_, ?_, _, rfl, ⟨⟨h1, hw, h3, h4⟩, hmu, by simp only; omega, by simp only; omega⟩, rfl, ?_⟩
    · simp only; omega
    · intro z hz'
      simp only [show ((k : Int) + 1).toNat = k + 1 by omega] at hz'
      exact ho z (hz z hz')
  have go : k < l.length → (edgeL l i k = false ∨ mL ms k = true) → _ := fun hk hp => next bs ms hk ⟨hb, hm, hv⟩ (fun z hz => ⟨hz.1.pass hp, hz.2⟩) h5
  have hie : i < l.length := by omega
  have hset : ∀ bs' : List Int, (∀ x, x ∈ bs' → x < l.length) → ∀ x, x ∈ bs'.set k (i : Int) → x < l.length := fun bs' hh x hx => by
    rcases List.mem_or_eq_of_mem_set hx with h | h
    · exact hh x h
    · omega
  simp only [brn_iff, cnd_iff, decide_eq_true_eq, decide_eq_false_iff_not, Bool.and_eq_true, Bool.not_eq_true', Bool.not_eq_false', Int.toNat_natCast, Nat.zero_add, setN_mkI, setN_mkT, nth_mkT]
  refine ⟨fun hk => ?_, fun hk => ho ⟨false, bs, ms⟩ ⟨Dfs.last (by simp only [Int.toNat_natCast]; omega), hb, hm, hv⟩⟩
  have hkl : k < l.length := by omega
  rw [nth_mkI bs k (by omega)]
  have c1 : (0 : Int) ≤ k ∧ (k : Int) < l.length := ⟨h6, hk⟩
  refine ⟨⟨h3, h4⟩, c1, ⟨fit_row h1 hie, fit_row h1 hkl⟩, fun he => go hkl (.inl he), fun he => ⟨c1, fun hmk => go hkl (.inr hmk), fun hmk => ⟨c1, c1, fun hneg => ⟨c1, ?_⟩, fun hpos => ⟨c1, ?_⟩⟩⟩⟩
  · exact ho ⟨true, bs.set k i, ms.set k true⟩ ⟨by
      rw [bL_upd (by omega), mL_upd (by omega)]
      exact Dfs.free hkl hie he hmk hneg, by rw [List.length_set]; exact hb, by rw [List.length_set]; exact hm, hset bs hv⟩
  · have hb0 : 0 ≤ bL bs k := by omega
    have hbl : bL bs k < l.length := hv _ (by
      unfold bL
      rw [List.getD_eq_getElem?_getD, List.getElem?_eq_getElem (by omega)]
      simp)
    have hmu : mu24 ⟨l, bs, ms.set k true, bL bs k⟩ < mu24 ⟨l, bs, ms, i⟩ := by
      have := num_upd (p := fun j => !mL ms j) (p' := fun j => !mL (ms.set k true) j) hkl (fun j hj => by rw [mL_upd (by omega), updF_other _ _ hj])
      simp only [mL_upd (show k < ms.length by omega), updF_same, hmk, Bool.not_false, Bool.not_true, Bool.toNat_true, Bool.toNat_false] at this
      simp only [mu24, mL_upd (show k < ms.length by omega)]
      omega
    refine ⟨_, Nat.lt_of_lt_of_le hmu h5, ⟨l, bs, ms.set k true, bL bs k⟩, rfl, ⟨⟨h1, ⟨hb, by rw [List.length_set]; exact hm, hv⟩, hb0, hbl⟩, rfl⟩, fun y hy => ?_⟩
    obtain ⟨y1, y2, y3, y4⟩ : Dfs (edgeL l) l.length (bL bs k).toNat 0 (bL bs) (mL (ms.set k true)) y.r (bL y.bs) (mL y.ms) ∧ y.bs.length = l.length ∧ y.ms.length = l.length ∧ ∀ x, x ∈ y.bs → x < l.length := hy
    rw [mL_upd (by omega)] at y1
    refine ⟨fun hr => ⟨c1, ?_⟩, fun hr => ?_⟩
    · rw [hr] at y1
      exact ho ⟨true, y.bs.set k i, y.ms⟩ ⟨by
        rw [bL_upd (by omega)]
        exact Dfs.deep hkl hie he hmk hb0 y1, by rw [List.length_set]; exact y2, y3, hset y.bs y4⟩
    · rw [hr] at y1
      refine next y.bs y.ms hkl ⟨y2, y3, y4⟩ (fun z hz => ⟨Dfs.back hkl he hmk hb0 y1 hz.1, hz.2⟩) ?_
      refine Nat.le_trans (num_le fun j hj hnj => ?_) h5
      simp only [Bool.not_eq_true'] at hnj ⊢
      cases hmj : mL ms j with
      | false => rfl
      | true =>
        have := y1.met j hj (by by_cases e : j = k <;> simp [updF, e, hmj])
        rw [hnj] at this; cases this

noncomputable def Q24 (N : Nat) : Env := (R24 N).addLoop 24 2 (loopE 2 st24l (side24l N) out24l)

theorem y24 (N : Nat) (a : A24) (K : AV → List Dn.Obj → Prop) : (funA (Q24 N) 12 24 (st24 a).1 (st24 a).2 K) = (
  loopCode (Env.P (R24 N)) (24 : Nat) (2 : Nat) = loopCode (Env.P (R24 N)) (24 : Nat) (2 : Nat) ∧
  ∃ (a_1 : A24l),
    sp (56 : Nat)
          [((0 : Nat), AV.lst (25 : Nat) (A24.l a)), ((1 : Nat), AV.lit (Value.int IntKind.i64 (A24.i a))),
            ((2 : Nat), AV.slc (0 : Nat) (0 : Nat) (List.length (A24.l a))),
            ((3 : Nat), AV.slc (1 : Nat) (0 : Nat) (List.length (A24.l a))),
            ((9 : Nat), AV.lit (Value.int IntKind.i64 (0 : Int)))]
          [Obj.row (3 : Nat) (mkI (A24.bs a)), Obj.row (4 : Nat) (mkT (A24.ms a))] =
        sp (56 : Nat)
          [((0 : Nat), AV.lst (25 : Nat) (A24.l (A24l.a a_1))),
            ((1 : Nat), AV.lit (Value.int IntKind.i64 (A24.i (A24l.a a_1)))),
            ((2 : Nat), AV.slc (0 : Nat) (0 : Nat) (List.length (A24.l (A24l.a a_1)))),
            ((3 : Nat), AV.slc (1 : Nat) (0 : Nat) (List.length (A24.l (A24l.a a_1)))),
            ((9 : Nat), AV.lit (Value.int IntKind.i64 (A24l.k a_1)))]
          [Obj.row (3 : Nat) (mkI (A24.bs (A24l.a a_1))), Obj.row (4 : Nat) (mkT (A24.ms (A24l.a a_1)))] ∧
      ((fitB (A24.l (A24l.a a_1)) = true ∧
            (List.length (A24.bs (A24l.a a_1)) = List.length (A24.l (A24l.a a_1)) ∧
                List.length (A24.ms (A24l.a a_1)) = List.length (A24.l (A24l.a a_1)) ∧
                  ∀ (x : Int), List.Mem x (A24.bs (A24l.a a_1)) → x < (↑(List.length (A24.l (A24l.a a_1))) : Int)) ∧
              (0 : Int) ≤ A24.i (A24l.a a_1) ∧ A24.i (A24l.a a_1) < (↑(List.length (A24.l (A24l.a a_1))) : Int)) ∧
          mu24 (A24l.a a_1) ≤ N ∧ (0 : Int) ≤ A24l.k a_1 ∧ A24l.k a_1 ≤ (↑(List.length (A24.l (A24l.a a_1))) : Int)) ∧
        ∀ (y : Res24),
          (Dfs (edgeL (A24.l (A24l.a a_1))) (List.length (A24.l (A24l.a a_1))) (Int.toNat (A24.i (A24l.a a_1)))
                (Int.toNat (A24l.k a_1)) (bL (A24.bs (A24l.a a_1))) (mL (A24.ms (A24l.a a_1))) (Res24.r y)
                (bL (Res24.bs y)) (mL (Res24.ms y)) ∧
              List.length (Res24.bs y) = List.length (A24.l (A24l.a a_1)) ∧
                List.length (Res24.ms y) = List.length (A24.l (A24l.a a_1)) ∧
                  ∀ (x : Int), List.Mem x (Res24.bs y) → x < (↑(List.length (A24.l (A24l.a a_1))) : Int)) →
            brn (Res24.r y)
              (K (AV.lit (Value.bool true))
                [Obj.row (3 : Nat) (mkI (Res24.bs y)), Obj.row (4 : Nat) (mkT (Res24.ms y))])
              (K (AV.lit (Value.bool false))
                [Obj.row (3 : Nat) (mkI (Res24.bs y)), Obj.row (4 : Nat) (mkT (Res24.ms y))])) := by kernel_rfl


theorem c24 (N : Nat) : CallOk (Q24 N) 12 24 (sp24 N) := by
  refine callE_ok ?_
  rintro a K ⟨h1, h2⟩ ho
  rw [y24]
  refine ⟨rfl, ⟨a, 0⟩, rfl, ⟨h1, Nat.le_of_eq h2, by simp only; omega, by simp only; omega⟩, fun y hy => ?_⟩
  obtain ⟨r, bs, ms⟩ := y
  have := ho ⟨r, bs, ms⟩ hy
  cases r
  · exact this
  · exact this

theorem ext24 (N : Nat) (h : ∀ args st K, (∃ m, m < N ∧ sp24 m args st K) → SimCall Try.prog 24 args st K) : EnvOK (Q24 N) ∧ EnvMono (Q24 N) ∧ (Q24 N).P = Try.prog := by
  have h1 : EnvOK (R24 N) := eG24.addSim h
  have h2 : EnvMono (R24 N) := mG24.addCall fun args st K K' hK ⟨m, hm, hh⟩ => ⟨m, hm, callE_mono _ _ _ _ hK hh⟩
  exact ⟨h1.addLoop h2 (l24 N), h2.addLoop loopE_mono, rfl⟩

theorem s24 : ∀ n args st K, sp24 n args st K → SimCall Try.prog 24 args st K := EnvOK.addRecL sp24 Q24 ext24 c24

noncomputable def F24 : Env := G24.addCall 24 (callE st24 side24 out24)
theorem eF24 : EnvOK F24 := eG24.addSim fun args st K ⟨a, h1, h2, h3⟩ => s24 (mu24 a) args st K ⟨a, h1, ⟨h2, rfl⟩, h3⟩
theorem mF24 : EnvMono F24 := mG24.addCall callE_mono

end Go.Proofs.Ytpjkphcfkpcfgaa

/-
  Least (ref).
-/
namespace Go.Proofs.Ytpjkphcfkpcfgaa
open Go Go.Dn Go.Proofs

/-! ### none lies behind another -/
structure A128 where
  l : List AV
  bs : List Int
  i : Int

def st128 (a : A128) : S := sp 51 [(1, .lst 25 a.l), (7, .slc 0 0 a.l.length), (8, .int a.i)] [.row 3 (mkI a.bs)]
def side128 (a : A128) : Prop := fitB a.l = true ∧ a.bs.length = a.l.length ∧ 0 ≤ a.i ∧ a.i ≤ a.l.length ∧ ∀ k, k < a.i.toNat → bL a.bs k = -1
def out128 (a : A128) : Out (Exit × S) := .all (fun bs : List Int => bs.length = a.l.length ∧ ∀ k, k < a.l.length → bL bs k = -1) fun bs => .one (.exit 0, sp 51 [(1, .lst 25 a.l), (7, .slc 0 0 a.l.length)] [.row 3 (mkI bs)])

theorem x128 (a : A128) (I : Nat → S → Prop) (n : Nat) (K : Exit → S → Prop) : (vc F24 12 12 none 0 (loopCode Try.prog 12 8) (st128 a) (loopK F24 12 8 0 I n K)) = (
  brn (decide (A128.i a < (↑(List.length (A128.l a)) : Int)))
  (cnd (decide ((0 : Int) ≤ A128.i a) && decide (A128.i a < (↑(List.length (A128.l a)) : Int)))
    (∃ (m : Nat),
      m < n ∧
        I m
          (sp (51 : Nat)
            [((1 : Nat), AV.lst (25 : Nat) (A128.l a)),
              ((7 : Nat), AV.slc (0 : Nat) (0 : Nat) (List.length (A128.l a))),
              ((8 : Nat), AV.lit (Value.int IntKind.i64 (IntKind.wrap IntKind.i64 (A128.i a + (1 : Int)))))]
            [Obj.row (3 : Nat)
                (setN (mkI (A128.bs a)) ((0 : Nat) + Int.toNat (A128.i a))
                  (AV.lit (Value.int IntKind.i64 (-1 : Int))))])))
  (K (Exit.exit (0 : Nat))
    (sp (51 : Nat)
      [((1 : Nat), AV.lst (25 : Nat) (A128.l a)), ((7 : Nat), AV.slc (0 : Nat) (0 : Nat) (List.length (A128.l a)))]
      [Obj.row (3 : Nat) (mkI (A128.bs a))]))) := by kernel_rfl


theorem l128 : LoopOk F24 12 12 8 (loopE 0 st128 side128 out128) := by
  refine loopE_ok (fun a => a.l.length - a.i.toNat) ?_
  rintro ⟨l, bs, i⟩ K ⟨h1, h2, h3, h4, h5⟩ ho
  rw [show F24.P = Try.prog from rfl, x128]
  simp only at h1 h2 h3 h4 h5 ⊢
  obtain ⟨i, rfl⟩ := Int.eq_ofNat_of_zero_le h3
  have hl := fit_len h1
  simp only [maxI] at hl
  simp only [Int.toNat_natCast] at h5
  simp only [brn_iff, cnd_iff, decide_eq_true_eq, decide_eq_false_iff_not, Bool.and_eq_true, Int.toNat_natCast, Nat.zero_add, setN_mkI]
  refine ⟨fun hi => ⟨⟨h3, hi⟩, ?_⟩, fun hi => ?_⟩
  · rw [wrap_ok (by omega) (by omega)]
    refine ⟨_, ?_, ⟨l, bs.set i (-1), i + 1⟩, rfl, ⟨h1, by simp only [List.length_set]; exact h2, by simp only; omega, by simp only; omega, fun k hk => ?_⟩, rfl, ho⟩
    · simp only; omega
    · simp only [show ((i : Int) + 1).toNat = i + 1 by omega] at hk
      rw [bL_upd (by omega)]
      by_cases e : k = i
      · subst e; exact updF_same _ _ _
      · rw [updF_other _ _ e]; exact h5 k (by omega)
  · exact ho bs ⟨h2, fun k hk => h5 k (by simp only at hk; omega)⟩

noncomputable def E128 : Env := F24.addLoop 12 8 (loopE 0 st128 side128 out128)
theorem e128 : EnvOK E128 := eF24.addLoop mF24 l128
theorem m128 : EnvMono E128 := mF24.addLoop loopE_mono

theorem mkT_zeros (n : Nat) : mkT (List.replicate n false) = zerosA (.bool false) n := by
  induction n with
  | zero => rfl
  | succ n ih => rw [List.replicate_succ]; show AV.bool false :: mkT _ = _; rw [ih]; rfl
theorem mkI_zeros (n : Nat) : mkI (List.replicate n 0) = zerosA (.int 0) n := by
  induction n with
  | zero => rfl
  | succ n ih => rw [List.replicate_succ]; show AV.int 0 :: mkI _ = _; rw [ih]; rfl
theorem mL_zeros (n k : Nat) : mL (List.replicate n false) k = false := by
  unfold mL
  rw [List.getD_eq_getElem?_getD, List.getElem?_replicate]
  split <;> rfl
theorem num_le_n (p : Nat → Bool) : ∀ n, num p n ≤ n
  | 0 => Nat.le_refl 0
  | n + 1 => by
    have := num_le_n p n
    have : (p n).toNat ≤ 1 := by cases p n <;> decide
    simp only [num]; omega

theorem num_all : ∀ n, num (fun _ => true) n = n
  | 0 => rfl
  | n + 1 => by simp only [num, num_all n]; rfl
theorem num_one {n : Nat} (h : 0 < n) : num (fun k => k == 0) n = 1 := by
  rw [num_drop (j := 0) h (by simp), num_congr (q := fun _ => false) (fun k _ => by cases (k == 0) <;> rfl), num_none]

/-! ### each is looked for -/
structure A1213 where
  l : List AV
  bs : List Int
  n : Int
  i : Int

def st1213 (a : A1213) : S := sp 51 [(1, .lst 25 a.l), (7, .slc 0 0 a.l.length), (9, .int a.n), (10, .int a.i)] [.row 3 (mkI a.bs)]
def Made24 (l : List AV) (i : Nat) (n : Int) (bs : List Int) : Prop := bs.length = l.length ∧ (∀ x, x ∈ bs → x < l.length) ∧ n = neg (bL bs) l.length ∧ ∃ Z, Part (edgeL l) l.length i (bL bs) Z
def side1213 (a : A1213) : Prop := (fitB a.l = true ∧ a.l.length ≤ 1000) ∧ 0 ≤ a.i ∧ a.i ≤ a.l.length ∧ Made24 a.l a.i.toNat a.n a.bs
def out1213 (a : A1213) : Out (Exit × S) := .all (Width a.l) fun w => .one (.exit 2, sp 51 [(9, .int w)] [])

theorem x1213 (a : A1213) (I : Nat → S → Prop) (n : Nat) (K : Exit → S → Prop) : (vc E128 12 12 none 0 (loopCode Try.prog 12 13) (st1213 a) (loopK E128 12 13 0 I n K)) = (
  brn (decide (A1213.i a < (↑(List.length (A1213.l a)) : Int)))
  (cnd
    (true && decide ((↑(List.length (A1213.l a)) : Int) ≤ (↑(List.length (A1213.l a)) : Int)) &&
        decide ((Int.toNat (↑(List.length (A1213.l a)) : Int) + (1 : Nat)) * (2 : Nat) ≤ (70368744177664 : Nat)) &&
      true)
    (∃ (a_1 : A24),
      ([AV.lst (25 : Nat) (A1213.l a), AV.lit (Value.int IntKind.i64 (A1213.i a)),
              AV.slc (0 : Nat) (0 : Nat) (List.length (A1213.l a)),
              AV.slc (1 : Nat) (0 : Nat) (Int.toNat (↑(List.length (A1213.l a)) : Int))],
            [Obj.row (3 : Nat) (mkI (A1213.bs a)),
              Obj.row (4 : Nat) (zerosA (AV.lit (Value.bool false)) (Int.toNat (↑(List.length (A1213.l a)) : Int)))]) =
          ([AV.lst (25 : Nat) (A24.l a_1), AV.lit (Value.int IntKind.i64 (A24.i a_1)),
              AV.slc (0 : Nat) (0 : Nat) (List.length (A24.l a_1)),
              AV.slc (1 : Nat) (0 : Nat) (List.length (A24.l a_1))],
            [Obj.row (3 : Nat) (mkI (A24.bs a_1)), Obj.row (4 : Nat) (mkT (A24.ms a_1))]) ∧
        (fitB (A24.l a_1) = true ∧
            (List.length (A24.bs a_1) = List.length (A24.l a_1) ∧
                List.length (A24.ms a_1) = List.length (A24.l a_1) ∧
                  ∀ (x : Int), List.Mem x (A24.bs a_1) → x < (↑(List.length (A24.l a_1)) : Int)) ∧
              (0 : Int) ≤ A24.i a_1 ∧ A24.i a_1 < (↑(List.length (A24.l a_1)) : Int)) ∧
          ∀ (y : Res24),
            (Dfs (edgeL (A24.l a_1)) (List.length (A24.l a_1)) (Int.toNat (A24.i a_1)) (0 : Nat) (bL (A24.bs a_1))
                  (mL (A24.ms a_1)) (Res24.r y) (bL (Res24.bs y)) (mL (Res24.ms y)) ∧
                List.length (Res24.bs y) = List.length (A24.l a_1) ∧
                  List.length (Res24.ms y) = List.length (A24.l a_1) ∧
                    ∀ (x : Int), List.Mem x (Res24.bs y) → x < (↑(List.length (A24.l a_1)) : Int)) →
              brn (Res24.r y)
                (∃ (m : Nat),
                  m < n ∧
                    I m
                      (sp (51 : Nat)
                        [((1 : Nat), AV.lst (25 : Nat) (A1213.l a)),
                          ((7 : Nat), AV.slc (0 : Nat) (0 : Nat) (List.length (A1213.l a))),
                          ((9 : Nat),
                            AV.lit (Value.int IntKind.i64 (IntKind.wrap IntKind.i64 (A1213.n a - (1 : Int))))),
                          ((10 : Nat),
                            AV.lit (Value.int IntKind.i64 (IntKind.wrap IntKind.i64 (A1213.i a + (1 : Int)))))]
                        [Obj.row (3 : Nat) (mkI (Res24.bs y))]))
                (∃ (m : Nat),
                  m < n ∧
                    I m
                      (sp (51 : Nat)
                        [((1 : Nat), AV.lst (25 : Nat) (A1213.l a)),
                          ((7 : Nat), AV.slc (0 : Nat) (0 : Nat) (List.length (A1213.l a))),
                          ((9 : Nat), AV.lit (Value.int IntKind.i64 (A1213.n a))),
                          ((10 : Nat),
                            AV.lit (Value.int IntKind.i64 (IntKind.wrap IntKind.i64 (A1213.i a + (1 : Int)))))]
                        [Obj.row (3 : Nat) (mkI (Res24.bs y))]))))
  (K (Exit.exit (2 : Nat)) (sp (51 : Nat) [((9 : Nat), AV.lit (Value.int IntKind.i64 (A1213.n a)))] []))) := by kernel_rfl


theorem l1213 : LoopOk E128 12 12 13 (loopE 0 st1213 side1213 out1213) := by
  refine loopE_ok (fun a => a.l.length - a.i.toNat) ?_
  rintro ⟨l, bs, n0, i⟩ K ⟨⟨h1, h1'⟩, h2, h3, h4, h5, h6, Z, h7⟩ ho
  rw [show E128.P = Try.prog from rfl, x1213]
  simp only at h1 h1' h2 h3 h4 h5 h6 h7 ⊢
  obtain ⟨i, rfl⟩ := Int.eq_ofNat_of_zero_le h2
  have hl := fit_len h1
  simp only [maxI] at hl
  simp only [Int.toNat_natCast] at h7
  have hneg : neg (bL bs) l.length ≤ l.length := num_le_n _ _
  simp only [brn_iff, cnd_iff, decide_eq_true_eq, decide_eq_false_iff_not, Bool.and_eq_true, Int.toNat_natCast, Nat.zero_add]
  refine ⟨fun hi => ?_, fun hi => ?_⟩
  · have hi' : i < l.length := by omega
    refine ⟨⟨⟨⟨trivial, Int.le_refl _⟩, by omega⟩, trivial⟩, ⟨l, bs, List.replicate l.length false, i⟩, ?_, ⟨h1, ⟨h4, by simp only [List.length_replicate], h5⟩, h2, hi⟩, fun y hy => ?_⟩
    · rw [mkT_zeros]
    · obtain ⟨y1, y2, y3, y4⟩ := hy
      obtain ⟨Z', hp, hq⟩ := h7.next (fun k _ => mL_zeros _ _) y1
      refine ⟨fun hr => ?_, fun hr => ?_⟩
      · rw [hr, if_pos rfl] at hq
        rw [wrap_ok (by omega) (by omega), wrap_ok (by omega) (by omega)]
        refine ⟨_, ?_, ⟨l, y.bs, n0 - 1, i + 1⟩, rfl, ⟨⟨h1, h1'⟩, by simp only; omega, by simp only; omega, y2, y4, by simp only; omega, Z', ?_⟩, rfl, ho⟩
        · simp only; omega
        · simp only [show ((i : Int) + 1).toNat = i + 1 by omega]; exact hp
      · rw [hr, if_neg (by decide)] at hq
        rw [wrap_ok (by omega) (by omega)]
        refine ⟨_, ?_, ⟨l, y.bs, n0, i + 1⟩, rfl, ⟨⟨h1, h1'⟩, by simp only; omega, by simp only; omega, y2, y4, by simp only; omega, Z', ?_⟩, rfl, ho⟩
        · simp only; omega
        · simp only [show ((i : Int) + 1).toNat = i + 1 by omega]; exact hp
  · have : i = l.length := by omega
    subst this
    rw [h6]
    exact ho _ (width_of h7)

noncomputable def E1213 : Env := E128.addLoop 12 13 (loopE 0 st1213 side1213 out1213)
theorem e1213 : EnvOK E1213 := e128.addLoop m128 l1213
theorem m1213 : EnvMono E1213 := m128.addLoop loopE_mono

def stc12 (a : Int × List AV) : List AV × List Dn.Obj := ([.int a.1, .lst 25 a.2], [])
theorem y12 (a : Int × List AV) (K : AV → List Dn.Obj → Prop) : (funA E1213 12 12 (stc12 a).1 (stc12 a).2 K) = (
  cnd (fitB (Prod.snd a))
  (brn (!rightI (Prod.fst a) (rows (Prod.snd a)))
    (K (AV.tup [AV.lit (Value.int IntKind.i64 (0 : Int)), AV.lit (Value.int IntKind.i64 (110 : Int))]) [])
    (brn ((↑(List.length (Prod.snd a)) : Int) == (0 : Int))
      (K (AV.tup [AV.lit (Value.int IntKind.i64 (1 : Int)), AV.lit (Value.int IntKind.i64 (0 : Int))]) [])
      (cnd
        (true && decide ((↑(List.length (Prod.snd a)) : Int) ≤ (↑(List.length (Prod.snd a)) : Int)) &&
            decide ((Int.toNat (↑(List.length (Prod.snd a)) : Int) + (1 : Nat)) * (9 : Nat) ≤ (70368744177664 : Nat)) &&
          true)
        (loopCode (Env.P F24) (12 : Nat) (8 : Nat) = loopCode (Env.P F24) (12 : Nat) (8 : Nat) ∧
          ∃ (a_1 : A128),
            sp (51 : Nat)
                  [((1 : Nat), AV.lst (25 : Nat) (Prod.snd a)),
                    ((7 : Nat), AV.slc (0 : Nat) (0 : Nat) (Int.toNat (↑(List.length (Prod.snd a)) : Int))),
                    ((8 : Nat), AV.lit (Value.int IntKind.i64 (0 : Int)))]
                  [Obj.row (3 : Nat)
                      (zerosA (AV.lit (Value.int IntKind.i64 (0 : Int)))
                        (Int.toNat (↑(List.length (Prod.snd a)) : Int)))] =
                sp (51 : Nat)
                  [((1 : Nat), AV.lst (25 : Nat) (A128.l a_1)),
                    ((7 : Nat), AV.slc (0 : Nat) (0 : Nat) (List.length (A128.l a_1))),
                    ((8 : Nat), AV.lit (Value.int IntKind.i64 (A128.i a_1)))]
                  [Obj.row (3 : Nat) (mkI (A128.bs a_1))] ∧
              (fitB (A128.l a_1) = true ∧
                  List.length (A128.bs a_1) = List.length (A128.l a_1) ∧
                    (0 : Int) ≤ A128.i a_1 ∧
                      A128.i a_1 ≤ (↑(List.length (A128.l a_1)) : Int) ∧
                        ∀ (k : Nat), k < Int.toNat (A128.i a_1) → bL (A128.bs a_1) k = (-1 : Int)) ∧
                ∀ (y : List Int),
                  (List.length y = List.length (A128.l a_1) ∧
                      ∀ (k : Nat), k < List.length (A128.l a_1) → bL y k = (-1 : Int)) →
                    loopCode (Env.P E128) (12 : Nat) (13 : Nat) = loopCode (Env.P E128) (12 : Nat) (13 : Nat) ∧
                      ∃ (a : A1213),
                        sp (51 : Nat)
                              [((1 : Nat), AV.lst (25 : Nat) (A128.l a_1)),
                                ((7 : Nat), AV.slc (0 : Nat) (0 : Nat) (List.length (A128.l a_1))),
                                ((9 : Nat), AV.lit (Value.int IntKind.i64 (↑(List.length (A128.l a_1)) : Int))),
                                ((10 : Nat), AV.lit (Value.int IntKind.i64 (0 : Int)))]
                              [Obj.row (3 : Nat) (mkI y)] =
                            sp (51 : Nat)
                              [((1 : Nat), AV.lst (25 : Nat) (A1213.l a)),
                                ((7 : Nat), AV.slc (0 : Nat) (0 : Nat) (List.length (A1213.l a))),
                                ((9 : Nat), AV.lit (Value.int IntKind.i64 (A1213.n a))),
                                ((10 : Nat), AV.lit (Value.int IntKind.i64 (A1213.i a)))]
                              [Obj.row (3 : Nat) (mkI (A1213.bs a))] ∧
                          ((fitB (A1213.l a) = true ∧ List.length (A1213.l a) ≤ (1000 : Nat)) ∧
                              (0 : Int) ≤ A1213.i a ∧
                                A1213.i a ≤ (↑(List.length (A1213.l a)) : Int) ∧
                                  List.length (A1213.bs a) = List.length (A1213.l a) ∧
                                    (∀ (x : Int), List.Mem x (A1213.bs a) → x < (↑(List.length (A1213.l a)) : Int)) ∧
                                      A1213.n a = (↑(neg (bL (A1213.bs a)) (List.length (A1213.l a))) : Int) ∧
                                        ∃ (Z : Nat → Prop),
                                          Part (edgeL (A1213.l a)) (List.length (A1213.l a)) (Int.toNat (A1213.i a))
                                            (bL (A1213.bs a)) Z) ∧
                            ∀ (y : Nat),
                              ((∃ (q : Nat → Bool),
                                    (∀ (i j : Nat),
                                        i < List.length (A1213.l a) →
                                          j < List.length (A1213.l a) →
                                            q i = true → q j = true → edgeL (A1213.l a) i j = false) ∧
                                      y ≤ num q (List.length (A1213.l a))) ∧
                                  ∀ (q : Nat → Bool),
                                    (∀ (i j : Nat),
                                        i < List.length (A1213.l a) →
                                          j < List.length (A1213.l a) →
                                            q i = true → q j = true → edgeL (A1213.l a) i j = false) →
                                      num q (List.length (A1213.l a)) ≤ y) →
                                K
                                  (AV.tup
                                    [AV.lit (Value.int IntKind.i64 (↑y : Int)),
                                      AV.lit (Value.int IntKind.i64 (0 : Int))])
                                  []))))) := by kernel_rfl


noncomputable def outc12 (a : Int × List AV) : Out (AV × List Dn.Obj) :=
  .brn (rightI a.1 (rows a.2)) (.all (Width a.2) fun w => .one (.tup [.int (max 1 w : Nat), .int 0], [])) (.one (.tup [.int 0, .int 110], []))

theorem width_nil : Width [] 0 := ⟨⟨fun _ => false, fun i j hi => by simp at hi, Nat.zero_le _⟩, fun q _ => Nat.le_refl _⟩

theorem c12 : CallOk E1213 12 12 (callE stc12 (fun a => fitB a.2 = true ∧ a.2.length ≤ 1000) outc12) := by
  refine callE_ok ?_
  rintro ⟨c, l⟩ K ⟨h1, h1'⟩ ho
  rw [y12]
  simp only [outc12, Out.run, brn_iff] at ho
  simp only at h1 h1'
  simp only [cnd_iff, brn_iff, decide_eq_true_eq, Bool.and_eq_true, Int.toNat_natCast, beq_iff_eq, beq_eq_false_iff_ne]
  refine ⟨h1, fun hr => ho.2 (by simpa using hr), fun hr => ⟨fun h0 => ?_, fun h0 => ⟨⟨⟨⟨trivial, Int.le_refl _⟩, by omega⟩, trivial⟩, trivial, ⟨l, List.replicate l.length 0, 0⟩, by rw [mkI_zeros], ⟨h1, by simp only [List.length_replicate], Int.le_refl _, by simp only; omega, (fun k hk => by simp at hk)⟩, fun bs hb => ?_⟩⟩⟩
  · have : l = [] := List.length_eq_zero_iff.1 (by omega)
    subst this
    exact ho.1 (by simpa using hr) 0 width_nil
  · obtain ⟨hb1, hb2⟩ := hb
    simp only at hb1 hb2
    refine ⟨trivial, ⟨l, bs, l.length, 0⟩, rfl, ⟨⟨h1, h1'⟩, Int.le_refl _, by simp only; omega, hb1, fun x hx => ?_, ?_, _, Part.start _ _ hb2⟩, fun w hw => ?_⟩
    · obtain ⟨k, hk, rfl⟩ := List.getElem_of_mem hx
      simp only at hk
      have := hb2 k (by omega)
      unfold bL at this
      rw [List.getD_eq_getElem?_getD, List.getElem?_eq_getElem hk, Option.getD_some] at this
      rw [this]; simp only; omega
    · have : neg (bL bs) l.length = num (fun _ => true) l.length := num_congr (fun k hk => by rw [hb2 k hk]; rfl)
      simp only [this, num_all]
    · have hpos : 1 ≤ w := by
        refine Nat.le_trans (Nat.le_of_eq (num_one (by omega : 0 < l.length)).symm) (hw.2 (fun k => k == 0) (fun i j _ _ h2 h3 => ?_))
        simp only [beq_iff_eq] at h2 h3
        subst h2; subst h3
        cases he : edgeL l 0 0 with
        | false => rfl
        | true => have := edge_rank l 0 0 he; omega
      have := ho.1 (by simpa using hr) w hw
      rw [Nat.max_eq_right hpos] at this
      exact this

noncomputable def F12 : Env := E1213.addCall 12 (callE stc12 (fun a => fitB a.2 = true ∧ a.2.length ≤ 1000) outc12)
theorem eF12 : EnvOK F12 := e1213.addCall m1213 c12
theorem mF12 : EnvMono F12 := m1213.addCall callE_mono

end Go.Proofs.Ytpjkphcfkpcfgaa

/-
  Laws: the sets as they are cut.
-/
namespace Go.Proofs.Ytpjkphcfkpcfgaa
open Go Go.Dn Go.Proofs

noncomputable def G3 : Env := { F12 with quiet := fun _ => false }
theorem eG3 : EnvOK G3 := ⟨eF12.prog, eF12.pcall, eF12.call, eF12.loop⟩
theorem mG3 : EnvMono G3 := ⟨mF12.call, mF12.loop⟩

/-! ### CoverLeast -/
structure AL3 where
  c : Int
  l : List AV
  i : Int

def stL3 (a : AL3) : S := sp 59 [(0, .int a.c), (1, .slc 0 0 a.l.length), (5, .bool true), (6, .int a.i)] [.row 25 a.l]
def sideL3 (a : AL3) : Prop := (fitB a.l = true ∧ a.l.length ≤ 70) ∧ 0 ≤ a.i ∧ a.i ≤ a.l.length
def outL3 (a : AL3) : Out (Exit × S) := .all (fun m : List AV => fitB m = true ∧ m.length ≤ 70) fun m => .one (.exit 0, sp 59 [(0, .int a.c), (1, .slc 0 0 m.length), (5, .bool true)] [.row 25 m])

theorem xL3 (a : AL3) (I : Nat → S → Prop) (n : Nat) (K : Exit → S → Prop) : (vc G3 12 3 none 0 (loopCode Try.prog 3 4) (stL3 a) (loopK G3 3 4 0 I n K)) = (
  brn (decide (AL3.i a < (↑(List.length (AL3.l a)) : Int)))
  (cnd (decide ((0 : Int) ≤ AL3.i a) && decide (AL3.i a < (↑(List.length (AL3.l a)) : Int)))
    (cnd (decide ((0 : Int) ≤ AL3.i a) && decide (AL3.i a < (↑(List.length (AL3.l a)) : Int)))
      (cnd
        (true &&
            decide
              ((0 : Int) ≤
                if (10 : Int) < (↑(List.length (toLst (nth (AL3.l a) ((0 : Nat) + Int.toNat (AL3.i a))))) : Int) then
                  (10 : Int)
                else (↑(List.length (toLst (nth (AL3.l a) ((0 : Nat) + Int.toNat (AL3.i a))))) : Int)) &&
          decide
            ((if (10 : Int) < (↑(List.length (toLst (nth (AL3.l a) ((0 : Nat) + Int.toNat (AL3.i a))))) : Int) then
                (10 : Int)
              else (↑(List.length (toLst (nth (AL3.l a) ((0 : Nat) + Int.toNat (AL3.i a))))) : Int)) ≤
              (↑(List.length (toLst (nth (AL3.l a) ((0 : Nat) + Int.toNat (AL3.i a))))) : Int)))
        (cnd (decide ((0 : Int) ≤ AL3.i a) && decide (AL3.i a < (↑(List.length (AL3.l a)) : Int)))
          (∃ (m : Nat),
            m < n ∧
              I m
                (sp (59 : Nat)
                  [((0 : Nat), AV.lit (Value.int IntKind.i64 (AL3.c a))),
                    ((1 : Nat), AV.slc (0 : Nat) (0 : Nat) (List.length (AL3.l a))),
                    ((5 : Nat), AV.lit (Value.bool true)),
                    ((6 : Nat), AV.lit (Value.int IntKind.i64 (IntKind.wrap IntKind.i64 (AL3.i a + (1 : Int)))))]
                  [Obj.row (25 : Nat)
                      (setN (AL3.l a) ((0 : Nat) + Int.toNat (AL3.i a))
                        (AV.lst (3 : Nat)
                          (List.drop (0 : Nat)
                            (List.take
                              (Int.toNat
                                (if
                                    (10 : Int) <
                                      (↑(List.length (toLst (nth (AL3.l a) ((0 : Nat) + Int.toNat (AL3.i a))))) :
                                        Int) then
                                  (10 : Int)
                                else (↑(List.length (toLst (nth (AL3.l a) ((0 : Nat) + Int.toNat (AL3.i a))))) : Int)))
                              (toLst (nth (AL3.l a) ((0 : Nat) + Int.toNat (AL3.i a))))))))]))))))
  (K (Exit.exit (0 : Nat))
    (sp (59 : Nat)
      [((0 : Nat), AV.lit (Value.int IntKind.i64 (AL3.c a))),
        ((1 : Nat), AV.slc (0 : Nat) (0 : Nat) (List.length (AL3.l a))), ((5 : Nat), AV.lit (Value.bool true))]
      [Obj.row (25 : Nat) (AL3.l a)]))) := by kernel_rfl


theorem mem_setN {l : List AV} {k : Nat} {r x : AV} (h : x ∈ setN l k r) : x = r ∨ x ∈ l := by
  induction l generalizing k with
  | nil => simp [setN] at h
  | cons a l ih =>
    cases k with
    | zero =>
      rcases List.mem_cons.1 (show x ∈ r :: l from h) with h | h
      · exact .inl h
      · exact .inr (by simp [h])
    | succ k =>
      rcases List.mem_cons.1 (show x ∈ a :: setN l k r from h) with h | h
      · exact .inr (by simp [h])
      · rcases ih h with h | h
        · exact .inl h
        · exact .inr (by simp [h])

theorem fit_setN {l : List AV} {r : List AV} (h : fitB l = true) (hr : r.length ≤ maxI) (k : Nat) : fitB (setN l k (.lst 3 r)) = true := by
  simp only [fitB, Bool.and_eq_true, decide_eq_true_eq, List.all_eq_true] at h ⊢
  refine ⟨by rw [setN_length]; exact h.1, fun x hx => ?_⟩
  rcases mem_setN hx with rfl | hx
  · exact hr
  · exact h.2 x hx

theorem lL3 : LoopOk G3 12 3 4 (loopE 0 stL3 sideL3 outL3) := by
  refine loopE_ok (fun a => a.l.length - a.i.toNat) ?_
  rintro ⟨c, l, i⟩ K ⟨⟨h1, h1'⟩, h2, h3⟩ ho
  rw [show G3.P = Try.prog from rfl, xL3]
  simp only at h1 h1' h2 h3 ⊢
  obtain ⟨i, rfl⟩ := Int.eq_ofNat_of_zero_le h2
  simp only [brn_iff, cnd_iff, decide_eq_true_eq, decide_eq_false_iff_not, Bool.and_eq_true, Int.toNat_natCast, Nat.zero_add, List.drop_zero]
  refine ⟨fun hi => ?_, fun hi => ho l ⟨h1, h1'⟩⟩
  have hr := fit_row h1 (i := i) (by omega)
  have c1 : (0 : Int) ≤ i ∧ (i : Int) < l.length := ⟨h2, hi⟩
  refine ⟨c1, c1, ⟨⟨trivial, ?_⟩, ?_⟩, c1, ?_⟩
  · split <;> omega
  · split <;> omega
  · rw [wrap_ok (by omega) (by omega)]
    have e : ∀ r, sp 59 [(0, AV.int c), (1, .slc 0 0 l.length), (5, .bool true), (6, .int (i + 1))] [Obj.row 25 (setN l i r)] = stL3 ⟨c, setN l i r, i + 1⟩ := fun r => by simp only [stL3, setN_length]
    refine ⟨_, ?_, ⟨c, setN l i (.lst 3 _), i + 1⟩, e _, ⟨⟨fit_setN h1 (by rw [List.length_take]; omega) i, by simp only [setN_length]; exact h1'⟩, by simp only; omega, by simp only [setN_length]; omega⟩, rfl, ho⟩
    · simp only [setN_length]; omega

noncomputable def EL3 : Env := G3.addLoop 3 4 (loopE 0 stL3 sideL3 outL3)
theorem eL3 : EnvOK EL3 := eG3.addLoop mG3 lL3
theorem mEL3 : EnvMono EL3 := mG3.addLoop loopE_mono

def stcL3 (a : Int × List AV) : List AV × List Dn.Obj := ([.int a.1, .lst 25 a.2], [])
theorem yL3 (a : Int × List AV) (K : AV → List Dn.Obj → Prop) : (funA EL3 12 3 (stcL3 a).1 (stcL3 a).2 K) = (
  (True ∧
    cnd
      (decide
        (((0 : Nat) + List.length (List.take (70 : Nat) (Prod.snd a)) + (1 : Nat)) * (25 : Nat) ≤
          (70368744177664 : Nat)))
      (loopCode (Env.P G3) (3 : Nat) (4 : Nat) = loopCode (Env.P G3) (3 : Nat) (4 : Nat) ∧
        ∃ (a_1 : AL3),
          sp (59 : Nat)
                [((0 : Nat), AV.lit (Value.int IntKind.i64 (Prod.fst a))),
                  ((1 : Nat), AV.slc (0 : Nat) (0 : Nat) ((0 : Nat) + List.length (List.take (70 : Nat) (Prod.snd a)))),
                  ((5 : Nat), AV.lit (Value.bool true)), ((6 : Nat), AV.lit (Value.int IntKind.i64 (0 : Int)))]
                [Obj.row (25 : Nat) ([] ++ List.take (70 : Nat) (Prod.snd a))] =
              sp (59 : Nat)
                [((0 : Nat), AV.lit (Value.int IntKind.i64 (AL3.c a_1))),
                  ((1 : Nat), AV.slc (0 : Nat) (0 : Nat) (List.length (AL3.l a_1))),
                  ((5 : Nat), AV.lit (Value.bool true)), ((6 : Nat), AV.lit (Value.int IntKind.i64 (AL3.i a_1)))]
                [Obj.row (25 : Nat) (AL3.l a_1)] ∧
            ((fitB (AL3.l a_1) = true ∧ List.length (AL3.l a_1) ≤ (70 : Nat)) ∧
                (0 : Int) ≤ AL3.i a_1 ∧ AL3.i a_1 ≤ (↑(List.length (AL3.l a_1)) : Int)) ∧
              ∀ (y : List AV),
                fitB y = true ∧ List.length y ≤ (70 : Nat) →
                  ∃ (a : Int × List AV),
                    ([AV.lit (Value.int IntKind.i64 (AL3.c a_1)),
                            AV.lst (25 : Nat) (List.take (List.length y) (List.drop (0 : Nat) y))],
                          nilO) =
                        ([AV.lit (Value.int IntKind.i64 (Prod.fst a)), AV.lst (25 : Nat) (Prod.snd a)], nilO) ∧
                      fitB (Prod.snd a) = true ∧
                        brn (rightI (Prod.fst a) (rows (Prod.snd a)))
                          (∀ (y_1 : Nat),
                            ((∃ (q : Nat → Bool),
                                  (∀ (i j : Nat),
                                      i < List.length (Prod.snd a) →
                                        j < List.length (Prod.snd a) →
                                          q i = true → q j = true → edgeL (Prod.snd a) i j = false) ∧
                                    y_1 ≤ num q (List.length (Prod.snd a))) ∧
                                ∀ (q : Nat → Bool),
                                  (∀ (i j : Nat),
                                      i < List.length (Prod.snd a) →
                                        j < List.length (Prod.snd a) →
                                          q i = true → q j = true → edgeL (Prod.snd a) i j = false) →
                                    num q (List.length (Prod.snd a)) ≤ y_1) →
                              ∃ (a : Int × List AV),
                                ([AV.lit (Value.int IntKind.i64 (AL3.c a_1)),
                                        AV.lst (25 : Nat) (List.take (List.length y) (List.drop (0 : Nat) y))],
                                      nilO) =
                                    ([AV.lit (Value.int IntKind.i64 (Prod.fst a)), AV.lst (25 : Nat) (Prod.snd a)],
                                      nilO) ∧
                                  (fitB (Prod.snd a) = true ∧ List.length (Prod.snd a) ≤ (1000 : Nat)) ∧
                                    brn (rightI (Prod.fst a) (rows (Prod.snd a)))
                                      (∀ (y : Nat),
                                        ((∃ (q : Nat → Bool),
                                              (∀ (i j : Nat),
                                                  i < List.length (Prod.snd a) →
                                                    j < List.length (Prod.snd a) →
                                                      q i = true → q j = true → edgeL (Prod.snd a) i j = false) ∧
                                                y ≤ num q (List.length (Prod.snd a))) ∧
                                            ∀ (q : Nat → Bool),
                                              (∀ (i j : Nat),
                                                  i < List.length (Prod.snd a) →
                                                    j < List.length (Prod.snd a) →
                                                      q i = true → q j = true → edgeL (Prod.snd a) i j = false) →
                                                num q (List.length (Prod.snd a)) ≤ y) →
                                          brn ((↑(max (1 : Nat) y_1) : Int) == (↑(max (1 : Nat) y) : Int))
                                            (K (AV.lit (Value.bool true)) []) (K (AV.lit (Value.bool false)) []))
                                      (brn ((↑(max (1 : Nat) y_1) : Int) == (0 : Int))
                                        (K (AV.lit (Value.bool false)) []) (K (AV.lit (Value.bool false)) [])))
                          (∃ (a : Int × List AV),
                            ([AV.lit (Value.int IntKind.i64 (AL3.c a_1)),
                                    AV.lst (25 : Nat) (List.take (List.length y) (List.drop (0 : Nat) y))],
                                  nilO) =
                                ([AV.lit (Value.int IntKind.i64 (Prod.fst a)), AV.lst (25 : Nat) (Prod.snd a)], nilO) ∧
                              (fitB (Prod.snd a) = true ∧ List.length (Prod.snd a) ≤ (1000 : Nat)) ∧
                                brn (rightI (Prod.fst a) (rows (Prod.snd a)))
                                  (∀ (y : Nat),
                                    ((∃ (q : Nat → Bool),
                                          (∀ (i j : Nat),
                                              i < List.length (Prod.snd a) →
                                                j < List.length (Prod.snd a) →
                                                  q i = true → q j = true → edgeL (Prod.snd a) i j = false) ∧
                                            y ≤ num q (List.length (Prod.snd a))) ∧
                                        ∀ (q : Nat → Bool),
                                          (∀ (i j : Nat),
                                              i < List.length (Prod.snd a) →
                                                j < List.length (Prod.snd a) →
                                                  q i = true → q j = true → edgeL (Prod.snd a) i j = false) →
                                            num q (List.length (Prod.snd a)) ≤ y) →
                                      brn ((0 : Int) == (↑(max (1 : Nat) y) : Int)) (K (AV.lit (Value.bool false)) [])
                                        (K (AV.lit (Value.bool false)) []))
                                  (K (AV.lit (Value.bool true)) [])))) ∧
  True ∧
    cnd
      (decide
        (((0 : Nat) + List.length (List.take (70 : Nat) (Prod.snd a)) + (1 : Nat)) * (25 : Nat) ≤
          (70368744177664 : Nat)))
      (loopCode (Env.P G3) (3 : Nat) (4 : Nat) = loopCode (Env.P G3) (3 : Nat) (4 : Nat) ∧
        ∃ (a_1 : AL3),
          sp (59 : Nat)
                [((0 : Nat), AV.lit (Value.int IntKind.i64 (Prod.fst a))),
                  ((1 : Nat), AV.slc (0 : Nat) (0 : Nat) ((0 : Nat) + List.length (List.take (70 : Nat) (Prod.snd a)))),
                  ((5 : Nat), AV.lit (Value.bool true)), ((6 : Nat), AV.lit (Value.int IntKind.i64 (0 : Int)))]
                [Obj.row (25 : Nat) ([] ++ List.take (70 : Nat) (Prod.snd a))] =
              sp (59 : Nat)
                [((0 : Nat), AV.lit (Value.int IntKind.i64 (AL3.c a_1))),
                  ((1 : Nat), AV.slc (0 : Nat) (0 : Nat) (List.length (AL3.l a_1))),
                  ((5 : Nat), AV.lit (Value.bool true)), ((6 : Nat), AV.lit (Value.int IntKind.i64 (AL3.i a_1)))]
                [Obj.row (25 : Nat) (AL3.l a_1)] ∧
            ((fitB (AL3.l a_1) = true ∧ List.length (AL3.l a_1) ≤ (70 : Nat)) ∧
                (0 : Int) ≤ AL3.i a_1 ∧ AL3.i a_1 ≤ (↑(List.length (AL3.l a_1)) : Int)) ∧
              ∀ (y : List AV),
                fitB y = true ∧ List.length y ≤ (70 : Nat) →
                  ∃ (a : Int × List AV),
                    ([AV.lit (Value.int IntKind.i64 (AL3.c a_1)),
                            AV.lst (25 : Nat) (List.take (List.length y) (List.drop (0 : Nat) y))],
                          nilO) =
                        ([AV.lit (Value.int IntKind.i64 (Prod.fst a)), AV.lst (25 : Nat) (Prod.snd a)], nilO) ∧
                      fitB (Prod.snd a) = true ∧
                        brn (rightI (Prod.fst a) (rows (Prod.snd a)))
                          (∀ (y_1 : Nat),
                            ((∃ (q : Nat → Bool),
                                  (∀ (i j : Nat),
                                      i < List.length (Prod.snd a) →
                                        j < List.length (Prod.snd a) →
                                          q i = true → q j = true → edgeL (Prod.snd a) i j = false) ∧
                                    y_1 ≤ num q (List.length (Prod.snd a))) ∧
                                ∀ (q : Nat → Bool),
                                  (∀ (i j : Nat),
                                      i < List.length (Prod.snd a) →
                                        j < List.length (Prod.snd a) →
                                          q i = true → q j = true → edgeL (Prod.snd a) i j = false) →
                                    num q (List.length (Prod.snd a)) ≤ y_1) →
                              ∃ (a : Int × List AV),
                                ([AV.lit (Value.int IntKind.i64 (AL3.c a_1)),
                                        AV.lst (25 : Nat) (List.take (List.length y) (List.drop (0 : Nat) y))],
                                      nilO) =
                                    ([AV.lit (Value.int IntKind.i64 (Prod.fst a)), AV.lst (25 : Nat) (Prod.snd a)],
                                      nilO) ∧
                                  (fitB (Prod.snd a) = true ∧ List.length (Prod.snd a) ≤ (1000 : Nat)) ∧
                                    brn (rightI (Prod.fst a) (rows (Prod.snd a)))
                                      (∀ (y : Nat),
                                        ((∃ (q : Nat → Bool),
                                              (∀ (i j : Nat),
                                                  i < List.length (Prod.snd a) →
                                                    j < List.length (Prod.snd a) →
                                                      q i = true → q j = true → edgeL (Prod.snd a) i j = false) ∧
                                                y ≤ num q (List.length (Prod.snd a))) ∧
                                            ∀ (q : Nat → Bool),
                                              (∀ (i j : Nat),
                                                  i < List.length (Prod.snd a) →
                                                    j < List.length (Prod.snd a) →
                                                      q i = true → q j = true → edgeL (Prod.snd a) i j = false) →
                                                num q (List.length (Prod.snd a)) ≤ y) →
                                          brn ((↑(max (1 : Nat) y_1) : Int) == (↑(max (1 : Nat) y) : Int))
                                            (K (AV.lit (Value.bool true)) []) (K (AV.lit (Value.bool false)) []))
                                      (brn ((↑(max (1 : Nat) y_1) : Int) == (0 : Int))
                                        (K (AV.lit (Value.bool false)) []) (K (AV.lit (Value.bool false)) [])))
                          (∃ (a : Int × List AV),
                            ([AV.lit (Value.int IntKind.i64 (AL3.c a_1)),
                                    AV.lst (25 : Nat) (List.take (List.length y) (List.drop (0 : Nat) y))],
                                  nilO) =
                                ([AV.lit (Value.int IntKind.i64 (Prod.fst a)), AV.lst (25 : Nat) (Prod.snd a)], nilO) ∧
                              (fitB (Prod.snd a) = true ∧ List.length (Prod.snd a) ≤ (1000 : Nat)) ∧
                                brn (rightI (Prod.fst a) (rows (Prod.snd a)))
                                  (∀ (y : Nat),
                                    ((∃ (q : Nat → Bool),
                                          (∀ (i j : Nat),
                                              i < List.length (Prod.snd a) →
                                                j < List.length (Prod.snd a) →
                                                  q i = true → q j = true → edgeL (Prod.snd a) i j = false) ∧
                                            y ≤ num q (List.length (Prod.snd a))) ∧
                                        ∀ (q : Nat → Bool),
                                          (∀ (i j : Nat),
                                              i < List.length (Prod.snd a) →
                                                j < List.length (Prod.snd a) →
                                                  q i = true → q j = true → edgeL (Prod.snd a) i j = false) →
                                            num q (List.length (Prod.snd a)) ≤ y) →
                                      brn ((0 : Int) == (↑(max (1 : Nat) y) : Int)) (K (AV.lit (Value.bool false)) [])
                                        (K (AV.lit (Value.bool false)) []))
                                  (K (AV.lit (Value.bool true)) [])))) := by kernel_rfl


theorem cL3 (c : Int) (l : List AV) (h1 : fitB l = true) : funA EL3 12 3 [.int c, .lst 25 l] [] (fun r _ => r = .bool true) := by
  have := yL3 (c, l) (fun r _ => r = .bool true)
  rw [show funA EL3 12 3 [.int c, .lst 25 l] [] (fun r _ => r = .bool true) = funA EL3 12 3 (stcL3 (c, l)).1 (stcL3 (c, l)).2 (fun r _ => r = .bool true) from rfl, this]
  have h3 : fitB (List.take 70 l) = true := fit_take h1 70
  have h4 : (List.take 70 l).length ≤ 70 := by rw [List.length_take]; omega
  refine ⟨⟨trivial, ?_⟩, ⟨trivial, ?_⟩⟩
  all_goals
    refine cnd_iff.2 ⟨by rw [decide_eq_true_eq]; simp only; omega, rfl, ⟨c, List.take 70 l, 0⟩, by simp only [stL3, Nat.zero_add, List.nil_append], ⟨⟨h3, h4⟩, Int.le_refl _, by simp only; omega⟩, fun m hm => ?_⟩
    obtain ⟨hm1, hm2⟩ := hm
    refine ⟨(c, m), by rw [List.drop_zero, List.take_length], hm1, ?_⟩
    refine brn_iff.2 ⟨fun hr w hw => ⟨(c, m), by rw [List.drop_zero, List.take_length], ⟨hm1, by simp only; omega⟩, ?_⟩, fun hr => ⟨(c, m), by rw [List.drop_zero, List.take_length], ⟨hm1, by simp only; omega⟩, ?_⟩⟩
    · refine brn_iff.2 ⟨fun _ v hv => ?_, fun hr' => ?_⟩
      · have e : w = v := Width.one hw hv
        subst e
        exact brn_iff.2 ⟨fun _ => rfl, fun h => by rw [beq_self_eq_true] at h; cases h⟩
      · rw [show rightI c (rows m) = true from hr] at hr'; cases hr'
    · refine brn_iff.2 ⟨fun hr' => ?_, fun _ => rfl⟩
      rw [show rightI c (rows m) = false from hr] at hr'; cases hr'

theorem simL3 (c : Int) (l : List AV) (h1 : fitB l = true) : SimCall Try.prog 3 [.int c, .lst 25 l] [] (fun r _ => r = .bool true) := fun_sound eL3 mEL3 (cL3 c l h1)

end Go.Proofs.Ytpjkphcfkpcfgaa

/-
  CoverGrows.
-/
namespace Go.Proofs.Ytpjkphcfkpcfgaa
open Go Go.Dn Go.Proofs

theorem wrap_int {n : Int} (h0 : -9223372036854775808 ≤ n) (h1 : n ≤ 9223372036854775807) : IntKind.wrap .i64 n = n := by
  have key : ∀ m : Int, IntKind.wrap .i64 m = if decide (m % 18446744073709551616 ≥ 9223372036854775808) = true then m % 18446744073709551616 - 18446744073709551616 else m % 18446744073709551616 := fun _ => rfl
  rw [key]
  split
  · rename_i h; have := of_decide_eq_true h; omega
  · rename_i h; have : ¬ (n % 18446744073709551616 ≥ 9223372036854775808) := fun e => h (decide_eq_true e); omega

/-! ### Right sets, plainly -/
theorem sameI_iff {a b : List Int} : sameI a b = true ↔ a = b := by
  simp [sameI]

theorem setsOk_iff {c : Int} : ∀ {r done : List (List Int)}, setsOk c done r = true ↔ (∀ s, s ∈ r → isSetI c s = true) ∧ r.Nodup ∧ ∀ s, s ∈ r → s ∉ done
  | [], done => by simp [setsOk]
  | y :: r, done => by
    have hd : (!done.any (sameI y)) = true ↔ y ∉ done := by
      rw [Bool.not_eq_true', ← Bool.not_eq_true, List.any_eq_true]
      exact ⟨fun h hm => h ⟨y, hm, sameI_iff.2 rfl⟩, fun h ⟨z, hz, e⟩ => h (by rw [sameI_iff.1 e]; exact hz)⟩
    simp only [setsOk, Bool.and_eq_true, setsOk_iff (r := r), hd, List.mem_cons, List.nodup_cons, List.mem_append, List.not_mem_nil, or_false]
    constructor
    · rintro ⟨h1, h2, h3, h4, h5⟩
      refine ⟨?_, ⟨?_, h4⟩, ?_⟩
      · rintro s (rfl | hs)
        · exact h1
        · exact h3 s hs
      · exact fun hm => h5 y hm (.inr rfl)
      · rintro s (rfl | hs)
        · exact h2
        · exact fun hm => h5 s hs (.inl hm)
    · rintro ⟨h1, ⟨h2, h3⟩, h4⟩
      refine ⟨h1 y (.inl rfl), h4 y (.inl rfl), fun s hs => h1 s (.inr hs), h3, fun s hs => ?_⟩
      rintro (hm | rfl)
      · exact h4 s (.inr hs) hm
      · exact h2 hs

theorem right_iff {c : Int} {s : List (List Int)} : rightI c s = true ↔ (1 ≤ c ∧ c ≤ 8) ∧ s.length ≤ 60 ∧ (∀ x, x ∈ s → isSetI c x = true) ∧ s.Nodup := by
  simp only [rightI, Bool.and_eq_true, decide_eq_true_eq, setsOk_iff]
  constructor
  · rintro ⟨h1, h2, h3, h4, h5, _⟩; exact ⟨⟨h1, h2⟩, h3, h4, h5⟩
  · rintro ⟨⟨h1, h2⟩, h3, h4, h5⟩; exact ⟨h1, h2, h3, h4, h5, fun s _ h => by cases h⟩

def normA (a : AV) : AV := .lst 3 (toLst a)
theorem rows_norm (l : List AV) : rows (l.map normA) = rows l := by simp [rows, List.map_map, Function.comp_def, normA, toLst]
theorem rows_reverse (l : List AV) : rows l.reverse = (rows l).reverse := by simp [rows]
theorem fit_norm {l : List AV} (h : fitB l = true) : fitB (l.reverse.map normA) = true := by
  simp only [fitB, Bool.and_eq_true, decide_eq_true_eq, List.all_eq_true] at h ⊢
  refine ⟨by simpa using h.1, fun x hx => ?_⟩
  obtain ⟨y, hy, rfl⟩ := List.mem_map.1 hx
  exact h.2 y (by simpa using hy)
theorem right_turned {c : Int} {l : List AV} (h : rightI c (rows l) = true) : rightI c (rows (l.reverse.map normA)) = true := by
  rw [rows_norm, rows_reverse]
  rw [right_iff] at h ⊢
  obtain ⟨h1, h2, h3, h4⟩ := h
  refine ⟨h1, by simpa using h2, fun x hx => h3 x (by simpa using hx), ?_⟩
  rw [List.Nodup, List.pairwise_reverse]
  exact h4.imp Ne.symm
theorem right_take {c : Int} {l : List AV} (n : Nat) (h : rightI c (rows l) = true) : rightI c (rows (l.take n)) = true := by
  rw [rows_take]
  rw [right_iff] at h ⊢
  obtain ⟨h1, h2, h3, h4⟩ := h
  exact ⟨h1, by rw [List.length_take]; omega, fun x hx => h3 x (List.mem_of_mem_take hx), h4.sublist (List.take_sublist _ _)⟩

/-! ### Widths of sets in another order, and of fewer sets -/
theorem edge_eq {l m : List AV} {i j k n : Nat} (h1 : toLst (nth l i) = toLst (nth m k)) (h2 : toLst (nth l j) = toLst (nth m n)) : edgeL l i j = edgeL m k n := by
  simp only [edgeL, h1, h2]

theorem nth_app : ∀ (l : List AV) (i : Nat), nth l i = (l[i]?).getD .junk
  | [], _ => rfl
  | _ :: _, 0 => rfl
  | _ :: l, i + 1 => by rw [List.getElem?_cons_succ]; exact nth_app l i

theorem nth_turned {l : List AV} {k : Nat} (hk : k < l.length) : toLst (nth (l.reverse.map normA) k) = toLst (nth l (l.length - 1 - k)) := by
  rw [nth_app, nth_app, List.getElem?_map, List.getElem?_reverse hk]
  cases h : l[l.length - 1 - k]? <;> rfl

theorem width_turned {l : List AV} {w : Nat} (h : Width l w) : Width (l.reverse.map normA) w := by
  have hlen : (l.reverse.map normA).length = l.length := by simp
  have he : ∀ i j, i < l.length → j < l.length → edgeL (l.reverse.map normA) i j = edgeL l (l.length - 1 - i) (l.length - 1 - j) := fun i j hi hj => edge_eq (nth_turned hi) (nth_turned hj)
  have hnum : ∀ q : Nat → Bool, num q l.length ≤ num (fun k => q (l.length - 1 - k)) l.length := fun q =>
    num_inj (fun k => l.length - 1 - k) (fun k hk hq => ⟨by omega, by
      show q (l.length - 1 - (l.length - 1 - k)) = true
      rw [show l.length - 1 - (l.length - 1 - k) = k by omega]; exact hq⟩) (fun k j hk hj _ _ e => by have e : l.length - 1 - k = l.length - 1 - j := e; omega)
  obtain ⟨⟨q, h1, h2⟩, h3⟩ := h
  refine ⟨⟨fun k => q (l.length - 1 - k), ?_, ?_⟩, fun p hp => ?_⟩
  · rw [hlen]
    intro i j hi hj hqi hqj
    rw [he i j hi hj]
    exact h1 _ _ (by omega) (by omega) hqi hqj
  · rw [hlen]; exact Nat.le_trans h2 (hnum q)
  · rw [hlen] at hp ⊢
    refine Nat.le_trans (hnum p) (h3 _ fun i j hi hj hqi hqj => ?_)
    have := hp _ _ (by omega) (by omega) hqi hqj
    rw [he _ _ (by omega) (by omega), show l.length - 1 - (l.length - 1 - i) = i by omega, show l.length - 1 - (l.length - 1 - j) = j by omega] at this
    exact this

theorem width_less {l : List AV} {w v : Nat} (h : Width l w) (k : Width (l.take (l.length - 1)) v) : v ≤ w ∧ w ≤ v + 1 := by
  have hlen : (l.take (l.length - 1)).length = l.length - 1 := by rw [List.length_take]; omega
  have he : ∀ i j, i < l.length - 1 → j < l.length - 1 → edgeL (l.take (l.length - 1)) i j = edgeL l i j := fun i j hi hj => edge_eq (by rw [nth_app, nth_app, List.getElem?_take_of_lt hi]) (by rw [nth_app, nth_app, List.getElem?_take_of_lt hj])
  obtain ⟨⟨q, h1, h2⟩, h3⟩ := h
  obtain ⟨⟨p, k1, k2⟩, k3⟩ := k
  rw [hlen] at k1 k2 k3
  refine ⟨?_, ?_⟩
  · have := h3 (fun k => decide (k < l.length - 1) && p k) (fun i j hi hj hpi hpj => by
      simp only [Bool.and_eq_true, decide_eq_true_eq] at hpi hpj
      have := k1 i j hpi.1 hpj.1 hpi.2 hpj.2
      rwa [he i j hpi.1 hpj.1] at this)
    refine Nat.le_trans k2 (Nat.le_trans ?_ this)
    exact num_inj id (fun k hk hp => ⟨by show k < l.length; omega, by simp [hk, hp]⟩) (fun _ _ _ _ _ _ e => e)
  · have := k3 q (fun i j hi hj hqi hqj => by rw [he i j hi hj]; exact h1 i j (by omega) (by omega) hqi hqj)
    cases hn : l.length with
    | zero => rw [hn] at h2; simp only [num] at h2; omega
    | succ n =>
      rw [hn] at h2 this
      simp only [num, Nat.add_sub_cancel] at h2 this
      have : (q n).toNat ≤ 1 := by cases q n <;> decide
      omega

/-! ### The law's loop: the sets turned -/
structure A5 where
  c : Int
  l : List AV
  n : Int
  v : Int
  f : Int
  i : Int
  m : List AV

def st5 (a : A5) : S := sp 93 [(0, .int a.c), (1, .lst 25 a.l), (5, .bool true), (6, .int a.n), (8, .int a.v), (9, .int a.f), (10, .slc 0 0 a.m.length), (11, .int a.i)] [.row 25 a.m]
def side5 (a : A5) : Prop := (fitB a.l = true ∧ a.l.length ≤ 50) ∧ -1 ≤ a.i ∧ a.i < a.l.length ∧ a.m = (a.l.drop (a.i + 1).toNat).reverse.map normA
def out5 (a : A5) : Out (Exit × S) := .one (.exit 0, sp 93 [(0, .int a.c), (5, .bool true), (6, .int a.n), (8, .int a.v), (9, .int a.f), (10, .slc 0 0 (a.l.reverse.map normA).length)] [.row 25 (a.l.reverse.map normA)])

theorem x5 (a : A5) (I : Nat → S → Prop) (n : Nat) (K : Exit → S → Prop) : (vc G3 12 5 none 0 (loopCode Try.prog 5 9) (st5 a) (loopK G3 5 9 0 I n K)) = (
  brn (decide (A5.i a ≥ (0 : Int)))
  (cnd (decide ((0 : Int) ≤ A5.i a) && decide (A5.i a < (↑(List.length (A5.l a)) : Int)))
    (cnd (decide ((List.length (A5.m a) + (1 : Nat) + (1 : Nat)) * (25 : Nat) ≤ (70368744177664 : Nat)))
      (∃ (m : Nat),
        m < n ∧
          I m
            (sp (93 : Nat)
              [((0 : Nat), AV.lit (Value.int IntKind.i64 (A5.c a))), ((1 : Nat), AV.lst (25 : Nat) (A5.l a)),
                ((5 : Nat), AV.lit (Value.bool true)), ((6 : Nat), AV.lit (Value.int IntKind.i64 (A5.n a))),
                ((8 : Nat), AV.lit (Value.int IntKind.i64 (A5.v a))),
                ((9 : Nat), AV.lit (Value.int IntKind.i64 (A5.f a))),
                ((10 : Nat), AV.slc (0 : Nat) (0 : Nat) (List.length (A5.m a) + (1 : Nat))),
                ((11 : Nat), AV.lit (Value.int IntKind.i64 (IntKind.wrap IntKind.i64 (A5.i a - (1 : Int)))))]
              [Obj.row (25 : Nat)
                  (List.take (List.length (A5.m a)) (A5.m a) ++
                    [AV.lst (3 : Nat) (toLst (nth (A5.l a) (Int.toNat (A5.i a))))])]))))
  (K (Exit.exit (0 : Nat))
    (sp (93 : Nat)
      [((0 : Nat), AV.lit (Value.int IntKind.i64 (A5.c a))), ((5 : Nat), AV.lit (Value.bool true)),
        ((6 : Nat), AV.lit (Value.int IntKind.i64 (A5.n a))), ((8 : Nat), AV.lit (Value.int IntKind.i64 (A5.v a))),
        ((9 : Nat), AV.lit (Value.int IntKind.i64 (A5.f a))),
        ((10 : Nat), AV.slc (0 : Nat) (0 : Nat) (List.length (A5.m a)))]
      [Obj.row (25 : Nat) (A5.m a)]))) := by kernel_rfl


theorem l5 : LoopOk G3 12 5 9 (loopE 0 st5 side5 out5) := by
  refine loopE_ok (fun a => (a.i + 1).toNat) ?_
  rintro ⟨c, l, n, v, f, i, m⟩ K ⟨⟨h1, h1'⟩, h2, h3, h4⟩ ho
  rw [show G3.P = Try.prog from rfl, x5]
  simp only at h1 h1' h2 h3 h4 ⊢
  have hml : m.length ≤ 50 := by rw [h4, List.length_map, List.length_reverse, List.length_drop]; omega
  simp only [brn_iff, cnd_iff, decide_eq_true_eq, decide_eq_false_iff_not, Bool.and_eq_true]
  refine ⟨fun hi => ⟨⟨by omega, h3⟩, by omega, ?_⟩, fun hi => ?_⟩
  · rw [wrap_int (by omega) (by omega), List.take_length]
    have hm : m ++ [AV.lst 3 (toLst (nth l i.toNat))] = (l.drop (i - 1 + 1).toNat).reverse.map normA := by
      rw [show (i - 1 + 1).toNat = i.toNat by omega, List.drop_eq_getElem_cons (by omega : i.toNat < l.length), h4, show (i + 1).toNat = i.toNat + 1 by omega, List.reverse_cons, List.map_append, nth_get l i.toNat (by omega)]
      rfl
    refine ⟨_, ?_, ⟨c, l, n, v, f, i - 1, m ++ [AV.lst 3 (toLst (nth l i.toNat))]⟩, ?_, ⟨⟨h1, h1'⟩, by simp only; omega, by simp only; omega, hm⟩, rfl, ho⟩
    · simp only; omega
    · simp only [st5, List.length_append, List.length_singleton]
  · have : i = -1 := by omega
    subst this
    rw [show ((-1 : Int) + 1).toNat = 0 from rfl, List.drop_zero] at h4
    subst h4
    exact ho

noncomputable def E5 : Env := G3.addLoop 5 9 (loopE 0 st5 side5 out5)
theorem e5 : EnvOK E5 := eG3.addLoop mG3 l5
theorem m5 : EnvMono E5 := mG3.addLoop loopE_mono

def stc5 (a : Int × List AV) : List AV × List Dn.Obj := ([.int a.1, .lst 25 a.2], [])
theorem y5 (a : Int × List AV) (K : AV → List Dn.Obj → Prop) : (funA E5 12 5 (stc5 a).1 (stc5 a).2 K) = (
  cnd
  (true &&
      decide
        ((0 : Int) ≤
          if (50 : Int) < (↑(List.length (Prod.snd a)) : Int) then (50 : Int)
          else (↑(List.length (Prod.snd a)) : Int)) &&
    decide
      ((if (50 : Int) < (↑(List.length (Prod.snd a)) : Int) then (50 : Int) else (↑(List.length (Prod.snd a)) : Int)) ≤
        (↑(List.length (Prod.snd a)) : Int)))
  (∃ (a_1 : Int × List AV),
    ([AV.lit (Value.int IntKind.i64 (Prod.fst a)),
            AV.lst (25 : Nat)
              (List.drop (0 : Nat)
                (List.take
                  (Int.toNat
                    (if (50 : Int) < (↑(List.length (Prod.snd a)) : Int) then (50 : Int)
                    else (↑(List.length (Prod.snd a)) : Int)))
                  (Prod.snd a)))],
          nilO) =
        ([AV.lit (Value.int IntKind.i64 (Prod.fst a_1)), AV.lst (25 : Nat) (Prod.snd a_1)], nilO) ∧
      fitB (Prod.snd a_1) = true ∧
        brn (rightI (Prod.fst a_1) (rows (Prod.snd a_1)))
          (∀ (y : Nat),
            ((∃ (q : Nat → Bool),
                  (∀ (i j : Nat),
                      i < List.length (Prod.snd a_1) →
                        j < List.length (Prod.snd a_1) → q i = true → q j = true → edgeL (Prod.snd a_1) i j = false) ∧
                    y ≤ num q (List.length (Prod.snd a_1))) ∧
                ∀ (q : Nat → Bool),
                  (∀ (i j : Nat),
                      i < List.length (Prod.snd a_1) →
                        j < List.length (Prod.snd a_1) → q i = true → q j = true → edgeL (Prod.snd a_1) i j = false) →
                    num q (List.length (Prod.snd a_1)) ≤ y) →
              brn
                ((↑(List.length
                        (List.drop (0 : Nat)
                          (List.take
                            (Int.toNat
                              (if (50 : Int) < (↑(List.length (Prod.snd a)) : Int) then (50 : Int)
                              else (↑(List.length (Prod.snd a)) : Int)))
                            (Prod.snd a)))) :
                    Int) ==
                  (0 : Int))
                (K (AV.lit (Value.bool true)) [])
                (cnd
                  (true &&
                      decide
                        ((0 : Int) ≤
                          IntKind.wrap IntKind.i64
                            ((↑(List.length
                                    (List.drop (0 : Nat)
                                      (List.take
                                        (Int.toNat
                                          (if (50 : Int) < (↑(List.length (Prod.snd a)) : Int) then (50 : Int)
                                          else (↑(List.length (Prod.snd a)) : Int)))
                                        (Prod.snd a)))) :
                                Int) -
                              (1 : Int))) &&
                    decide
                      (IntKind.wrap IntKind.i64
                          ((↑(List.length
                                  (List.drop (0 : Nat)
                                    (List.take
                                      (Int.toNat
                                        (if (50 : Int) < (↑(List.length (Prod.snd a)) : Int) then (50 : Int)
                                        else (↑(List.length (Prod.snd a)) : Int)))
                                      (Prod.snd a)))) :
                              Int) -
                            (1 : Int)) ≤
                        (↑(List.length
                              (List.drop (0 : Nat)
                                (List.take
                                  (Int.toNat
                                    (if (50 : Int) < (↑(List.length (Prod.snd a)) : Int) then (50 : Int)
                                    else (↑(List.length (Prod.snd a)) : Int)))
                                  (Prod.snd a)))) :
                          Int)))
                  (∃ (a_3 : Int × List AV),
                    ([AV.lit (Value.int IntKind.i64 (Prod.fst a)),
                            AV.lst (25 : Nat)
                              (List.drop (0 : Nat)
                                (List.take
                                  (Int.toNat
                                    (IntKind.wrap IntKind.i64
                                      ((↑(List.length
                                              (List.drop (0 : Nat)
                                                (List.take
                                                  (Int.toNat
                                                    (if (50 : Int) < (↑(List.length (Prod.snd a)) : Int) then (50 : Int)
                                                    else (↑(List.length (Prod.snd a)) : Int)))
                                                  (Prod.snd a)))) :
                                          Int) -
                                        (1 : Int))))
                                  (List.drop (0 : Nat)
                                    (List.take
                                      (Int.toNat
                                        (if (50 : Int) < (↑(List.length (Prod.snd a)) : Int) then (50 : Int)
                                        else (↑(List.length (Prod.snd a)) : Int)))
                                      (Prod.snd a)))))],
                          nilO) =
                        ([AV.lit (Value.int IntKind.i64 (Prod.fst a_3)), AV.lst (25 : Nat) (Prod.snd a_3)], nilO) ∧
                      fitB (Prod.snd a_3) = true ∧
                        brn (rightI (Prod.fst a_3) (rows (Prod.snd a_3)))
                          (∀ (y_1 : Nat),
                            ((∃ (q : Nat → Bool),
                                  (∀ (i j : Nat),
                                      i < List.length (Prod.snd a_3) →
                                        j < List.length (Prod.snd a_3) →
                                          q i = true → q j = true → edgeL (Prod.snd a_3) i j = false) ∧
                                    y_1 ≤ num q (List.length (Prod.snd a_3))) ∧
                                ∀ (q : Nat → Bool),
                                  (∀ (i j : Nat),
                                      i < List.length (Prod.snd a_3) →
                                        j < List.length (Prod.snd a_3) →
                                          q i = true → q j = true → edgeL (Prod.snd a_3) i j = false) →
                                    num q (List.length (Prod.snd a_3)) ≤ y_1) →
                              loopCode (Env.P G3) (5 : Nat) (9 : Nat) = loopCode (Env.P G3) (5 : Nat) (9 : Nat) ∧
                                ∃ (a_5 : A5),
                                  sp (93 : Nat)
                                        [((0 : Nat), AV.lit (Value.int IntKind.i64 (Prod.fst a))),
                                          ((1 : Nat),
                                            AV.lst (25 : Nat)
                                              (List.drop (0 : Nat)
                                                (List.take
                                                  (Int.toNat
                                                    (if (50 : Int) < (↑(List.length (Prod.snd a)) : Int) then (50 : Int)
                                                    else (↑(List.length (Prod.snd a)) : Int)))
                                                  (Prod.snd a)))),
                                          ((5 : Nat), AV.lit (Value.bool true)),
                                          ((6 : Nat), AV.lit (Value.int IntKind.i64 (↑(max (1 : Nat) y) : Int))),
                                          ((8 : Nat), AV.lit (Value.int IntKind.i64 (↑(max (1 : Nat) y_1) : Int))),
                                          ((9 : Nat), AV.lit (Value.int IntKind.i64 (0 : Int))),
                                          ((10 : Nat), AV.slc (0 : Nat) (0 : Nat) (0 : Nat)),
                                          ((11 : Nat),
                                            AV.lit
                                              (Value.int IntKind.i64
                                                (IntKind.wrap IntKind.i64
                                                  ((↑(List.length
                                                          (List.drop (0 : Nat)
                                                            (List.take
                                                              (Int.toNat
                                                                (if
                                                                    (50 : Int) <
                                                                      (↑(List.length (Prod.snd a)) : Int) then
                                                                  (50 : Int)
                                                                else (↑(List.length (Prod.snd a)) : Int)))
                                                              (Prod.snd a)))) :
                                                      Int) -
                                                    (1 : Int)))))]
                                        [Obj.row (25 : Nat) []] =
                                      sp (93 : Nat)
                                        [((0 : Nat), AV.lit (Value.int IntKind.i64 (A5.c a_5))),
                                          ((1 : Nat), AV.lst (25 : Nat) (A5.l a_5)),
                                          ((5 : Nat), AV.lit (Value.bool true)),
                                          ((6 : Nat), AV.lit (Value.int IntKind.i64 (A5.n a_5))),
                                          ((8 : Nat), AV.lit (Value.int IntKind.i64 (A5.v a_5))),
                                          ((9 : Nat), AV.lit (Value.int IntKind.i64 (A5.f a_5))),
                                          ((10 : Nat), AV.slc (0 : Nat) (0 : Nat) (List.length (A5.m a_5))),
                                          ((11 : Nat), AV.lit (Value.int IntKind.i64 (A5.i a_5)))]
                                        [Obj.row (25 : Nat) (A5.m a_5)] ∧
                                    ((fitB (A5.l a_5) = true ∧ List.length (A5.l a_5) ≤ (50 : Nat)) ∧
                                        (-1 : Int) ≤ A5.i a_5 ∧
                                          A5.i a_5 < (↑(List.length (A5.l a_5)) : Int) ∧
                                            A5.m a_5 =
                                              List.map normA
                                                (List.reverse
                                                  (List.drop (Int.toNat (A5.i a_5 + (1 : Int))) (A5.l a_5)))) ∧
                                      ∃ (a : Int × List AV),
                                        ([AV.lit (Value.int IntKind.i64 (A5.c a_5)),
                                                AV.lst (25 : Nat)
                                                  (List.take (List.length (List.map normA (List.reverse (A5.l a_5))))
                                                    (List.drop (0 : Nat) (List.map normA (List.reverse (A5.l a_5)))))],
                                              nilO) =
                                            ([AV.lit (Value.int IntKind.i64 (Prod.fst a)),
                                                AV.lst (25 : Nat) (Prod.snd a)],
                                              nilO) ∧
                                          fitB (Prod.snd a) = true ∧
                                            brn (rightI (Prod.fst a) (rows (Prod.snd a)))
                                              (∀ (y : Nat),
                                                ((∃ (q : Nat → Bool),
                                                      (∀ (i j : Nat),
                                                          i < List.length (Prod.snd a) →
                                                            j < List.length (Prod.snd a) →
                                                              q i = true →
                                                                q j = true → edgeL (Prod.snd a) i j = false) ∧
                                                        y ≤ num q (List.length (Prod.snd a))) ∧
                                                    ∀ (q : Nat → Bool),
                                                      (∀ (i j : Nat),
                                                          i < List.length (Prod.snd a) →
                                                            j < List.length (Prod.snd a) →
                                                              q i = true →
                                                                q j = true → edgeL (Prod.snd a) i j = false) →
                                                        num q (List.length (Prod.snd a)) ≤ y) →
                                                  brn (A5.f a_5 == (0 : Int))
                                                    (brn ((↑(max (1 : Nat) y) : Int) == A5.n a_5)
                                                      (brn (decide (A5.v a_5 ≤ A5.n a_5))
                                                        (brn
                                                          (decide
                                                            (A5.n a_5 ≤
                                                              IntKind.wrap IntKind.i64 (A5.v a_5 + (1 : Int))))
                                                          (K (AV.lit (Value.bool (decide (A5.n a_5 ≥ (1 : Int))))) [])
                                                          (K (AV.lit (Value.bool false)) []))
                                                        (K (AV.lit (Value.bool false)) []))
                                                      (K (AV.lit (Value.bool false)) []))
                                                    (K (AV.lit (Value.bool false)) []))
                                              (brn (A5.f a_5 == (0 : Int)) (K (AV.lit (Value.bool false)) [])
                                                (K (AV.lit (Value.bool false)) [])))
                          (loopCode (Env.P G3) (5 : Nat) (9 : Nat) = loopCode (Env.P G3) (5 : Nat) (9 : Nat) ∧
                            ∃ (a_4 : A5),
                              sp (93 : Nat)
                                    [((0 : Nat), AV.lit (Value.int IntKind.i64 (Prod.fst a))),
                                      ((1 : Nat),
                                        AV.lst (25 : Nat)
                                          (List.drop (0 : Nat)
                                            (List.take
                                              (Int.toNat
                                                (if (50 : Int) < (↑(List.length (Prod.snd a)) : Int) then (50 : Int)
                                                else (↑(List.length (Prod.snd a)) : Int)))
                                              (Prod.snd a)))),
                                      ((5 : Nat), AV.lit (Value.bool true)),
                                      ((6 : Nat), AV.lit (Value.int IntKind.i64 (↑(max (1 : Nat) y) : Int))),
                                      ((8 : Nat), AV.lit (Value.int IntKind.i64 (0 : Int))),
                                      ((9 : Nat), AV.lit (Value.int IntKind.i64 (110 : Int))),
                                      ((10 : Nat), AV.slc (0 : Nat) (0 : Nat) (0 : Nat)),
                                      ((11 : Nat),
                                        AV.lit
                                          (Value.int IntKind.i64
                                            (IntKind.wrap IntKind.i64
                                              ((↑(List.length
                                                      (List.drop (0 : Nat)
                                                        (List.take
                                                          (Int.toNat
                                                            (if (50 : Int) < (↑(List.length (Prod.snd a)) : Int) then
                                                              (50 : Int)
                                                            else (↑(List.length (Prod.snd a)) : Int)))
                                                          (Prod.snd a)))) :
                                                  Int) -
                                                (1 : Int)))))]
                                    [Obj.row (25 : Nat) []] =
                                  sp (93 : Nat)
                                    [((0 : Nat), AV.lit (Value.int IntKind.i64 (A5.c a_4))),
                                      ((1 : Nat), AV.lst (25 : Nat) (A5.l a_4)), ((5 : Nat), AV.lit (Value.bool true)),
                                      ((6 : Nat), AV.lit (Value.int IntKind.i64 (A5.n a_4))),
                                      ((8 : Nat), AV.lit (Value.int IntKind.i64 (A5.v a_4))),
                                      ((9 : Nat), AV.lit (Value.int IntKind.i64 (A5.f a_4))),
                                      ((10 : Nat), AV.slc (0 : Nat) (0 : Nat) (List.length (A5.m a_4))),
                                      ((11 : Nat), AV.lit (Value.int IntKind.i64 (A5.i a_4)))]
                                    [Obj.row (25 : Nat) (A5.m a_4)] ∧
                                ((fitB (A5.l a_4) = true ∧ List.length (A5.l a_4) ≤ (50 : Nat)) ∧
                                    (-1 : Int) ≤ A5.i a_4 ∧
                                      A5.i a_4 < (↑(List.length (A5.l a_4)) : Int) ∧
                                        A5.m a_4 =
                                          List.map normA
                                            (List.reverse (List.drop (Int.toNat (A5.i a_4 + (1 : Int))) (A5.l a_4)))) ∧
                                  ∃ (a : Int × List AV),
                                    ([AV.lit (Value.int IntKind.i64 (A5.c a_4)),
                                            AV.lst (25 : Nat)
                                              (List.take (List.length (List.map normA (List.reverse (A5.l a_4))))
                                                (List.drop (0 : Nat) (List.map normA (List.reverse (A5.l a_4)))))],
                                          nilO) =
                                        ([AV.lit (Value.int IntKind.i64 (Prod.fst a)), AV.lst (25 : Nat) (Prod.snd a)],
                                          nilO) ∧
                                      fitB (Prod.snd a) = true ∧
                                        brn (rightI (Prod.fst a) (rows (Prod.snd a)))
                                          (∀ (y : Nat),
                                            ((∃ (q : Nat → Bool),
                                                  (∀ (i j : Nat),
                                                      i < List.length (Prod.snd a) →
                                                        j < List.length (Prod.snd a) →
                                                          q i = true → q j = true → edgeL (Prod.snd a) i j = false) ∧
                                                    y ≤ num q (List.length (Prod.snd a))) ∧
                                                ∀ (q : Nat → Bool),
                                                  (∀ (i j : Nat),
                                                      i < List.length (Prod.snd a) →
                                                        j < List.length (Prod.snd a) →
                                                          q i = true → q j = true → edgeL (Prod.snd a) i j = false) →
                                                    num q (List.length (Prod.snd a)) ≤ y) →
                                              brn (A5.f a_4 == (0 : Int))
                                                (brn ((↑(max (1 : Nat) y) : Int) == A5.n a_4)
                                                  (brn (decide (A5.v a_4 ≤ A5.n a_4))
                                                    (brn
                                                      (decide
                                                        (A5.n a_4 ≤ IntKind.wrap IntKind.i64 (A5.v a_4 + (1 : Int))))
                                                      (K (AV.lit (Value.bool (decide (A5.n a_4 ≥ (1 : Int))))) [])
                                                      (K (AV.lit (Value.bool false)) []))
                                                    (K (AV.lit (Value.bool false)) []))
                                                  (K (AV.lit (Value.bool false)) []))
                                                (K (AV.lit (Value.bool false)) []))
                                          (brn (A5.f a_4 == (0 : Int)) (K (AV.lit (Value.bool false)) [])
                                            (K (AV.lit (Value.bool false)) []))))))
          (K (AV.lit (Value.bool true)) []))) := by kernel_rfl


theorem c5 (c : Int) (l : List AV) (h0 : fitB l = true) : funA E5 12 5 [.int c, .lst 25 l] [] (fun r _ => r = .bool true) := by
  have := y5 (c, l) (fun r _ => r = .bool true)
  rw [show funA E5 12 5 [.int c, .lst 25 l] [] (fun r _ => r = .bool true) = funA E5 12 5 (stc5 (c, l)).1 (stc5 (c, l)).2 (fun r _ => r = .bool true) from rfl, this]
  have ha : fitB (List.drop 0 (List.take (Int.toNat (if (50 : Int) < (l.length : Int) then 50 else (l.length : Int))) l)) = true := by rw [List.drop_zero]; exact fit_take h0 _
  have hb : (List.drop 0 (List.take (Int.toNat (if (50 : Int) < (l.length : Int) then 50 else (l.length : Int))) l)).length ≤ 50 := by
    rw [List.drop_zero, List.length_take]; split <;> omega
  refine cnd_iff.2 ⟨by simp only [Bool.and_eq_true, decide_eq_true_eq, true_and]; split <;> omega, ?_⟩
  simp only
  generalize List.drop 0 (List.take (Int.toNat (if (50 : Int) < (l.length : Int) then 50 else (l.length : Int))) l) = m at ha hb
  refine ⟨(c, m), rfl, ha, brn_iff.2 ⟨fun hr w hw => brn_iff.2 ⟨fun _ => trivial, fun hz => ?_⟩, fun _ => trivial⟩⟩
  replace hr : rightI c (rows m) = true := hr
  replace hw : Width m w := hw
  replace hz : ¬ m.length = 0 := fun e => by rw [e] at hz; simp at hz
  rw [wrap_ok (by omega) (by omega)]
  refine cnd_iff.2 ⟨by simp only [Bool.and_eq_true, decide_eq_true_eq, true_and]; omega, ?_⟩
  have e1 : List.take (Int.toNat ((m.length : Int) - 1)) m = m.take (m.length - 1) := by congr 1; omega
  refine ⟨(c, List.drop 0 (List.take (Int.toNat ((m.length : Int) - 1)) m)), rfl, by rw [List.drop_zero]; exact fit_take ha _, ?_⟩
  rw [List.drop_zero, e1]
  refine brn_iff.2 ⟨fun hr' v hv => ?_, fun hr' => ?_⟩
  · replace hv : Width (m.take (m.length - 1)) v := hv
    refine ⟨trivial, ⟨c, m, (max 1 w : Nat), (max 1 v : Nat), 0, (m.length : Int) - 1, []⟩, rfl, ⟨⟨ha, hb⟩, by simp only; omega, by simp only; omega, ?_⟩, ?_⟩
    · rw [List.drop_eq_nil_of_le (by simp only; omega)]; rfl
    · refine ⟨(c, m.reverse.map normA), by simp only [List.drop_zero, List.take_length], fit_norm ha, brn_iff.2 ⟨fun _ u hu => ?_, fun hr2 => ?_⟩⟩
      · replace hu : Width (m.reverse.map normA) u := hu
        obtain rfl := Width.one hu (width_turned hw)
        have h5 := width_less hw hv
        have hmax : max 1 v ≤ max 1 u ∧ max 1 u ≤ max 1 v + 1 ∧ 1 ≤ max 1 u := by omega
        have hul : u ≤ 50 := by
          obtain ⟨⟨q, g1, g2⟩, _⟩ := hu
          have := num_le_n q (m.reverse.map normA).length
          simp only [List.length_map, List.length_reverse] at this g2
          omega
        have hvl : max 1 v ≤ 50 := by omega
        simp only
        rw [wrap_ok (by omega) (by omega)]
        refine brn_iff.2 ⟨fun _ => brn_iff.2 ⟨fun _ => brn_iff.2 ⟨fun _ => brn_iff.2 ⟨fun _ => ?_, fun h => ?_⟩, fun h => ?_⟩, fun h => ?_⟩, fun h => ?_⟩
        · rw [decide_eq_true (by omega)]
        · rw [decide_eq_true (by omega)] at h; cases h
        · rw [decide_eq_true (by omega)] at h; cases h
        · rw [beq_self_eq_true] at h; cases h
        · simp at h
      · rw [show rightI c (rows (m.reverse.map normA)) = true from right_turned hr] at hr2; cases hr2
  · rw [show rightI c (rows (m.take (m.length - 1))) = true from right_take _ hr] at hr'; cases hr'

theorem sim5 (c : Int) (l : List AV) (h1 : fitB l = true) : SimCall Try.prog 5 [.int c, .lst 25 l] [] (fun r _ => r = .bool true) := fun_sound e5 m5 (c5 c l h1)

end Go.Proofs.Ytpjkphcfkpcfgaa

/-
  apart; CoverDual.
-/
namespace Go.Proofs.Ytpjkphcfkpcfgaa
open Go Go.Dn Go.Proofs

/-! ### Bits -/
def bitI (b : Int) (i : Int) : Int := IntKind.wrap .i64 ((BitVec.ofInt 64 (Int.fdiv b (2 ^ min i.toNat 64)) &&& BitVec.ofInt 64 1).toNat : Nat)
def bitB (b : Int) (k : Nat) : Bool := b.toNat.testBit k

theorem bit_eq {b : Nat} (hb : b < 2 ^ 62) {i : Nat} (hi : i ≤ 64) : bitI b i = if bitB b i then 1 else 0 := by
  have h1 : Int.fdiv (b : Int) (2 ^ min (i : Int).toNat 64) = ((b >>> i : Nat) : Int) := by
    rw [Int.toNat_natCast, Nat.min_eq_left hi, Nat.shiftRight_eq_div_pow]
    rw [Int.fdiv_eq_ediv_of_nonneg _ (by exact_mod_cast Nat.zero_le (2 ^ i))]
    exact_mod_cast (Int.natCast_ediv b (2 ^ i)).symm
  have h2 : (BitVec.ofInt 64 ((b >>> i : Nat) : Int) &&& BitVec.ofInt 64 1).toNat = (b >>> i) % 2 := by
    rw [BitVec.toNat_and, show (BitVec.ofInt 64 1).toNat = 1 from rfl, Nat.and_one_is_mod]
    have hlt : b >>> i < 2 ^ 64 := Nat.lt_of_le_of_lt (by rw [Nat.shiftRight_eq_div_pow]; exact Nat.div_le_self _ _) (by omega)
    rw [BitVec.toNat_ofInt]
    have : ((((b >>> i : Nat) : Int)) % (2 ^ 64 : Nat)).toNat = b >>> i := by
      rw [Int.emod_eq_of_lt (Int.natCast_nonneg _) (by exact_mod_cast hlt), Int.toNat_natCast]
    rw [this]
  have h3 : bitB b i = decide ((b >>> i) % 2 = 1) := by
    unfold bitB
    rw [Int.toNat_natCast, Nat.testBit, Nat.and_comm, Nat.and_one_is_mod]
    rw [Bool.eq_iff_iff, bne_iff_ne, decide_eq_true_eq]; omega
  unfold bitI
  rw [h1, h2, wrap_ok (by omega) (by omega), h3]
  by_cases h : (b >>> i) % 2 = 1
  · rw [h]; simp
  · rw [show (b >>> i) % 2 = 0 by omega]; simp

/-- The number whose bits are given. -/
def bitsOf (q : Nat → Bool) : Nat → Nat
  | 0 => 0
  | n + 1 => bitsOf q n + (q n).toNat * 2 ^ n
theorem bitsOf_lt (q : Nat → Bool) : ∀ n, bitsOf q n < 2 ^ n
  | 0 => by simp [bitsOf]
  | n + 1 => by
    have := bitsOf_lt q n
    simp only [bitsOf, Nat.pow_succ]
    cases q n <;> simp <;> omega
theorem bitsOf_test (q : Nat → Bool) : ∀ n k, k < n → (bitsOf q n).testBit k = q k
  | n + 1, k, hk => by
    simp only [bitsOf]
    have hlt := bitsOf_lt q n
    cases hq : q n with
    | false =>
      simp only [Bool.toNat_false, Nat.zero_mul, Nat.add_zero]
      by_cases e : k = n
      · subst e; rw [hq]; exact Nat.testBit_lt_two_pow hlt
      · exact bitsOf_test q n k (by omega)
    | true =>
      simp only [Bool.toNat_true, Nat.one_mul]
      rw [Nat.add_comm]
      by_cases e : k = n
      · subst e; rw [hq, Nat.testBit_two_pow_add_eq, Nat.testBit_lt_two_pow hlt]; rfl
      · rw [Nat.testBit_two_pow_add_gt (by omega)]
        exact bitsOf_test q n k (by omega)

/-! ### apart -/
structure A13 where
  l : List AV
  b : Int
  i : Int
  k : Int

def badL (l : List AV) (b : Int) (i k : Nat) : Bool := bitB b i && (bitB b k && edgeL l i k)

def st135 (a : A13) : S := sp 42 [(0, .lst 25 a.l), (1, .int a.b), (5, .int a.i), (6, .int a.k)] []
def side135 (a : A13) : Prop := (fitB a.l = true ∧ a.l.length ≤ 8 ∧ 0 ≤ a.b ∧ a.b ≤ 256) ∧ 0 ≤ a.i ∧ a.i < a.l.length ∧ 0 ≤ a.k ∧ a.k ≤ a.l.length
def rel135 (a : A13) (r : Bool) : Prop := (r = true → ∀ k : Nat, a.k ≤ k → k < a.l.length → badL a.l a.b a.i.toNat k = false) ∧ (r = false → ∃ i k, i < a.l.length ∧ k < a.l.length ∧ badL a.l a.b i k = true)
def out135 (a : A13) : Out (Exit × S) := .all (rel135 a) fun r => .brn r (.one (.exit 2, sp 42 [(0, .lst 25 a.l), (1, .int a.b), (5, .int a.i)] [])) (.one (.ret, sp 42 [(4, .bool false)] []))

theorem x135 (a : A13) (I : Nat → S → Prop) (n : Nat) (K : Exit → S → Prop) : (vc F12 12 13 none 0 (loopCode Try.prog 13 5) (st135 a) (loopK F12 13 5 0 I n K)) = (
  brn (decide (A13.k a < (↑(List.length (A13.l a)) : Int)))
  (cnd (decide ((0 : Int) ≤ A13.i a))
    (brn
      (IntKind.wrap IntKind.i64
          (↑(BitVec.toNat
                (BitVec.ofInt (64 : Nat) (Int.fdiv (A13.b a) ((2 : Int) ^ min (Int.toNat (A13.i a)) (64 : Nat))) &&&
                  BitVec.ofInt (64 : Nat) (1 : Int))) :
            Int) ==
        (1 : Int))
      (cnd (decide ((0 : Int) ≤ A13.k a))
        (brn
          (IntKind.wrap IntKind.i64
              (↑(BitVec.toNat
                    (BitVec.ofInt (64 : Nat) (Int.fdiv (A13.b a) ((2 : Int) ^ min (Int.toNat (A13.k a)) (64 : Nat))) &&&
                      BitVec.ofInt (64 : Nat) (1 : Int))) :
                Int) ==
            (1 : Int))
          (cnd (decide ((0 : Int) ≤ A13.i a) && decide (A13.i a < (↑(List.length (A13.l a)) : Int)))
            (cnd (decide ((0 : Int) ≤ A13.k a) && decide (A13.k a < (↑(List.length (A13.l a)) : Int)))
              (cnd
                (decide (List.length (toLst (nth (A13.l a) (Int.toNat (A13.i a)))) ≤ (9223372036854775807 : Nat)) &&
                  decide (List.length (toLst (nth (A13.l a) (Int.toNat (A13.k a)))) ≤ (9223372036854775807 : Nat)))
                (brn
                  (insideI (ints (toLst (nth (A13.l a) (Int.toNat (A13.i a)))))
                    (ints (toLst (nth (A13.l a) (Int.toNat (A13.k a))))))
                  (K Exit.ret (sp (42 : Nat) [((4 : Nat), AV.lit (Value.bool false))] []))
                  (∃ (m : Nat),
                    m < n ∧
                      I m
                        (sp (42 : Nat)
                          [((0 : Nat), AV.lst (25 : Nat) (A13.l a)),
                            ((1 : Nat), AV.lit (Value.int IntKind.i64 (A13.b a))),
                            ((5 : Nat), AV.lit (Value.int IntKind.i64 (A13.i a))),
                            ((6 : Nat),
                              AV.lit (Value.int IntKind.i64 (IntKind.wrap IntKind.i64 (A13.k a + (1 : Int)))))]
                          []))))))
          (∃ (m : Nat),
            m < n ∧
              I m
                (sp (42 : Nat)
                  [((0 : Nat), AV.lst (25 : Nat) (A13.l a)), ((1 : Nat), AV.lit (Value.int IntKind.i64 (A13.b a))),
                    ((5 : Nat), AV.lit (Value.int IntKind.i64 (A13.i a))),
                    ((6 : Nat), AV.lit (Value.int IntKind.i64 (IntKind.wrap IntKind.i64 (A13.k a + (1 : Int)))))]
                  []))))
      (∃ (m : Nat),
        m < n ∧
          I m
            (sp (42 : Nat)
              [((0 : Nat), AV.lst (25 : Nat) (A13.l a)), ((1 : Nat), AV.lit (Value.int IntKind.i64 (A13.b a))),
                ((5 : Nat), AV.lit (Value.int IntKind.i64 (A13.i a))),
                ((6 : Nat), AV.lit (Value.int IntKind.i64 (IntKind.wrap IntKind.i64 (A13.k a + (1 : Int)))))]
              []))))
  (K (Exit.exit (2 : Nat))
    (sp (42 : Nat)
      [((0 : Nat), AV.lst (25 : Nat) (A13.l a)), ((1 : Nat), AV.lit (Value.int IntKind.i64 (A13.b a))),
        ((5 : Nat), AV.lit (Value.int IntKind.i64 (A13.i a)))]
      []))) := by kernel_rfl


theorem l135 : LoopOk F12 12 13 5 (loopE 0 st135 side135 out135) := by
  refine loopE_ok (fun a => a.l.length - a.k.toNat) ?_
  rintro ⟨l, b, i, k⟩ K ⟨⟨h1, h1', hb0, hb1⟩, h2, h3, h4, h5⟩ ho
  rw [show F12.P = Try.prog from rfl, x135]
  simp only at h1 h1' hb0 hb1 h2 h3 h4 h5 ⊢
  obtain ⟨b, rfl⟩ := Int.eq_ofNat_of_zero_le hb0
  obtain ⟨i, rfl⟩ := Int.eq_ofNat_of_zero_le h2
  obtain ⟨k, rfl⟩ := Int.eq_ofNat_of_zero_le h4
  have e1 := bit_eq (b := b) (by omega) (i := i) (by omega)
  have e2 : k < l.length → _ := fun hk => bit_eq (b := b) (by omega) (i := k) (by omega)
  simp only [bitI] at e1 e2
  simp only [brn_iff, cnd_iff, decide_eq_true_eq, decide_eq_false_iff_not, Bool.and_eq_true, e1]
  have next : k < l.length → badL l b i k = false → ∃ m, m < l.length - (k : Int).toNat ∧ invOf st135 side135 out135 (fun a => a.l.length - a.k.toNat) K m (st135 ⟨l, b, i, IntKind.wrap .i64 ((k : Int) + 1)⟩) := by
    intro hk hbad
    rw [wrap_ok (by omega) (by omega)]
    refine ⟨_, ?_, ⟨l, b, i, (k : Int) + 1⟩, rfl, ⟨⟨h1, h1', hb0, hb1⟩, h2, h3, by simp only; omega, by simp only; omega⟩, rfl, fun r hr => ho r ⟨fun e j hj hjl => ?_, hr.2⟩⟩
    · simp only; omega
    · by_cases ejk : j = k
      · subst ejk; exact hbad
      · exact hr.1 e j (by simp only at hj ⊢; omega) hjl
  refine ⟨fun hk => ?_, fun hk => ho true ⟨fun _ j hj hjl => by simp only at hj hjl; omega, fun e => by cases e⟩⟩
  have hkl : k < l.length := by omega
  have hil : i < l.length := by omega
  simp only [e2 hkl]
  refine ⟨h2, fun hb => ⟨h4, fun hb2 => ⟨⟨h2, h3⟩, ⟨h4, hk⟩, ⟨fit_row h1 hil, fit_row h1 hkl⟩, fun he => ?_, fun he => next hkl ?_⟩, fun hb2 => next hkl ?_⟩, fun hb => next hkl ?_⟩
  · refine ho false ⟨fun e => (by cases e), fun _ => ⟨i, k, hil, hkl, ?_⟩⟩
    have hx : bitB b i = true := by cases hh : bitB b i with
      | true => rfl
      | false => rw [hh] at hb; simp at hb
    have hy : bitB b k = true := by cases hh : bitB b k with
      | true => rfl
      | false => rw [hh] at hb2; simp at hb2
    simp only [badL, hx, hy, Bool.true_and]; exact he
  · simp only [badL]
    rw [show edgeL l i k = false from he]; simp
  · have hy : bitB b k = false := by cases hh : bitB b k with
      | false => rfl
      | true => rw [hh] at hb2; simp at hb2
    simp [badL, hy]
  · have hx : bitB b i = false := by cases hh : bitB b i with
      | false => rfl
      | true => rw [hh] at hb; simp at hb
    simp [badL, hx]

noncomputable def E135 : Env := F12.addLoop 13 5 (loopE 0 st135 side135 out135)
theorem e135 : EnvOK E135 := eF12.addLoop mF12 l135
theorem m135 : EnvMono E135 := mF12.addLoop loopE_mono

def st132 (a : A13) : S := sp 42 [(0, .lst 25 a.l), (1, .int a.b), (5, .int a.i)] []
def side132 (a : A13) : Prop := (fitB a.l = true ∧ a.l.length ≤ 8 ∧ 0 ≤ a.b ∧ a.b ≤ 256) ∧ 0 ≤ a.i ∧ a.i ≤ a.l.length
def rel132 (a : A13) (r : Bool) : Prop := (r = true → ∀ i k : Nat, a.i ≤ i → i < a.l.length → k < a.l.length → badL a.l a.b i k = false) ∧ (r = false → ∃ i k, i < a.l.length ∧ k < a.l.length ∧ badL a.l a.b i k = true)
def out132 (a : A13) : Out (Exit × S) := .all (rel132 a) fun r => .brn r (.one (.exit 0, sp 42 [] [])) (.one (.ret, sp 42 [(4, .bool false)] []))

theorem x132 (a : A13) (I : Nat → S → Prop) (n : Nat) (K : Exit → S → Prop) : (vc E135 12 13 none 0 (loopCode Try.prog 13 2) (st132 a) (loopK E135 13 2 0 I n K)) = (
  brn (decide (A13.i a < (↑(List.length (A13.l a)) : Int)))
  (loopCode (Env.P F12) (13 : Nat) (5 : Nat) = loopCode (Env.P F12) (13 : Nat) (5 : Nat) ∧
    ∃ (a_1 : A13),
      sp (42 : Nat)
            [((0 : Nat), AV.lst (25 : Nat) (A13.l a)), ((1 : Nat), AV.lit (Value.int IntKind.i64 (A13.b a))),
              ((5 : Nat), AV.lit (Value.int IntKind.i64 (A13.i a))),
              ((6 : Nat), AV.lit (Value.int IntKind.i64 (0 : Int)))]
            [] =
          sp (42 : Nat)
            [((0 : Nat), AV.lst (25 : Nat) (A13.l a_1)), ((1 : Nat), AV.lit (Value.int IntKind.i64 (A13.b a_1))),
              ((5 : Nat), AV.lit (Value.int IntKind.i64 (A13.i a_1))),
              ((6 : Nat), AV.lit (Value.int IntKind.i64 (A13.k a_1)))]
            [] ∧
        ((fitB (A13.l a_1) = true ∧
              List.length (A13.l a_1) ≤ (8 : Nat) ∧ (0 : Int) ≤ A13.b a_1 ∧ A13.b a_1 ≤ (256 : Int)) ∧
            (0 : Int) ≤ A13.i a_1 ∧
              A13.i a_1 < (↑(List.length (A13.l a_1)) : Int) ∧
                (0 : Int) ≤ A13.k a_1 ∧ A13.k a_1 ≤ (↑(List.length (A13.l a_1)) : Int)) ∧
          ∀ (y : Bool),
            (y = true →
                  ∀ (k : Nat),
                    A13.k a_1 ≤ (↑k : Int) →
                      k < List.length (A13.l a_1) → badL (A13.l a_1) (A13.b a_1) (Int.toNat (A13.i a_1)) k = false) ∧
                (y = false →
                  ∃ (i : Nat),
                    ∃ (k : Nat),
                      i < List.length (A13.l a_1) ∧
                        k < List.length (A13.l a_1) ∧ badL (A13.l a_1) (A13.b a_1) i k = true) →
              brn y
                (∃ (m : Nat),
                  m < n ∧
                    I m
                      (sp (42 : Nat)
                        [((0 : Nat), AV.lst (25 : Nat) (A13.l a_1)),
                          ((1 : Nat), AV.lit (Value.int IntKind.i64 (A13.b a_1))),
                          ((5 : Nat),
                            AV.lit (Value.int IntKind.i64 (IntKind.wrap IntKind.i64 (A13.i a_1 + (1 : Int)))))]
                        []))
                (K Exit.ret (sp (42 : Nat) [((4 : Nat), AV.lit (Value.bool false))] [])))
  (K (Exit.exit (0 : Nat)) (sp (42 : Nat) [] []))) := by kernel_rfl


theorem l132 : LoopOk E135 12 13 2 (loopE 0 st132 side132 out132) := by
  refine loopE_ok (fun a => a.l.length - a.i.toNat) ?_
  rintro ⟨l, b, i, k⟩ K ⟨⟨h1, h1', hb0, hb1⟩, h2, h3⟩ ho
  rw [show E135.P = Try.prog from rfl, x132]
  simp only at h1 h1' hb0 hb1 h2 h3 ⊢
  obtain ⟨i, rfl⟩ := Int.eq_ofNat_of_zero_le h2
  simp only [brn_iff, decide_eq_true_eq, decide_eq_false_iff_not]
  refine ⟨fun hi => ⟨trivial, ⟨l, b, i, 0⟩, rfl, ⟨⟨h1, h1', hb0, hb1⟩, h2, hi, Int.le_refl _, by simp only; omega⟩, fun r hr => ⟨fun e => ?_, fun e => ?_⟩⟩, fun hi => ho true ⟨fun _ j _ hj hjl => by simp only at hj hjl; omega, fun e => by cases e⟩⟩
  · simp only
    rw [wrap_ok (by omega) (by omega)]
    refine ⟨_, ?_, ⟨l, b, (i : Int) + 1, k⟩, rfl, ⟨⟨h1, h1', hb0, hb1⟩, by simp only; omega, by simp only; omega⟩, rfl, fun r' hr' => ho r' ⟨fun e' j m hj hjl hml => ?_, hr'.2⟩⟩
    · simp only; omega
    · by_cases eji : j = i
      · subst eji; exact hr.1 e m (by simp only; omega) hml
      · exact hr'.1 e' j m (by simp only at hj ⊢; omega) hjl hml
  · exact ho false ⟨fun h => (by cases h), fun _ => hr.2 e⟩

noncomputable def E132 : Env := E135.addLoop 13 2 (loopE 0 st132 side132 out132)
theorem e132 : EnvOK E132 := e135.addLoop m135 l132
theorem m132 : EnvMono E132 := m135.addLoop loopE_mono

def stc13 (a : List AV × Int) : List AV × List Dn.Obj := ([.lst 25 a.1, .int a.2], [])

theorem y13 (a : List AV × Int) (K : AV → List Dn.Obj → Prop) : (funA E132 12 13 (stc13 a).1 (stc13 a).2 K) = (
  loopCode (Env.P E135) (13 : Nat) (2 : Nat) = loopCode (Env.P E135) (13 : Nat) (2 : Nat) ∧
  ∃ (a_1 : A13),
    sp (42 : Nat)
          [((0 : Nat), AV.lst (25 : Nat) (Prod.fst a)), ((1 : Nat), AV.lit (Value.int IntKind.i64 (Prod.snd a))),
            ((5 : Nat), AV.lit (Value.int IntKind.i64 (0 : Int)))]
          [] =
        sp (42 : Nat)
          [((0 : Nat), AV.lst (25 : Nat) (A13.l a_1)), ((1 : Nat), AV.lit (Value.int IntKind.i64 (A13.b a_1))),
            ((5 : Nat), AV.lit (Value.int IntKind.i64 (A13.i a_1)))]
          [] ∧
      ((fitB (A13.l a_1) = true ∧
            List.length (A13.l a_1) ≤ (8 : Nat) ∧ (0 : Int) ≤ A13.b a_1 ∧ A13.b a_1 ≤ (256 : Int)) ∧
          (0 : Int) ≤ A13.i a_1 ∧ A13.i a_1 ≤ (↑(List.length (A13.l a_1)) : Int)) ∧
        ∀ (y : Bool),
          (y = true →
                ∀ (i k : Nat),
                  A13.i a_1 ≤ (↑i : Int) →
                    i < List.length (A13.l a_1) →
                      k < List.length (A13.l a_1) → badL (A13.l a_1) (A13.b a_1) i k = false) ∧
              (y = false →
                ∃ (i : Nat),
                  ∃ (k : Nat),
                    i < List.length (A13.l a_1) ∧
                      k < List.length (A13.l a_1) ∧ badL (A13.l a_1) (A13.b a_1) i k = true) →
            brn y (K (AV.lit (Value.bool true)) []) (K (AV.lit (Value.bool false)) [])) := by kernel_rfl


def sidec13 (a : List AV × Int) : Prop := fitB a.1 = true ∧ a.1.length ≤ 8 ∧ 0 ≤ a.2 ∧ a.2 ≤ 256
def apartR (l : List AV) (b : Int) (r : Bool) : Prop := (r = true → ∀ i k : Nat, i < l.length → k < l.length → badL l b i k = false) ∧ (r = false → ∃ i k, i < l.length ∧ k < l.length ∧ badL l b i k = true)
def outc13 (a : List AV × Int) : Out (AV × List Dn.Obj) := .all (apartR a.1 a.2) fun r => .one (.bool r, [])

theorem c13 : CallOk E132 12 13 (callE stc13 sidec13 outc13) := by
  refine callE_ok ?_
  rintro ⟨l, b⟩ K h1 ho
  rw [y13]
  refine ⟨rfl, ⟨l, b, 0, 0⟩, rfl, ⟨h1, Int.le_refl _, by simp only; omega⟩, fun r hr => ?_⟩
  have := ho r ⟨fun e i k hi hk => hr.1 e i k (by simp only; omega) hi hk, hr.2⟩
  cases r
  · exact this
  · exact this

noncomputable def F13 : Env := E132.addCall 13 (callE stc13 sidec13 outc13)
theorem eF13 : EnvOK F13 := e132.addCall m132 c13
theorem mF13 : EnvMono F13 := m132.addCall callE_mono

/-! ### The law -/
structure A4 where
  l : List AV
  n : Int
  best : Int
  bits : Int
  c : Int
  i : Int

def st413 (a : A4) : S := sp 60 [(1, .lst 25 a.l), (5, .bool true), (6, .int a.n), (8, .int a.best), (9, .int a.bits), (10, .int a.c), (11, .int a.i)] []
def side413 (a : A4) : Prop := (a.l.length ≤ 8 ∧ 0 ≤ a.bits ∧ a.bits ≤ 256) ∧ 0 ≤ a.i ∧ a.i ≤ a.l.length ∧ a.c = num (bitB a.bits) a.i.toNat
def out413 (a : A4) : Out (Exit × S) := .one (.exit 2, sp 60 [(1, .lst 25 a.l), (5, .bool true), (6, .int a.n), (8, .int a.best), (9, .int a.bits), (10, .int (num (bitB a.bits) a.l.length))] [])

theorem x413 (a : A4) (I : Nat → S → Prop) (n : Nat) (K : Exit → S → Prop) : (vc F13 12 4 none 0 (loopCode Try.prog 4 13) (st413 a) (loopK F13 4 13 0 I n K)) = (
  brn (decide (A4.i a < (↑(List.length (A4.l a)) : Int)))
  (cnd (decide ((0 : Int) ≤ A4.i a))
    (∃ (m : Nat),
      m < n ∧
        I m
          (sp (60 : Nat)
            [((1 : Nat), AV.lst (25 : Nat) (A4.l a)), ((5 : Nat), AV.lit (Value.bool true)),
              ((6 : Nat), AV.lit (Value.int IntKind.i64 (A4.n a))),
              ((8 : Nat), AV.lit (Value.int IntKind.i64 (A4.best a))),
              ((9 : Nat), AV.lit (Value.int IntKind.i64 (A4.bits a))),
              ((10 : Nat),
                AV.lit
                  (Value.int IntKind.i64
                    (IntKind.wrap IntKind.i64
                      (A4.c a +
                        IntKind.wrap IntKind.i64
                          (↑(BitVec.toNat
                                (BitVec.ofInt (64 : Nat)
                                    (Int.fdiv (A4.bits a) ((2 : Int) ^ min (Int.toNat (A4.i a)) (64 : Nat))) &&&
                                  BitVec.ofInt (64 : Nat) (1 : Int))) :
                            Int))))),
              ((11 : Nat), AV.lit (Value.int IntKind.i64 (IntKind.wrap IntKind.i64 (A4.i a + (1 : Int)))))]
            [])))
  (K (Exit.exit (2 : Nat))
    (sp (60 : Nat)
      [((1 : Nat), AV.lst (25 : Nat) (A4.l a)), ((5 : Nat), AV.lit (Value.bool true)),
        ((6 : Nat), AV.lit (Value.int IntKind.i64 (A4.n a))), ((8 : Nat), AV.lit (Value.int IntKind.i64 (A4.best a))),
        ((9 : Nat), AV.lit (Value.int IntKind.i64 (A4.bits a))), ((10 : Nat), AV.lit (Value.int IntKind.i64 (A4.c a)))]
      []))) := by kernel_rfl


theorem l413 : LoopOk F13 12 4 13 (loopE 0 st413 side413 out413) := by
  refine loopE_ok (fun a => a.l.length - a.i.toNat) ?_
  rintro ⟨l, n, best, bits, c, i⟩ K ⟨⟨h1, hb0, hb1⟩, h2, h3, h4⟩ ho
  rw [show F13.P = Try.prog from rfl, x413]
  simp only at h1 hb0 hb1 h2 h3 h4 ⊢
  obtain ⟨b, rfl⟩ := Int.eq_ofNat_of_zero_le hb0
  obtain ⟨i, rfl⟩ := Int.eq_ofNat_of_zero_le h2
  have e1 := bit_eq (b := b) (by omega) (i := i) (by omega)
  simp only [bitI] at e1
  have hle := num_le_n (bitB b) i
  rw [Int.toNat_natCast] at h4
  simp only [brn_iff, cnd_iff, decide_eq_true_eq, decide_eq_false_iff_not, e1]
  refine ⟨fun hi => ⟨h2, ?_⟩, fun hi => ?_⟩
  · have hc : IntKind.wrap .i64 (c + if bitB b i = true then 1 else 0) = num (bitB b) (i + 1) := by
      rw [h4]
      simp only [num]
      cases bitB b i
      · rw [wrap_ok (by simp) (by simp; omega)]; simp
      · rw [wrap_ok (by simp; omega) (by simp; omega)]; simp
    rw [hc, wrap_ok (by omega) (by omega)]
    refine ⟨_, ?_, ⟨l, n, best, b, num (bitB b) (i + 1), (i : Int) + 1⟩, rfl, ⟨⟨h1, hb0, hb1⟩, by simp only; omega, by simp only; omega, ?_⟩, rfl, ho⟩
    · simp only; omega
    · simp only [show ((i : Int) + 1).toNat = i + 1 by omega]
  · have : i = l.length := by omega
    subst this
    rw [h4]
    exact ho

noncomputable def E413 : Env := F13.addLoop 4 13 (loopE 0 st413 side413 out413)
theorem e413 : EnvOK E413 := eF13.addLoop mF13 l413
theorem m413 : EnvMono E413 := mF13.addLoop loopE_mono

def st49 (a : A4) : S := sp 60 [(1, .lst 25 a.l), (5, .bool true), (6, .int a.n), (8, .int a.best), (9, .int a.bits)] []
/-- The greatest so far. -/
def Best (l : List AV) (bits best : Nat) : Prop := (best = 1 ∨ ∃ q, Apart (edgeL l) l.length q ∧ best ≤ num q l.length) ∧ 1 ≤ best ∧ ∀ b, b < bits → Apart (edgeL l) l.length (bitB b) → num (bitB b) l.length ≤ best
def side49 (a : A4) : Prop := (fitB a.l = true ∧ a.l.length ≤ 8) ∧ ∃ bits best : Nat, a.bits = bits ∧ a.best = best ∧ bits ≤ 2 ^ a.l.length ∧ best ≤ 8 ∧ Best a.l bits best
def out49 (a : A4) : Out (Exit × S) := .all (fun best : Nat => Best a.l (2 ^ a.l.length) best) fun best => .one (.exit 0, sp 60 [(5, .bool true), (6, .int a.n), (8, .int best)] [])

theorem x49 (a : A4) (I : Nat → S → Prop) (n : Nat) (K : Exit → S → Prop) : (vc E413 12 4 none 0 (loopCode Try.prog 4 9) (st49 a) (loopK E413 4 9 0 I n K)) = (
  brn
  (decide
    (A4.bits a <
      IntKind.wrap IntKind.i64 ((1 : Int) * (2 : Int) ^ min (Int.toNat (↑(List.length (A4.l a)) : Int)) (64 : Nat))))
  (loopCode (Env.P F13) (4 : Nat) (13 : Nat) = loopCode (Env.P F13) (4 : Nat) (13 : Nat) ∧
    ∃ (a_1 : A4),
      sp (60 : Nat)
            [((1 : Nat), AV.lst (25 : Nat) (A4.l a)), ((5 : Nat), AV.lit (Value.bool true)),
              ((6 : Nat), AV.lit (Value.int IntKind.i64 (A4.n a))),
              ((8 : Nat), AV.lit (Value.int IntKind.i64 (A4.best a))),
              ((9 : Nat), AV.lit (Value.int IntKind.i64 (A4.bits a))),
              ((10 : Nat), AV.lit (Value.int IntKind.i64 (0 : Int))),
              ((11 : Nat), AV.lit (Value.int IntKind.i64 (0 : Int)))]
            [] =
          sp (60 : Nat)
            [((1 : Nat), AV.lst (25 : Nat) (A4.l a_1)), ((5 : Nat), AV.lit (Value.bool true)),
              ((6 : Nat), AV.lit (Value.int IntKind.i64 (A4.n a_1))),
              ((8 : Nat), AV.lit (Value.int IntKind.i64 (A4.best a_1))),
              ((9 : Nat), AV.lit (Value.int IntKind.i64 (A4.bits a_1))),
              ((10 : Nat), AV.lit (Value.int IntKind.i64 (A4.c a_1))),
              ((11 : Nat), AV.lit (Value.int IntKind.i64 (A4.i a_1)))]
            [] ∧
        ((List.length (A4.l a_1) ≤ (8 : Nat) ∧ (0 : Int) ≤ A4.bits a_1 ∧ A4.bits a_1 ≤ (256 : Int)) ∧
            (0 : Int) ≤ A4.i a_1 ∧
              A4.i a_1 ≤ (↑(List.length (A4.l a_1)) : Int) ∧
                A4.c a_1 = (↑(num (bitB (A4.bits a_1)) (Int.toNat (A4.i a_1))) : Int)) ∧
          brn (decide ((↑(num (bitB (A4.bits a_1)) (List.length (A4.l a_1))) : Int) > A4.best a_1))
            (∃ (a : List AV × Int),
              ([AV.lst (25 : Nat) (A4.l a_1), AV.lit (Value.int IntKind.i64 (A4.bits a_1))], nilO) =
                  ([AV.lst (25 : Nat) (Prod.fst a), AV.lit (Value.int IntKind.i64 (Prod.snd a))], nilO) ∧
                (fitB (Prod.fst a) = true ∧
                    List.length (Prod.fst a) ≤ (8 : Nat) ∧ (0 : Int) ≤ Prod.snd a ∧ Prod.snd a ≤ (256 : Int)) ∧
                  ∀ (y : Bool),
                    (y = true →
                          ∀ (i k : Nat),
                            i < List.length (Prod.fst a) →
                              k < List.length (Prod.fst a) → badL (Prod.fst a) (Prod.snd a) i k = false) ∧
                        (y = false →
                          ∃ (i : Nat),
                            ∃ (k : Nat),
                              i < List.length (Prod.fst a) ∧
                                k < List.length (Prod.fst a) ∧ badL (Prod.fst a) (Prod.snd a) i k = true) →
                      brn y
                        (∃ (m : Nat),
                          m < n ∧
                            I m
                              (sp (60 : Nat)
                                [((1 : Nat), AV.lst (25 : Nat) (A4.l a_1)), ((5 : Nat), AV.lit (Value.bool true)),
                                  ((6 : Nat), AV.lit (Value.int IntKind.i64 (A4.n a_1))),
                                  ((8 : Nat),
                                    AV.lit
                                      (Value.int IntKind.i64
                                        (↑(num (bitB (A4.bits a_1)) (List.length (A4.l a_1))) : Int))),
                                  ((9 : Nat),
                                    AV.lit
                                      (Value.int IntKind.i64 (IntKind.wrap IntKind.i64 (A4.bits a_1 + (1 : Int)))))]
                                []))
                        (∃ (m : Nat),
                          m < n ∧
                            I m
                              (sp (60 : Nat)
                                [((1 : Nat), AV.lst (25 : Nat) (A4.l a_1)), ((5 : Nat), AV.lit (Value.bool true)),
                                  ((6 : Nat), AV.lit (Value.int IntKind.i64 (A4.n a_1))),
                                  ((8 : Nat), AV.lit (Value.int IntKind.i64 (A4.best a_1))),
                                  ((9 : Nat),
                                    AV.lit
                                      (Value.int IntKind.i64 (IntKind.wrap IntKind.i64 (A4.bits a_1 + (1 : Int)))))]
                                [])))
            (∃ (m : Nat),
              m < n ∧
                I m
                  (sp (60 : Nat)
                    [((1 : Nat), AV.lst (25 : Nat) (A4.l a_1)), ((5 : Nat), AV.lit (Value.bool true)),
                      ((6 : Nat), AV.lit (Value.int IntKind.i64 (A4.n a_1))),
                      ((8 : Nat), AV.lit (Value.int IntKind.i64 (A4.best a_1))),
                      ((9 : Nat), AV.lit (Value.int IntKind.i64 (IntKind.wrap IntKind.i64 (A4.bits a_1 + (1 : Int)))))]
                    [])))
  (K (Exit.exit (0 : Nat))
    (sp (60 : Nat)
      [((5 : Nat), AV.lit (Value.bool true)), ((6 : Nat), AV.lit (Value.int IntKind.i64 (A4.n a))),
        ((8 : Nat), AV.lit (Value.int IntKind.i64 (A4.best a)))]
      []))) := by kernel_rfl


theorem shl_ok {n : Nat} (h : n ≤ 8) : IntKind.wrap .i64 ((1 : Int) * (2 : Int) ^ min (Int.toNat (n : Int)) 64) = ((2 ^ n : Nat) : Int) := by
  match n, h with
  | 0, _ => rfl
  | 1, _ => rfl
  | 2, _ => rfl
  | 3, _ => rfl
  | 4, _ => rfl
  | 5, _ => rfl
  | 6, _ => rfl
  | 7, _ => rfl
  | 8, _ => rfl
  | n + 9, h => omega

theorem apart_of {l : List AV} {b : Nat} {r : Bool} (h : apartR l b r) : r = true ↔ Apart (edgeL l) l.length (bitB b) := by
  constructor
  · intro e i k hi hk hbi hbk
    have := h.1 e i k hi hk
    simpa [badL, hbi, hbk] using this
  · intro ha
    cases r with
    | true => rfl
    | false =>
      obtain ⟨i, k, hi, hk, hb⟩ := h.2 rfl
      simp only [badL, Bool.and_eq_true] at hb
      have := ha i k hi hk hb.1 hb.2.1
      rw [hb.2.2] at this; cases this

theorem l49 : LoopOk E413 12 4 9 (loopE 0 st49 side49 out49) := by
  refine loopE_ok (fun a => 2 ^ a.l.length - a.bits.toNat) ?_
  rintro ⟨l, n, best, bits, c, i⟩ K ⟨⟨h1, h1'⟩, b, m, rfl, rfl, h2, h3, h4, h5, h6⟩ ho
  rw [show E413.P = Try.prog from rfl, x49]
  simp only at h1 h1' h2 h3 h4 h5 h6 ⊢
  have hpow : (2 : Nat) ^ l.length ≤ 2 ^ 8 := Nat.pow_le_pow_right (by decide) h1'
  simp only [shl_ok h1']
  have next : ∀ m' : Nat, b < 2 ^ l.length → m' ≤ 8 → Best l (b + 1) m' → ∃ j, j < 2 ^ l.length - (b : Int).toNat ∧ invOf st49 side49 out49 (fun a => 2 ^ a.l.length - a.bits.toNat) K j (st49 ⟨l, n, m', IntKind.wrap .i64 ((b : Int) + 1), c, i⟩) := by
    intro m' hb hm hB
    rw [wrap_ok (by omega) (by omega)]
    refine ⟨_, ?_, ⟨l, n, m', (b : Int) + 1, c, i⟩, rfl, ⟨⟨h1, h1'⟩, b + 1, m', by simp only; omega, rfl, hb, hm, hB⟩, rfl, ho⟩
    · simp only; omega
  have hle := num_le_n (bitB b) l.length
  rw [brn_iff]
  refine ⟨fun hb => ?_, fun hb => ?_⟩
  · have hb : b < 2 ^ l.length := by have := of_decide_eq_true hb; omega
    refine ⟨trivial, ⟨l, n, m, b, 0, 0⟩, rfl, ⟨⟨h1', by simp only; omega, by simp only; omega⟩, Int.le_refl _, by simp only; omega, rfl⟩, ?_⟩
    simp only [brn_iff, decide_eq_true_eq, decide_eq_false_iff_not]
    have stay : (num (bitB b) l.length ≤ m ∨ ¬ Apart (edgeL l) l.length (bitB b)) → Best l (b + 1) m := fun hs => ⟨h4, h5, fun b' hb' ha => by
      by_cases e : b' = b
      · subst e
        rcases hs with hs | hs
        · exact hs
        · exact absurd ha hs
      · exact h6 b' (by omega) ha⟩
    refine ⟨fun hg => ⟨(l, b), rfl, ⟨h1, h1', by simp only; omega, by simp only; omega⟩, fun r hr => ?_⟩, fun hg => next m hb h3 (stay (.inl (by omega)))⟩
    have hap := apart_of hr
    refine ⟨fun e => next _ hb (by omega) ⟨.inr ⟨bitB b, hap.1 e, Nat.le_refl _⟩, by omega, fun b' hb' ha => ?_⟩, fun e => next m hb h3 (stay (.inr fun ha => by rw [hap.2 ha] at e; cases e))⟩
    by_cases eb : b' = b
    · subst eb; exact Nat.le_refl _
    · have := h6 b' (by omega) ha; omega
  · have : b = 2 ^ l.length := by have := of_decide_eq_false hb; omega
    subst this
    exact ho m ⟨h4, h5, h6⟩

noncomputable def E49 : Env := E413.addLoop 4 9 (loopE 0 st49 side49 out49)
theorem e49 : EnvOK E49 := e413.addLoop m413 l49
theorem m49 : EnvMono E49 := m413.addLoop loopE_mono

theorem best_width {l : List AV} {w m : Nat} (h : Width l w) (hb : Best l (2 ^ l.length) m) : max 1 w = m := by
  obtain ⟨⟨q, h1, h2⟩, h3⟩ := h
  obtain ⟨k1, k2, k3⟩ := hb
  have hq : num (bitB (bitsOf q l.length)) l.length = num q l.length := num_congr fun k hk => by
    unfold bitB; rw [Int.toNat_natCast]; exact bitsOf_test q _ k hk
  have := k3 (bitsOf q l.length) (bitsOf_lt q _) (fun i j hi hj hbi hbj => by
    unfold bitB at hbi hbj
    rw [Int.toNat_natCast, bitsOf_test q _ _ (by assumption)] at hbi hbj
    exact h1 i j hi hj hbi hbj)
  rcases k1 with rfl | ⟨p, g1, g2⟩
  · omega
  · have := h3 p g1; omega

def stc4 (a : Int × List AV) : List AV × List Dn.Obj := ([.int a.1, .lst 25 a.2], [])

theorem y4 (a : Int × List AV) (K : AV → List Dn.Obj → Prop) : (funA E49 12 4 (stc4 a).1 (stc4 a).2 K) = (
  brn (decide ((↑(List.length (Prod.snd a)) : Int) > (8 : Int))) (K (AV.lit (Value.bool true)) [])
  (∃ (a_1 : Int × List AV),
    ([AV.lit (Value.int IntKind.i64 (Prod.fst a)), AV.lst (25 : Nat) (Prod.snd a)], nilO) =
        ([AV.lit (Value.int IntKind.i64 (Prod.fst a_1)), AV.lst (25 : Nat) (Prod.snd a_1)], nilO) ∧
      fitB (Prod.snd a_1) = true ∧
        brn (rightI (Prod.fst a_1) (rows (Prod.snd a_1)))
          (∀ (y : Nat),
            ((∃ (q : Nat → Bool),
                  (∀ (i j : Nat),
                      i < List.length (Prod.snd a_1) →
                        j < List.length (Prod.snd a_1) → q i = true → q j = true → edgeL (Prod.snd a_1) i j = false) ∧
                    y ≤ num q (List.length (Prod.snd a_1))) ∧
                ∀ (q : Nat → Bool),
                  (∀ (i j : Nat),
                      i < List.length (Prod.snd a_1) →
                        j < List.length (Prod.snd a_1) → q i = true → q j = true → edgeL (Prod.snd a_1) i j = false) →
                    num q (List.length (Prod.snd a_1)) ≤ y) →
              loopCode (Env.P E413) (4 : Nat) (9 : Nat) = loopCode (Env.P E413) (4 : Nat) (9 : Nat) ∧
                ∃ (a_3 : A4),
                  sp (60 : Nat)
                        [((1 : Nat), AV.lst (25 : Nat) (Prod.snd a)), ((5 : Nat), AV.lit (Value.bool true)),
                          ((6 : Nat), AV.lit (Value.int IntKind.i64 (↑(max (1 : Nat) y) : Int))),
                          ((8 : Nat), AV.lit (Value.int IntKind.i64 (1 : Int))),
                          ((9 : Nat), AV.lit (Value.int IntKind.i64 (0 : Int)))]
                        [] =
                      sp (60 : Nat)
                        [((1 : Nat), AV.lst (25 : Nat) (A4.l a_3)), ((5 : Nat), AV.lit (Value.bool true)),
                          ((6 : Nat), AV.lit (Value.int IntKind.i64 (A4.n a_3))),
                          ((8 : Nat), AV.lit (Value.int IntKind.i64 (A4.best a_3))),
                          ((9 : Nat), AV.lit (Value.int IntKind.i64 (A4.bits a_3)))]
                        [] ∧
                    ((fitB (A4.l a_3) = true ∧ List.length (A4.l a_3) ≤ (8 : Nat)) ∧
                        ∃ (bits : Nat),
                          ∃ (best : Nat),
                            A4.bits a_3 = (↑bits : Int) ∧
                              A4.best a_3 = (↑best : Int) ∧
                                bits ≤ (2 : Nat) ^ List.length (A4.l a_3) ∧
                                  best ≤ (8 : Nat) ∧
                                    (best = (1 : Nat) ∨
                                        ∃ (q : Nat → Bool),
                                          (∀ (i j : Nat),
                                              i < List.length (A4.l a_3) →
                                                j < List.length (A4.l a_3) →
                                                  q i = true → q j = true → edgeL (A4.l a_3) i j = false) ∧
                                            best ≤ num q (List.length (A4.l a_3))) ∧
                                      (1 : Nat) ≤ best ∧
                                        ∀ (b : Nat),
                                          b < bits →
                                            (∀ (i j : Nat),
                                                i < List.length (A4.l a_3) →
                                                  j < List.length (A4.l a_3) →
                                                    bitB (↑b : Int) i = true →
                                                      bitB (↑b : Int) j = true → edgeL (A4.l a_3) i j = false) →
                                              num (bitB (↑b : Int)) (List.length (A4.l a_3)) ≤ best) ∧
                      ∀ (y : Nat),
                        ((y = (1 : Nat) ∨
                              ∃ (q : Nat → Bool),
                                (∀ (i j : Nat),
                                    i < List.length (A4.l a_3) →
                                      j < List.length (A4.l a_3) →
                                        q i = true → q j = true → edgeL (A4.l a_3) i j = false) ∧
                                  y ≤ num q (List.length (A4.l a_3))) ∧
                            (1 : Nat) ≤ y ∧
                              ∀ (b : Nat),
                                b < (2 : Nat) ^ List.length (A4.l a_3) →
                                  (∀ (i j : Nat),
                                      i < List.length (A4.l a_3) →
                                        j < List.length (A4.l a_3) →
                                          bitB (↑b : Int) i = true →
                                            bitB (↑b : Int) j = true → edgeL (A4.l a_3) i j = false) →
                                    num (bitB (↑b : Int)) (List.length (A4.l a_3)) ≤ y) →
                          K (AV.lit (Value.bool (A4.n a_3 == (↑y : Int)))) [])
          (K (AV.lit (Value.bool true)) []))) := by kernel_rfl


theorem c4 (c : Int) (l : List AV) (h0 : fitB l = true) : funA E49 12 4 [.int c, .lst 25 l] [] (fun r _ => r = .bool true) := by
  have := y4 (c, l) (fun r _ => r = .bool true)
  rw [show funA E49 12 4 [.int c, .lst 25 l] [] (fun r _ => r = .bool true) = funA E49 12 4 (stc4 (c, l)).1 (stc4 (c, l)).2 (fun r _ => r = .bool true) from rfl, this]
  refine brn_iff.2 ⟨fun _ => rfl, fun hz => ⟨(c, l), rfl, h0, brn_iff.2 ⟨fun hr w hw => ?_, fun _ => rfl⟩⟩⟩
  have hz : l.length ≤ 8 := by have := of_decide_eq_false hz; simp only at this; omega
  refine ⟨rfl, ⟨l, (max 1 w : Nat), 1, 0, 0, 0⟩, rfl, ⟨⟨h0, hz⟩, 0, 1, rfl, rfl, Nat.zero_le _, by omega, .inl rfl, Nat.le_refl _, fun b hb => by omega⟩, fun m hm => ?_⟩
  have := best_width (l := l) (w := w) hw hm
  show AV.bool _ = AV.bool true
  congr 1
  simp only [this, beq_self_eq_true]

theorem sim4 (c : Int) (l : List AV) (h1 : fitB l = true) : SimCall Try.prog 4 [.int c, .lst 25 l] [] (fun r _ => r = .bool true) := fun_sound e49 m49 (c4 c l h1)

end Go.Proofs.Ytpjkphcfkpcfgaa

/-
  order over a nil map; Orders of no sets.
-/
namespace Go.Proofs.Ytpjkphcfkpcfgaa
open Go Go.Dn Go.Proofs

abbrev NB : Dn.Obj := .box 42 (.agg [.slc 1 0 1, .lit (.map none)])
abbrev NX : Dn.Obj := .row 25 [.lst 3 [.int 0]]

/-! ### nothing is behind anything -/
def stN3 (c : Int) : S := sp 71 [(0, .ptr 0 0 [] 0), (1, .int 0), (2, .int c), (7, .mp 2), (20, .ptr 3 0 [] 0)] [NB, NX, .map 3 3 [], .iter 3 0 [.map none]]
def outN3 (c : Int) : Out (Exit × S) := .one (.exit 0, sp 71 [(0, .ptr 0 0 [] 0), (1, .int 0), (2, .int c), (7, .mp 2)] [NB, NX, .map 3 3 []])

theorem xN3 (c : Int) (I : Nat → S → Prop) (n : Nat) (K : Exit → S → Prop) : (vc F11 12 26 none 2 (loopCode Try.prog 26 3) (stN3 c) (loopK F11 26 3 2 I n K)) = (
  K (Exit.exit (0 : Nat))
  (sp (71 : Nat)
    [((0 : Nat), AV.ptr (0 : Nat) (0 : Nat) [] (0 : Nat)), ((1 : Nat), AV.lit (Value.int IntKind.i64 (0 : Int))),
      ((2 : Nat), AV.lit (Value.int IntKind.i64 c)), ((7 : Nat), AV.mp (2 : Nat))]
    [Obj.box (42 : Nat) (AV.agg [AV.slc (1 : Nat) (0 : Nat) (1 : Nat), AV.lit (Value.map none)]),
      Obj.row (25 : Nat) [AV.lst (3 : Nat) [AV.lit (Value.int IntKind.i64 (0 : Int))]],
      Dn.Obj.map (3 : Nat) (3 : Nat) []])) := by kernel_rfl


theorem lN3 : LoopOk F11 12 26 3 (loopE 2 stN3 (fun _ => True) outN3) := by
  refine loopE_ok (fun _ => 0) ?_
  intro c K _ ho
  rw [show F11.P = Try.prog from rfl, xN3]
  exact ho

noncomputable def N1 : Env := F11.addLoop 26 3 (loopE 2 stN3 (fun _ => True) outN3)
theorem n1 : EnvOK N1 := eF11.addLoop mF11 lN3
theorem nm1 : EnvMono N1 := mF11.addLoop loopE_mono

/-! ### the one set -/
def stN37 (_ : Unit) : S := sp 20 [(1, .ptr 3 0 [] 0), (5, .lst 3 [.int 0]), (6, .int 1), (7, .int 0)] [NB, NX, .map 3 3 [], .box 25 (.slc 4 0 0), .row 3 []]
def stN37' : S := sp 20 [(1, .ptr 3 0 [] 0), (5, .lst 3 [.int 0]), (6, .int 1), (7, .int 1)] [NB, NX, .map 3 3 [], .box 25 (.slc 4 0 1), .row 3 [.int 0]]
def outN37 (_ : Unit) : Out (Exit × S) := .one (.exit 0, sp 20 [] [NB, NX, .map 3 3 [], .box 25 (.slc 4 0 1), .row 3 [.int 0]])

theorem xN37 (p : Unit) (I : Nat → S → Prop) (n : Nat) (K : Exit → S → Prop) : (vc N1 12 37 none 4 (loopCode Try.prog 37 1) (stN37 p) (loopK N1 37 1 4 I n K)) = (
  ∃ (m : Nat),
  m < n ∧
    I m
      (sp (20 : Nat)
        [((1 : Nat), AV.ptr (3 : Nat) (0 : Nat) [] (0 : Nat)),
          ((5 : Nat), AV.lst (3 : Nat) [AV.lit (Value.int IntKind.i64 (0 : Int))]),
          ((6 : Nat), AV.lit (Value.int IntKind.i64 (1 : Int))), ((7 : Nat), AV.lit (Value.int IntKind.i64 (1 : Int)))]
        [Obj.box (42 : Nat) (AV.agg [AV.slc (1 : Nat) (0 : Nat) (1 : Nat), AV.lit (Value.map none)]),
          Obj.row (25 : Nat) [AV.lst (3 : Nat) [AV.lit (Value.int IntKind.i64 (0 : Int))]],
          Dn.Obj.map (3 : Nat) (3 : Nat) [], Obj.box (25 : Nat) (AV.slc (4 : Nat) (0 : Nat) (1 : Nat)),
          Obj.row (3 : Nat) [AV.lit (Value.int IntKind.i64 (0 : Int))]])) := by kernel_rfl


theorem xN37b (I : Nat → S → Prop) (n : Nat) (K : Exit → S → Prop) : (vc N1 12 37 none 4 (loopCode Try.prog 37 1) stN37' (loopK N1 37 1 4 I n K)) = (
  K (Exit.exit (0 : Nat))
  (sp (20 : Nat) []
    [Obj.box (42 : Nat) (AV.agg [AV.slc (1 : Nat) (0 : Nat) (1 : Nat), AV.lit (Value.map none)]),
      Obj.row (25 : Nat) [AV.lst (3 : Nat) [AV.lit (Value.int IntKind.i64 (0 : Int))]],
      Dn.Obj.map (3 : Nat) (3 : Nat) [], Obj.box (25 : Nat) (AV.slc (4 : Nat) (0 : Nat) (1 : Nat)),
      Obj.row (3 : Nat) [AV.lit (Value.int IntKind.i64 (0 : Int))]])) := by kernel_rfl


structure N3 where
  n : Int
  o : List Int

def stM (a : N3) : S := sp 20 [(1, .ptr 2 0 [] 0), (5, .slc 4 0 1), (6, .int 1), (7, .int 0)] [NB, NX, .box 25 (.slc 3 0 a.o.length), .row 3 (mkI a.o), .row 3 [.int a.n]]
def stM1 (a : N3) : S := sp 20 [(1, .ptr 2 0 [] 0), (5, .slc 4 0 1), (6, .int 1), (7, .int 1)] [NB, NX, .box 25 (.slc 3 0 a.o.length), .row 3 (mkI a.o), .row 3 [.int a.n]]
def storMB (a : N3) : List Dn.Obj := [NB, NX, .box 25 (.slc 5 0 (a.o.length + 1)), .dead, .row 3 [.int a.n], .row 3 (mkI a.o ++ [.int a.n])]
def stMB (a : N3) : S := sp 20 [(1, .ptr 2 0 [] 0), (5, .slc 4 0 1), (6, .int 1), (7, .int 1)] (storMB a)
def sideM (a : N3) : Prop := a.o.length ≤ 1000
def outM (a : N3) : Out (Exit × S) := .brn (hasI a.o a.n) (.one (.exit 0, sp 20 [] [NB, NX, .box 25 (.slc 3 0 a.o.length), .row 3 (mkI a.o), .row 3 [.int a.n]])) (.one (.exit 0, sp 20 [] (storMB a)))

theorem xM (a : N3) (I : Nat → S → Prop) (n : Nat) (K : Exit → S → Prop) : (vc N1 12 37 none 5 (loopCode Try.prog 37 1) (stM a) (loopK N1 37 1 5 I n K)) = (
  cnd
  (decide
    (List.length (List.take (List.length (N3.o a)) (List.drop (0 : Nat) (mkI (N3.o a)))) ≤ (9223372036854775807 : Nat)))
  (brn (!hasI (ints (List.take (List.length (N3.o a)) (List.drop (0 : Nat) (mkI (N3.o a))))) (N3.n a))
    (cnd (decide ((List.length (N3.o a) + (1 : Nat) + (1 : Nat)) * (9 : Nat) ≤ (70368744177664 : Nat)))
      (∃ (m : Nat),
        m < n ∧
          I m
            (sp (20 : Nat)
              [((1 : Nat), AV.ptr (2 : Nat) (0 : Nat) [] (0 : Nat)), ((5 : Nat), AV.slc (4 : Nat) (0 : Nat) (1 : Nat)),
                ((6 : Nat), AV.lit (Value.int IntKind.i64 (1 : Int))),
                ((7 : Nat), AV.lit (Value.int IntKind.i64 (1 : Int)))]
              [Obj.box (42 : Nat) (AV.agg [AV.slc (1 : Nat) (0 : Nat) (1 : Nat), AV.lit (Value.map none)]),
                Obj.row (25 : Nat) [AV.lst (3 : Nat) [AV.lit (Value.int IntKind.i64 (0 : Int))]],
                Obj.box (25 : Nat) (AV.slc (5 : Nat) (0 : Nat) (List.length (N3.o a) + (1 : Nat))), Obj.dead,
                Obj.row (3 : Nat) [AV.lit (Value.int IntKind.i64 (N3.n a))],
                Obj.row (3 : Nat)
                  (List.take (List.length (N3.o a)) (mkI (N3.o a)) ++ [AV.lit (Value.int IntKind.i64 (N3.n a))])])))
    (∃ (m : Nat),
      m < n ∧
        I m
          (sp (20 : Nat)
            [((1 : Nat), AV.ptr (2 : Nat) (0 : Nat) [] (0 : Nat)), ((5 : Nat), AV.slc (4 : Nat) (0 : Nat) (1 : Nat)),
              ((6 : Nat), AV.lit (Value.int IntKind.i64 (1 : Int))),
              ((7 : Nat), AV.lit (Value.int IntKind.i64 (1 : Int)))]
            [Obj.box (42 : Nat) (AV.agg [AV.slc (1 : Nat) (0 : Nat) (1 : Nat), AV.lit (Value.map none)]),
              Obj.row (25 : Nat) [AV.lst (3 : Nat) [AV.lit (Value.int IntKind.i64 (0 : Int))]],
              Obj.box (25 : Nat) (AV.slc (3 : Nat) (0 : Nat) (List.length (N3.o a))), Obj.row (3 : Nat) (mkI (N3.o a)),
              Obj.row (3 : Nat) [AV.lit (Value.int IntKind.i64 (N3.n a))]])))) := by kernel_rfl


theorem xM1 (a : N3) (I : Nat → S → Prop) (n : Nat) (K : Exit → S → Prop) : (vc N1 12 37 none 5 (loopCode Try.prog 37 1) (stM1 a) (loopK N1 37 1 5 I n K)) = (
  K (Exit.exit (0 : Nat))
  (sp (20 : Nat) []
    [Obj.box (42 : Nat) (AV.agg [AV.slc (1 : Nat) (0 : Nat) (1 : Nat), AV.lit (Value.map none)]),
      Obj.row (25 : Nat) [AV.lst (3 : Nat) [AV.lit (Value.int IntKind.i64 (0 : Int))]],
      Obj.box (25 : Nat) (AV.slc (3 : Nat) (0 : Nat) (List.length (N3.o a))), Obj.row (3 : Nat) (mkI (N3.o a)),
      Obj.row (3 : Nat) [AV.lit (Value.int IntKind.i64 (N3.n a))]])) := by kernel_rfl


theorem xMB (a : N3) (I : Nat → S → Prop) (n : Nat) (K : Exit → S → Prop) : (vc N1 12 37 none 5 (loopCode Try.prog 37 1) (stMB a) (loopK N1 37 1 5 I n K)) = (
  K (Exit.exit (0 : Nat))
  (sp (20 : Nat) []
    [Obj.box (42 : Nat) (AV.agg [AV.slc (1 : Nat) (0 : Nat) (1 : Nat), AV.lit (Value.map none)]),
      Obj.row (25 : Nat) [AV.lst (3 : Nat) [AV.lit (Value.int IntKind.i64 (0 : Int))]],
      Obj.box (25 : Nat) (AV.slc (5 : Nat) (0 : Nat) (List.length (N3.o a) + (1 : Nat))), Obj.dead,
      Obj.row (3 : Nat) [AV.lit (Value.int IntKind.i64 (N3.n a))],
      Obj.row (3 : Nat) (mkI (N3.o a) ++ [AV.lit (Value.int IntKind.i64 (N3.n a))])])) := by kernel_rfl


theorem lN37 : LoopOk N1 12 37 1 (loopE 4 stN37 (fun _ => True) outN37) := by
  intro rd base s K hh
  obtain ⟨rfl, rfl, a, hs, h2, ho⟩ := loopE_iff.1 hh
  refine ⟨fun m s => (m = 1 ∧ s = stN37 a) ∨ (m = 0 ∧ s = stN37'), 1, .inl ⟨rfl, hs⟩, ?_⟩
  rintro m s' (⟨rfl, rfl⟩ | ⟨rfl, rfl⟩)
  · rw [show N1.P = Try.prog from rfl, xN37]
    exact ⟨0, by omega, .inr ⟨rfl, rfl⟩⟩
  · rw [show N1.P = Try.prog from rfl, xN37b]
    exact ho

theorem lM : LoopOk N1 12 37 1 (loopE 5 stM sideM outM) := by
  intro rd base s K hh
  obtain ⟨rfl, rfl, a, hs, h2, ho⟩ := loopE_iff.1 hh
  simp only [sideM] at h2
  simp only [outM, Out.run, brn_iff] at ho
  refine ⟨fun m s => (m = 1 ∧ s = stM a) ∨ (m = 0 ∧ ((hasI a.o a.n = true ∧ s = stM1 a) ∨ (hasI a.o a.n = false ∧ s = stMB a))), 1, .inl ⟨rfl, hs⟩, ?_⟩
  rintro m s' (⟨rfl, rfl⟩ | ⟨rfl, ⟨hn, rfl⟩ | ⟨hn, rfl⟩⟩)
  · rw [show N1.P = Try.prog from rfl, xM]
    simp only [brn_iff, cnd_iff, decide_eq_true_eq, List.drop_zero, take_mkI, ints_mkI, len_mkI, Bool.not_eq_true', Bool.not_eq_false']
    exact ⟨by omega, fun hn => ⟨by omega, 0, by omega, .inr ⟨rfl, .inr ⟨hn, rfl⟩⟩⟩, fun hn => ⟨0, by omega, .inr ⟨rfl, .inl ⟨hn, rfl⟩⟩⟩⟩
  · have h1 := ho.1 hn
    rw [show N1.P = Try.prog from rfl, xM1]
    exact h1
  · have h1 := ho.2 hn
    rw [show N1.P = Try.prog from rfl, xMB]
    exact h1

noncomputable def N2 : Env := N1.addLoop 37 1 (pickB 4 (loopE 4 stN37 (fun _ => True) outN37) (loopE 5 stM sideM outM))
theorem n2 : EnvOK N2 := n1.addLoop nm1 (pickB_ok lN37 lM)
theorem nm2 : EnvMono N2 := nm1.addLoop (pickB_mono loopE_mono loopE_mono)

/-! ### nothing comes next -/
def stN10 (c : Int) : S := sp 71 [(0, .ptr 0 0 [] 0), (2, .int c), (7, .mp 2), (10, .ptr 3 0 [] 0), (11, .clo 37 [.ptr 3 0 [] 0]), (12, .int 0), (13, .bool false)] [NB, NX, .map 3 3 [], .box 25 (.slc 4 0 1), .row 3 [.int 0]]
def outN10 (c : Int) : Out (Exit × S) := .one (.exit 2, sp 71 [(2, .int c), (10, .ptr 2 0 [] 0), (11, .clo 37 [.ptr 2 0 [] 0])] [NB, NX, .box 25 (.slc 3 0 1), .row 3 [.int 0]])

theorem xN10 (c : Int) (I : Nat → S → Prop) (n : Nat) (K : Exit → S → Prop) : (vc N2 12 26 none 2 (loopCode Try.prog 26 10) (stN10 c) (loopK N2 26 10 2 I n K)) = (
  K (Exit.exit (2 : Nat))
  (sp (71 : Nat)
    [((2 : Nat), AV.lit (Value.int IntKind.i64 c)), ((10 : Nat), AV.ptr (2 : Nat) (0 : Nat) [] (0 : Nat)),
      ((11 : Nat), AV.clo (37 : Nat) [AV.ptr (2 : Nat) (0 : Nat) [] (0 : Nat)])]
    [Obj.box (42 : Nat) (AV.agg [AV.slc (1 : Nat) (0 : Nat) (1 : Nat), AV.lit (Value.map none)]),
      Obj.row (25 : Nat) [AV.lst (3 : Nat) [AV.lit (Value.int IntKind.i64 (0 : Int))]],
      Obj.box (25 : Nat) (AV.slc (3 : Nat) (0 : Nat) (1 : Nat)),
      Obj.row (3 : Nat) [AV.lit (Value.int IntKind.i64 (0 : Int))]])) := by kernel_rfl


theorem lN10 : LoopOk N2 12 26 10 (loopE 2 stN10 (fun _ => True) outN10) := by
  refine loopE_ok (fun _ => 0) ?_
  intro c K _ ho
  rw [show N2.P = Try.prog from rfl, xN10]
  exact ho

noncomputable def N4 : Env := N2.addLoop 26 10 (loopE 2 stN10 (fun _ => True) outN10)
theorem n4 : EnvOK N4 := n2.addLoop nm2 lN10
theorem nm4 : EnvMono N4 := nm2.addLoop loopE_mono

/-! ### the columns that are left -/
structure N14 where
  c : Int
  k : Int
  o : List Int

def stN14 (a : N14) : S := sp 71 [(10, .ptr 2 0 [] 0), (11, .clo 37 [.ptr 2 0 [] 0]), (61, .int a.c), (62, .int a.k)] [NB, NX, .box 25 (.slc 3 0 a.o.length), .row 3 (mkI a.o)]
def sideN14 (a : N14) : Prop := 0 ≤ a.k ∧ a.c ≤ 8 ∧ Cols a.c a.o ∧ (∀ x : Int, 0 ≤ x → x < a.k → x < a.c → x ∈ a.o)
def outN14 (a : N14) : Out (Exit × S) := .all (Full a.c a.o) fun o => .one (.exit 4, sp 71 [(10, .ptr 2 0 [] 0)] [NB, NX, .box 25 (.slc 3 0 o.length), .row 3 (mkI o)])

theorem xN14 (a : N14) (I : Nat → S → Prop) (n : Nat) (K : Exit → S → Prop) : (vc N4 12 26 none 2 (loopCode Try.prog 26 14) (stN14 a) (loopK N4 26 14 2 I n K)) = (
  brn (decide (N14.k a < N14.c a))
  (loopCode (Env.P N1) (37 : Nat) (1 : Nat) = loopCode (Env.P N1) (37 : Nat) (1 : Nat) ∧
    ∃ (a_1 : N3),
      sp (20 : Nat)
            [((1 : Nat), AV.ptr (2 : Nat) (0 : Nat) [] (0 : Nat)), ((5 : Nat), AV.slc (4 : Nat) (0 : Nat) (1 : Nat)),
              ((6 : Nat), AV.lit (Value.int IntKind.i64 (1 : Int))),
              ((7 : Nat), AV.lit (Value.int IntKind.i64 (0 : Int)))]
            [Obj.box (42 : Nat) (AV.agg [AV.slc (1 : Nat) (0 : Nat) (1 : Nat), AV.lit (Value.map none)]),
              Obj.row (25 : Nat) [AV.lst (3 : Nat) [AV.lit (Value.int IntKind.i64 (0 : Int))]],
              Obj.box (25 : Nat) (AV.slc (3 : Nat) (0 : Nat) (List.length (N14.o a))),
              Obj.row (3 : Nat) (mkI (N14.o a)), Obj.row (3 : Nat) [AV.lit (Value.int IntKind.i64 (N14.k a))]] =
          sp (20 : Nat)
            [((1 : Nat), AV.ptr (2 : Nat) (0 : Nat) [] (0 : Nat)), ((5 : Nat), AV.slc (4 : Nat) (0 : Nat) (1 : Nat)),
              ((6 : Nat), AV.lit (Value.int IntKind.i64 (1 : Int))),
              ((7 : Nat), AV.lit (Value.int IntKind.i64 (0 : Int)))]
            [Obj.box (42 : Nat) (AV.agg [AV.slc (1 : Nat) (0 : Nat) (1 : Nat), AV.lit (Value.map none)]),
              Obj.row (25 : Nat) [AV.lst (3 : Nat) [AV.lit (Value.int IntKind.i64 (0 : Int))]],
              Obj.box (25 : Nat) (AV.slc (3 : Nat) (0 : Nat) (List.length (N3.o a_1))),
              Obj.row (3 : Nat) (mkI (N3.o a_1)), Obj.row (3 : Nat) [AV.lit (Value.int IntKind.i64 (N3.n a_1))]] ∧
        sideM a_1 ∧
          brn (hasI (N3.o a_1) (N3.n a_1))
            (∃ (m : Nat),
              m < n ∧
                I m
                  (sp (71 : Nat)
                    [((10 : Nat), AV.ptr (2 : Nat) (0 : Nat) [] (0 : Nat)),
                      ((11 : Nat), AV.clo (37 : Nat) [AV.ptr (2 : Nat) (0 : Nat) [] (0 : Nat)]),
                      ((61 : Nat), AV.lit (Value.int IntKind.i64 (N14.c a))),
                      ((62 : Nat), AV.lit (Value.int IntKind.i64 (IntKind.wrap IntKind.i64 (N14.k a + (1 : Int)))))]
                    [Obj.box (42 : Nat) (AV.agg [AV.slc (1 : Nat) (0 : Nat) (1 : Nat), AV.lit (Value.map none)]),
                      Obj.row (25 : Nat) [AV.lst (3 : Nat) [AV.lit (Value.int IntKind.i64 (0 : Int))]],
                      Obj.box (25 : Nat) (AV.slc (3 : Nat) (0 : Nat) (List.length (N3.o a_1))),
                      Obj.row (3 : Nat) (mkI (N3.o a_1))]))
            (∃ (m : Nat),
              m < n ∧
                I m
                  (sp (71 : Nat)
                    [((10 : Nat), AV.ptr (2 : Nat) (0 : Nat) [] (0 : Nat)),
                      ((11 : Nat), AV.clo (37 : Nat) [AV.ptr (2 : Nat) (0 : Nat) [] (0 : Nat)]),
                      ((61 : Nat), AV.lit (Value.int IntKind.i64 (N14.c a))),
                      ((62 : Nat), AV.lit (Value.int IntKind.i64 (IntKind.wrap IntKind.i64 (N14.k a + (1 : Int)))))]
                    [Obj.box (42 : Nat) (AV.agg [AV.slc (1 : Nat) (0 : Nat) (1 : Nat), AV.lit (Value.map none)]),
                      Obj.row (25 : Nat) [AV.lst (3 : Nat) [AV.lit (Value.int IntKind.i64 (0 : Int))]],
                      Obj.box (25 : Nat) (AV.slc (3 : Nat) (0 : Nat) (List.length (N3.o a_1) + (1 : Nat))),
                      Obj.row (3 : Nat) (mkI (N3.o a_1) ++ [AV.lit (Value.int IntKind.i64 (N3.n a_1))])])))
  (K (Exit.exit (4 : Nat))
    (sp (71 : Nat) [((10 : Nat), AV.ptr (2 : Nat) (0 : Nat) [] (0 : Nat))]
      [Obj.box (42 : Nat) (AV.agg [AV.slc (1 : Nat) (0 : Nat) (1 : Nat), AV.lit (Value.map none)]),
        Obj.row (25 : Nat) [AV.lst (3 : Nat) [AV.lit (Value.int IntKind.i64 (0 : Int))]],
        Obj.box (25 : Nat) (AV.slc (3 : Nat) (0 : Nat) (List.length (N14.o a))), Obj.row (3 : Nat) (mkI (N14.o a))]))) := by kernel_rfl


theorem lN14 : LoopOk N4 12 26 14 (loopE 2 stN14 sideN14 outN14) := by
  refine loopE_ok (fun a => (a.c - a.k).toNat) ?_
  rintro ⟨c, k, o⟩ K ⟨h1, h2, h3, h4⟩ ho
  rw [show N4.P = Try.prog from rfl, xN14]
  simp only at h1 h2 h3 h4 ⊢
  simp only [brn_iff, cnd_iff, decide_eq_true_eq, decide_eq_false_iff_not]
  refine ⟨fun hk => ?_, fun hk => ?_⟩
  · have hlen := h3.len
    have hcp := h3.put h1 hk
    rw [wrap_ok (by omega) (by omega)]
    have next : ∀ o', (∃ t, o' = o ++ t) → Cols c o' → (∀ x : Int, 0 ≤ x → x < k + 1 → x < c → x ∈ o') → ∃ m, m < (c - k).toNat ∧ invOf stN14 sideN14 outN14 (fun a => (a.c - a.k).toNat) K m (stN14 ⟨c, k + 1, o'⟩) := by
      rintro o' ⟨t, ht⟩ hc' hx
      refine ⟨_, ?_, _, rfl, ⟨by simp only; omega, h2, hc', hx⟩, rfl, fun y hy => ho y ⟨?_, hy.2⟩⟩
      · simp only; omega
      · obtain ⟨u, hu⟩ := hy.1
        exact ⟨t ++ u, by rw [hu, ht, List.append_assoc]⟩
    refine ⟨trivial, ⟨k, o⟩, rfl, by show o.length ≤ 1000; omega, fun hh => ?_, fun hh => ?_⟩
    · refine next o ⟨[], by simp⟩ h3 (fun x h0 hxk hxc => ?_)
      by_cases e : x = k
      · subst e; simpa [hasI] using hh
      · exact h4 x h0 (by omega) hxc
    · rw [if_neg (by rw [hh]; simp)] at hcp
      have := next (o ++ [k]) ⟨[k], rfl⟩ hcp (fun x h0 hxk hxc => by
        by_cases e : x = k
        · subst e; simp
        · exact List.mem_append_left _ (h4 x h0 (by omega) hxc))
      simp only [stN14, List.length_append, List.length_singleton, ← mkI_snoc] at this
      exact this
  · exact ho o ⟨⟨[], by simp⟩, h3, fun x h0 hx => h4 x h0 (by simp only at hx; omega) hx⟩

noncomputable def N5 : Env := N4.addLoop 26 14 (loopE 2 stN14 sideN14 outN14)
theorem n5 : EnvOK N5 := n4.addLoop nm4 lN14
theorem nm5 : EnvMono N5 := nm4.addLoop loopE_mono

def stcN (c : Int) : List AV × List Dn.Obj := ([.ptr 0 0 [] 0, .int 0, .int c], [NB, NX])
def outcN (c : Int) : Out (AV × List Dn.Obj) := .all (WholeI c) fun o => .one (.lst 3 (mkI o), [NB, NX])

theorem yN (c : Int) (K : AV → List Dn.Obj → Prop) : (funA N5 12 26 (stcN c).1 (stcN c).2 K) = (
  loopCode (Env.P F11) (26 : Nat) (3 : Nat) = loopCode (Env.P F11) (26 : Nat) (3 : Nat) ∧
  ∃ (a : Int),
    sp (71 : Nat)
          [((0 : Nat), AV.ptr (0 : Nat) (0 : Nat) [] (0 : Nat)), ((1 : Nat), AV.lit (Value.int IntKind.i64 (0 : Int))),
            ((2 : Nat), AV.lit (Value.int IntKind.i64 c)), ((7 : Nat), AV.mp (2 : Nat)),
            ((20 : Nat), AV.ptr (3 : Nat) (0 : Nat) [] (0 : Nat))]
          [Obj.box (42 : Nat) (AV.agg [AV.slc (1 : Nat) (0 : Nat) (1 : Nat), AV.lit (Value.map none)]),
            Obj.row (25 : Nat) [AV.lst (3 : Nat) [AV.lit (Value.int IntKind.i64 (0 : Int))]],
            Dn.Obj.map (3 : Nat) (3 : Nat) [], Obj.iter (3 : Nat) (0 : Nat) [Value.map none]] =
        sp (71 : Nat)
          [((0 : Nat), AV.ptr (0 : Nat) (0 : Nat) [] (0 : Nat)), ((1 : Nat), AV.lit (Value.int IntKind.i64 (0 : Int))),
            ((2 : Nat), AV.lit (Value.int IntKind.i64 a)), ((7 : Nat), AV.mp (2 : Nat)),
            ((20 : Nat), AV.ptr (3 : Nat) (0 : Nat) [] (0 : Nat))]
          [Obj.box (42 : Nat) (AV.agg [AV.slc (1 : Nat) (0 : Nat) (1 : Nat), AV.lit (Value.map none)]),
            Obj.row (25 : Nat) [AV.lst (3 : Nat) [AV.lit (Value.int IntKind.i64 (0 : Int))]],
            Dn.Obj.map (3 : Nat) (3 : Nat) [], Obj.iter (3 : Nat) (0 : Nat) [Value.map none]] ∧
      True ∧
        loopCode (Env.P N1) (37 : Nat) (1 : Nat) = loopCode (Env.P N1) (37 : Nat) (1 : Nat) ∧
          ∃ (a_1 : Unit),
            sp (20 : Nat)
                  [((1 : Nat), AV.ptr (3 : Nat) (0 : Nat) [] (0 : Nat)),
                    ((5 : Nat), AV.lst (3 : Nat) [AV.lit (Value.int IntKind.i64 (0 : Int))]),
                    ((6 : Nat), AV.lit (Value.int IntKind.i64 (1 : Int))),
                    ((7 : Nat), AV.lit (Value.int IntKind.i64 (0 : Int)))]
                  [Obj.box (42 : Nat) (AV.agg [AV.slc (1 : Nat) (0 : Nat) (1 : Nat), AV.lit (Value.map none)]),
                    Obj.row (25 : Nat) [AV.lst (3 : Nat) [AV.lit (Value.int IntKind.i64 (0 : Int))]],
                    Dn.Obj.map (3 : Nat) (3 : Nat) [], Obj.box (25 : Nat) (AV.slc (4 : Nat) (0 : Nat) (0 : Nat)),
                    Obj.row (3 : Nat) []] =
                sp (20 : Nat)
                  [((1 : Nat), AV.ptr (3 : Nat) (0 : Nat) [] (0 : Nat)),
                    ((5 : Nat), AV.lst (3 : Nat) [AV.lit (Value.int IntKind.i64 (0 : Int))]),
                    ((6 : Nat), AV.lit (Value.int IntKind.i64 (1 : Int))),
                    ((7 : Nat), AV.lit (Value.int IntKind.i64 (0 : Int)))]
                  [Obj.box (42 : Nat) (AV.agg [AV.slc (1 : Nat) (0 : Nat) (1 : Nat), AV.lit (Value.map none)]),
                    Obj.row (25 : Nat) [AV.lst (3 : Nat) [AV.lit (Value.int IntKind.i64 (0 : Int))]],
                    Dn.Obj.map (3 : Nat) (3 : Nat) [], Obj.box (25 : Nat) (AV.slc (4 : Nat) (0 : Nat) (0 : Nat)),
                    Obj.row (3 : Nat) []] ∧
              True ∧
                loopCode (Env.P N2) (26 : Nat) (10 : Nat) = loopCode (Env.P N2) (26 : Nat) (10 : Nat) ∧
                  ∃ (a_2 : Int),
                    sp (71 : Nat)
                          [((0 : Nat), AV.ptr (0 : Nat) (0 : Nat) [] (0 : Nat)),
                            ((2 : Nat), AV.lit (Value.int IntKind.i64 a)), ((7 : Nat), AV.mp (2 : Nat)),
                            ((10 : Nat), AV.ptr (3 : Nat) (0 : Nat) [] (0 : Nat)),
                            ((11 : Nat), AV.clo (37 : Nat) [AV.ptr (3 : Nat) (0 : Nat) [] (0 : Nat)]),
                            ((12 : Nat), AV.lit (Value.int IntKind.i64 (0 : Int))),
                            ((13 : Nat), AV.lit (Value.bool false))]
                          [Obj.box (42 : Nat) (AV.agg [AV.slc (1 : Nat) (0 : Nat) (1 : Nat), AV.lit (Value.map none)]),
                            Obj.row (25 : Nat) [AV.lst (3 : Nat) [AV.lit (Value.int IntKind.i64 (0 : Int))]],
                            Dn.Obj.map (3 : Nat) (3 : Nat) [],
                            Obj.box (25 : Nat) (AV.slc (4 : Nat) (0 : Nat) (1 : Nat)),
                            Obj.row (3 : Nat) [AV.lit (Value.int IntKind.i64 (0 : Int))]] =
                        sp (71 : Nat)
                          [((0 : Nat), AV.ptr (0 : Nat) (0 : Nat) [] (0 : Nat)),
                            ((2 : Nat), AV.lit (Value.int IntKind.i64 a_2)), ((7 : Nat), AV.mp (2 : Nat)),
                            ((10 : Nat), AV.ptr (3 : Nat) (0 : Nat) [] (0 : Nat)),
                            ((11 : Nat), AV.clo (37 : Nat) [AV.ptr (3 : Nat) (0 : Nat) [] (0 : Nat)]),
                            ((12 : Nat), AV.lit (Value.int IntKind.i64 (0 : Int))),
                            ((13 : Nat), AV.lit (Value.bool false))]
                          [Obj.box (42 : Nat) (AV.agg [AV.slc (1 : Nat) (0 : Nat) (1 : Nat), AV.lit (Value.map none)]),
                            Obj.row (25 : Nat) [AV.lst (3 : Nat) [AV.lit (Value.int IntKind.i64 (0 : Int))]],
                            Dn.Obj.map (3 : Nat) (3 : Nat) [],
                            Obj.box (25 : Nat) (AV.slc (4 : Nat) (0 : Nat) (1 : Nat)),
                            Obj.row (3 : Nat) [AV.lit (Value.int IntKind.i64 (0 : Int))]] ∧
                      True ∧
                        loopCode (Env.P N4) (26 : Nat) (14 : Nat) = loopCode (Env.P N4) (26 : Nat) (14 : Nat) ∧
                          ∃ (a : N14),
                            sp (71 : Nat)
                                  [((10 : Nat), AV.ptr (2 : Nat) (0 : Nat) [] (0 : Nat)),
                                    ((11 : Nat), AV.clo (37 : Nat) [AV.ptr (2 : Nat) (0 : Nat) [] (0 : Nat)]),
                                    ((61 : Nat), AV.lit (Value.int IntKind.i64 a_2)),
                                    ((62 : Nat), AV.lit (Value.int IntKind.i64 (0 : Int)))]
                                  [Obj.box (42 : Nat)
                                      (AV.agg [AV.slc (1 : Nat) (0 : Nat) (1 : Nat), AV.lit (Value.map none)]),
                                    Obj.row (25 : Nat) [AV.lst (3 : Nat) [AV.lit (Value.int IntKind.i64 (0 : Int))]],
                                    Obj.box (25 : Nat) (AV.slc (3 : Nat) (0 : Nat) (1 : Nat)),
                                    Obj.row (3 : Nat) [AV.lit (Value.int IntKind.i64 (0 : Int))]] =
                                sp (71 : Nat)
                                  [((10 : Nat), AV.ptr (2 : Nat) (0 : Nat) [] (0 : Nat)),
                                    ((11 : Nat), AV.clo (37 : Nat) [AV.ptr (2 : Nat) (0 : Nat) [] (0 : Nat)]),
                                    ((61 : Nat), AV.lit (Value.int IntKind.i64 (N14.c a))),
                                    ((62 : Nat), AV.lit (Value.int IntKind.i64 (N14.k a)))]
                                  [Obj.box (42 : Nat)
                                      (AV.agg [AV.slc (1 : Nat) (0 : Nat) (1 : Nat), AV.lit (Value.map none)]),
                                    Obj.row (25 : Nat) [AV.lst (3 : Nat) [AV.lit (Value.int IntKind.i64 (0 : Int))]],
                                    Obj.box (25 : Nat) (AV.slc (3 : Nat) (0 : Nat) (List.length (N14.o a))),
                                    Obj.row (3 : Nat) (mkI (N14.o a))] ∧
                              ((0 : Int) ≤ N14.k a ∧
                                  N14.c a ≤ (8 : Int) ∧
                                    Cols (N14.c a) (N14.o a) ∧
                                      ∀ (x : Int), (0 : Int) ≤ x → x < N14.k a → x < N14.c a → List.Mem x (N14.o a)) ∧
                                ∀ (y : List Int),
                                  ((∃ (t : List Int), y = N14.o a ++ t) ∧
                                      Cols (N14.c a) y ∧ ∀ (x : Int), (0 : Int) ≤ x → x < N14.c a → List.Mem x y) →
                                    K (AV.lst (3 : Nat) (List.take (List.length y) (List.drop (0 : Nat) (mkI y))))
                                      [Obj.box (42 : Nat)
                                          (AV.agg [AV.slc (1 : Nat) (0 : Nat) (1 : Nat), AV.lit (Value.map none)]),
                                        Obj.row (25 : Nat)
                                          [AV.lst (3 : Nat) [AV.lit (Value.int IntKind.i64 (0 : Int))]]]) := by kernel_rfl


theorem cN : CallOk N5 12 26 (callE stcN (fun c => 1 ≤ c ∧ c ≤ 8) outcN) := by
  refine callE_ok ?_
  rintro c K ⟨h1, h2⟩ ho
  rw [yN]
  refine ⟨rfl, c, rfl, trivial, rfl, (), rfl, trivial, rfl, c, rfl, trivial, rfl, ⟨c, 0, [0]⟩, rfl, ⟨Int.le_refl _, h2, ⟨by simp, fun x hx => ?_⟩, fun x h0 hx => by simp only at hx; omega⟩, fun o ho' => ?_⟩
  · simp only [List.mem_singleton] at hx; subst hx; exact ⟨Int.le_refl _, by simp only; omega⟩
  · have := ho o ⟨ho'.2.1, ho'.2.2⟩
    rw [List.drop_zero, take_mkI]
    exact this

noncomputable def N6 : Env := N5.addCall 26 (callE stcN (fun c => 1 ≤ c ∧ c ≤ 8) outcN)
theorem n6 : EnvOK N6 := n5.addCall nm5 cN
theorem nm6 : EnvMono N6 := nm5.addCall callE_mono

/-! ### no chains -/
structure NO where
  c : Int
  ps : List (Int × Int)

def stNO (a : NO) : S := sp 56 [(0, .int a.c), (6, .ptr 0 0 [] 0), (7, .slc 2 0 0), (19, .int 0), (20, .int 0)] [.box 42 (.agg [.lst 25 [], .mp 1]), .map 3 3 (mkM a.ps), .row 25 []]
def outNO (a : NO) : Out (Exit × S) := .one (.exit 0, sp 56 [(0, .int a.c), (7, .slc 0 0 0)] [.row 25 []])

theorem xNO (a : NO) (I : Nat → S → Prop) (n : Nat) (K : Exit → S → Prop) : (vc N6 12 14 none 0 (loopCode Try.prog 14 6) (stNO a) (loopK N6 14 6 0 I n K)) = (
  K (Exit.exit (0 : Nat))
  (sp (56 : Nat)
    [((0 : Nat), AV.lit (Value.int IntKind.i64 (NO.c a))), ((7 : Nat), AV.slc (0 : Nat) (0 : Nat) (0 : Nat))]
    [Obj.row (25 : Nat) []])) := by kernel_rfl


theorem lNO : LoopOk N6 12 14 6 (loopE 0 stNO (fun _ => True) outNO) := by
  refine loopE_ok (fun _ => 0) ?_
  intro c K _ ho
  rw [show N6.P = Try.prog from rfl, xNO]
  exact ho

noncomputable def N7 : Env := N6.addLoop 14 6 (loopE 0 stNO (fun _ => True) outNO)
theorem n7 : EnvOK N7 := n6.addLoop nm6 lNO
theorem nm7 : EnvMono N7 := nm6.addLoop loopE_mono

def stcO (c : Int) : List AV × List Dn.Obj := ([.int c, .lst 25 []], [])

theorem yO (c : Int) (K : AV → List Dn.Obj → Prop) : (funA N7 12 14 (stcO c).1 (stcO c).2 K) = (
  brn (!rightI c [])
  (K (AV.tup [AV.lit (Value.slice none (0 : Nat) (0 : Nat)), AV.lit (Value.int IntKind.i64 (110 : Int))]) [])
  (∃ (a : List AV),
    ([AV.lst (25 : Nat) []], nilO) = ([AV.lst (25 : Nat) a], nilO) ∧
      fitB a = true ∧
        ∀ (y : List (Int × Int)),
          (WfP (List.length a) y ∧ ∃ (Z : Nat → Prop), Part (edgeL a) (List.length a) (List.length a) (bP y) Z) →
            loopCode (Env.P N6) (14 : Nat) (6 : Nat) = loopCode (Env.P N6) (14 : Nat) (6 : Nat) ∧
              ∃ (a_2 : NO),
                sp (56 : Nat)
                      [((0 : Nat), AV.lit (Value.int IntKind.i64 c)),
                        ((6 : Nat), AV.ptr (0 : Nat) (0 : Nat) [] (0 : Nat)),
                        ((7 : Nat), AV.slc (2 : Nat) (0 : Nat) (0 : Nat)),
                        ((19 : Nat), AV.lit (Value.int IntKind.i64 (0 : Int))),
                        ((20 : Nat), AV.lit (Value.int IntKind.i64 (0 : Int)))]
                      [Obj.box (42 : Nat) (AV.agg [AV.lst (25 : Nat) a, AV.mp (1 : Nat)]),
                        Dn.Obj.map (3 : Nat) (3 : Nat) (mkM y), Obj.row (25 : Nat) []] =
                    sp (56 : Nat)
                      [((0 : Nat), AV.lit (Value.int IntKind.i64 (NO.c a_2))),
                        ((6 : Nat), AV.ptr (0 : Nat) (0 : Nat) [] (0 : Nat)),
                        ((7 : Nat), AV.slc (2 : Nat) (0 : Nat) (0 : Nat)),
                        ((19 : Nat), AV.lit (Value.int IntKind.i64 (0 : Int))),
                        ((20 : Nat), AV.lit (Value.int IntKind.i64 (0 : Int)))]
                      [Obj.box (42 : Nat) (AV.agg [AV.lst (25 : Nat) [], AV.mp (1 : Nat)]),
                        Dn.Obj.map (3 : Nat) (3 : Nat) (mkM (NO.ps a_2)), Obj.row (25 : Nat) []] ∧
                  True ∧
                    ∃ (a : Int),
                      ([AV.ptr (0 : Nat) (0 : Nat) [] (0 : Nat), AV.lit (Value.int IntKind.i64 (0 : Int)),
                              AV.lit (Value.int IntKind.i64 (NO.c a_2))],
                            [Obj.box (42 : Nat)
                                (AV.agg [AV.slc (1 : Nat) (0 : Nat) (1 : Nat), AV.lit (Value.map none)]),
                              Obj.row (25 : Nat) [AV.lst (3 : Nat) [AV.lit (Value.int IntKind.i64 (0 : Int))]]]) =
                          ([AV.ptr (0 : Nat) (0 : Nat) [] (0 : Nat), AV.lit (Value.int IntKind.i64 (0 : Int)),
                              AV.lit (Value.int IntKind.i64 a)],
                            [Obj.box (42 : Nat)
                                (AV.agg [AV.slc (1 : Nat) (0 : Nat) (1 : Nat), AV.lit (Value.map none)]),
                              Obj.row (25 : Nat) [AV.lst (3 : Nat) [AV.lit (Value.int IntKind.i64 (0 : Int))]]]) ∧
                        ((1 : Int) ≤ a ∧ a ≤ (8 : Int)) ∧
                          ∀ (y : List Int),
                            (Cols a y ∧ ∀ (x : Int), (0 : Int) ≤ x → x < a → List.Mem x y) →
                              K
                                (AV.tup
                                  [AV.slc (0 : Nat) (0 : Nat) (1 : Nat), AV.lit (Value.int IntKind.i64 (0 : Int))])
                                [Obj.row (25 : Nat) [AV.lst (3 : Nat) (mkI y)]])) := by kernel_rfl


/-- Orders that cover the sets, as few as can be, and one at least. -/
structure CoverO (c : Int) (l : List AV) (os : List (List Int)) : Prop where
  len : ∃ w, Width l w ∧ os.length = max 1 w
  whole : ∀ o, o ∈ os → WholeI c o
  each : ∀ k, k < l.length → ∃ o, o ∈ os ∧ SrvI o (setL l k)

noncomputable def outO (a : Int × List AV) : Out (AV × List Dn.Obj) :=
  .brn (rightI a.1 (rows a.2)) (.all (CoverO a.1 a.2) fun os => .one (.tup [.slc 0 0 os.length, .int 0], [.row 25 (mkL os)])) (.one (.tup [.nil, .int 110], []))

noncomputable def spO : CallSpec := callE stc11 (fun a => fitB a.2 = true) outO

theorem cO (c : Int) (K : AV → List Dn.Obj → Prop) (ho : (outO (c, [])).run fun x => K x.1 x.2) : funA N7 12 14 [.int c, .lst 25 []] [] K := by
  have := yO c K
  rw [show funA N7 12 14 [.int c, .lst 25 []] [] K = funA N7 12 14 (stcO c).1 (stcO c).2 K from rfl, this]
  simp only [outO, Out.run, brn_iff] at ho
  refine brn_iff.2 ⟨fun hr => ho.2 (show rightI c [] = false by simpa using hr), fun hr => ?_⟩
  have hr' : rightI c (rows []) = true := (show rightI c [] = true by simpa using hr)
  obtain ⟨⟨h1, h2⟩, _⟩ := right_iff.1 hr'
  refine ⟨[], rfl, rfl, fun ps _ => ⟨rfl, ⟨c, ps⟩, rfl, trivial, c, rfl, ⟨h1, h2⟩, fun o hw => ?_⟩⟩
  exact ho.1 hr' [o] ⟨⟨0, width_nil, rfl⟩, fun o' ho' => by
    simp only [List.mem_singleton] at ho'; subst ho'; exact ⟨hw.1, hw.2⟩, fun k hk => by simp at hk⟩

theorem sO (args : List AV) (st : List Dn.Obj) (K : AV → List Dn.Obj → Prop) (h : spO args st K) : SimCall Try.prog 14 args st K := by
  obtain ⟨⟨c, l⟩, e, h1, ho⟩ := h
  simp only [stc11, Prod.mk.injEq] at e
  obtain ⟨rfl, rfl⟩ := e
  by_cases hl : l = []
  · subst hl
    exact fun_sound n7 nm7 (cO c K ho)
  · have hpos : 0 < l.length := List.length_pos_iff.2 hl
    refine fun_sound e14 m14 (c14 _ _ _ ⟨(c, l), rfl, ⟨h1, hpos⟩, ?_⟩)
    simp only [outO, outc14, Out.run, brn_iff] at ho ⊢
    refine ⟨fun hr os hos => ho.1 hr os ⟨⟨_, hos.len, ?_⟩, hos.whole, hos.each⟩, ho.2⟩
    have hz := hos.len.2 (fun k => k == 0) (fun i j hi hj hqi hqj => by
      simp only [beq_iff_eq] at hqi hqj
      subst hqi; subst hqj
      cases he : edgeL l 0 0 with
      | false => rfl
      | true => have := edge_rank l 0 0 he; omega)
    have h0 : num (fun k => k == 0) l.length = 1 := num_one hpos
    simp only [h0] at hz
    omega

noncomputable def H14 : Env := F12.addCall 14 spO
theorem eH14 : EnvOK H14 := eF12.addSim sO
theorem mH14 : EnvMono H14 := mF12.addCall callE_mono

end Go.Proofs.Ytpjkphcfkpcfgaa

/-
  Whole.
-/
namespace Go.Proofs.Ytpjkphcfkpcfgaa
open Go Go.Dn Go.Proofs

theorem whole_length {c : Int} {o : List Int} (hc : 0 ≤ c) (h : WholeI c o) : (o.length : Int) = c := by
  have h1 := h.1.len
  have h2 : ((List.range c.toNat).map fun k : Nat => (k : Int)).length ≤ o.length := nodup_len (by
    rw [List.Nodup, List.pairwise_map]
    exact List.nodup_range.imp (fun h e => h (by omega))) (fun x hx => by
    obtain ⟨k, hk, rfl⟩ := List.mem_map.1 hx
    have := List.mem_range.1 hk
    exact h.2 k (by omega) (by omega))
  simp only [List.length_map, List.length_range] at h2
  omega

theorem nth_mkL (os : List (List Int)) (i : Nat) (hi : i < os.length) : toLst (nth (mkL os) i) = mkI (os[i]) := by
  rw [nth_get _ _ (by rw [len_mkL]; exact hi)]
  simp [mkL, toLst]
theorem toInt_mkI (o : List Int) (k : Nat) (hk : k < o.length) : toInt (nth (mkI o) k) = o[k] := by
  rw [nth_get _ _ (by rw [len_mkI]; exact hk)]
  simp [mkI, toInt]

structure A16 where
  c : Int
  os : List (List Int)
  i : Int
  k : Int
  ms : List Bool

def good16 (a : A16) : Prop := (1 ≤ a.c ∧ a.c ≤ 8) ∧ a.os.length ≤ 1000 ∧ ∀ o, o ∈ a.os → WholeI a.c o
def st168 (a : A16) : S := sp 52 [(0, .int a.c), (1, .lst 25 (mkL a.os)), (5, .int a.i), (6, .slc 0 0 (mkT a.ms).length), (7, .int a.k)] [.row 4 (mkT a.ms)]
def side168 (a : A16) : Prop := good16 a ∧ 0 ≤ a.i ∧ a.i < a.os.length ∧ 0 ≤ a.k ∧ a.k ≤ a.c ∧ (a.ms.length : Int) = a.c ∧ ∀ j : Nat, mL a.ms j = true → (j : Int) ∈ (a.os.getD a.i.toNat []).take a.k.toNat
def out168 (a : A16) : Out (Exit × S) := .one (.exit 2, sp 52 [(0, .int a.c), (1, .lst 25 (mkL a.os)), (5, .int a.i)] [])

theorem x168 (a : A16) (I : Nat → S → Prop) (n : Nat) (K : Exit → S → Prop) : (vc H14 12 16 none 0 (loopCode Try.prog 16 8) (st168 a) (loopK H14 16 8 0 I n K)) = (
  brn (decide (A16.k a < A16.c a))
  (cnd (decide ((0 : Int) ≤ A16.i a) && decide (A16.i a < (↑(List.length (mkL (A16.os a))) : Int)))
    (cnd
      (decide ((0 : Int) ≤ A16.k a) &&
        decide (A16.k a < (↑(List.length (toLst (nth (mkL (A16.os a)) (Int.toNat (A16.i a))))) : Int)))
      (brn (decide (toInt (nth (toLst (nth (mkL (A16.os a)) (Int.toNat (A16.i a)))) (Int.toNat (A16.k a))) < (0 : Int)))
        (K Exit.ret (sp (52 : Nat) [((4 : Nat), AV.lit (Value.bool false))] []))
        (brn (decide (toInt (nth (toLst (nth (mkL (A16.os a)) (Int.toNat (A16.i a)))) (Int.toNat (A16.k a))) ≥ A16.c a))
          (K Exit.ret (sp (52 : Nat) [((4 : Nat), AV.lit (Value.bool false))] []))
          (cnd
            (decide
                ((0 : Int) ≤ toInt (nth (toLst (nth (mkL (A16.os a)) (Int.toNat (A16.i a)))) (Int.toNat (A16.k a)))) &&
              decide
                (toInt (nth (toLst (nth (mkL (A16.os a)) (Int.toNat (A16.i a)))) (Int.toNat (A16.k a))) <
                  (↑(List.length (mkT (A16.ms a))) : Int)))
            (brn
              (Dn.toBool
                (nth (mkT (A16.ms a))
                  ((0 : Nat) +
                    Int.toNat
                      (toInt (nth (toLst (nth (mkL (A16.os a)) (Int.toNat (A16.i a)))) (Int.toNat (A16.k a)))))))
              (K Exit.ret (sp (52 : Nat) [((4 : Nat), AV.lit (Value.bool false))] []))
              (cnd
                (decide
                    ((0 : Int) ≤
                      toInt (nth (toLst (nth (mkL (A16.os a)) (Int.toNat (A16.i a)))) (Int.toNat (A16.k a)))) &&
                  decide
                    (toInt (nth (toLst (nth (mkL (A16.os a)) (Int.toNat (A16.i a)))) (Int.toNat (A16.k a))) <
                      (↑(List.length (mkT (A16.ms a))) : Int)))
                (∃ (m : Nat),
                  m < n ∧
                    I m
                      (sp (52 : Nat)
                        [((0 : Nat), AV.lit (Value.int IntKind.i64 (A16.c a))),
                          ((1 : Nat), AV.lst (25 : Nat) (mkL (A16.os a))),
                          ((5 : Nat), AV.lit (Value.int IntKind.i64 (A16.i a))),
                          ((6 : Nat), AV.slc (0 : Nat) (0 : Nat) (List.length (mkT (A16.ms a)))),
                          ((7 : Nat), AV.lit (Value.int IntKind.i64 (IntKind.wrap IntKind.i64 (A16.k a + (1 : Int)))))]
                        [Obj.row (4 : Nat)
                            (setN (mkT (A16.ms a))
                              ((0 : Nat) +
                                Int.toNat
                                  (toInt
                                    (nth (toLst (nth (mkL (A16.os a)) (Int.toNat (A16.i a)))) (Int.toNat (A16.k a)))))
                              (AV.lit (Value.bool true)))])))))))))
  (K (Exit.exit (2 : Nat))
    (sp (52 : Nat)
      [((0 : Nat), AV.lit (Value.int IntKind.i64 (A16.c a))), ((1 : Nat), AV.lst (25 : Nat) (mkL (A16.os a))),
        ((5 : Nat), AV.lit (Value.int IntKind.i64 (A16.i a)))]
      []))) := by kernel_rfl


theorem l168 : LoopOk H14 12 16 8 (loopE 0 st168 side168 out168) := by
  refine loopE_ok (fun a => (a.c - a.k).toNat) ?_
  rintro ⟨c, os, i, k, ms⟩ K ⟨⟨⟨hc1, hc8⟩, hos, hw⟩, h2, h3, h4, h5, h6, h7⟩ ho
  rw [show H14.P = Try.prog from rfl, x168]
  simp only at hc1 hc8 hos hw h2 h3 h4 h5 h6 h7 ⊢
  obtain ⟨i, rfl⟩ := Int.eq_ofNat_of_zero_le h2
  obtain ⟨k, rfl⟩ := Int.eq_ofNat_of_zero_le h4
  have hi : i < os.length := by omega
  simp only [Int.toNat_natCast, List.getD_eq_getElem?_getD, List.getElem?_eq_getElem hi, Option.getD_some] at h7
  have hwo := hw os[i] (List.getElem_mem hi)
  have hlen := whole_length (by omega) hwo
  simp only [brn_iff, cnd_iff, decide_eq_true_eq, decide_eq_false_iff_not, Bool.and_eq_true, Int.toNat_natCast, nth_mkL os i hi, len_mkL, len_mkI, len_mkT, Nat.zero_add]
  refine ⟨fun hk => ?_, fun hk => ho⟩
  have hko : k < (os[i]).length := by omega
  rw [toInt_mkI _ k hko]
  have hx := hwo.1.in_ _ (List.getElem_mem hko)
  refine ⟨⟨h2, h3⟩, ⟨h4, by omega⟩, fun hneg => by omega, fun _ => ⟨fun hge => by omega, fun _ => ⟨⟨hx.1, by omega⟩, fun hm => ?_, fun hm => ⟨⟨hx.1, by omega⟩, ?_⟩⟩⟩⟩
  · rw [nth_mkT] at hm
    have hmem := h7 _ hm
    rw [Int.toNat_of_nonneg hx.1, List.mem_take_iff_getElem] at hmem
    obtain ⟨j, hj, e⟩ := hmem
    exfalso
    have := (List.getElem_inj hwo.1.once).1 e
    omega
  · rw [wrap_ok (by omega) (by omega), setN_mkT]
    have e : sp 52 [(0, AV.int c), (1, .lst 25 (mkL os)), (5, .int i), (6, .slc 0 0 ms.length), (7, .int ((k : Int) + 1))] [Obj.row 4 (mkT (ms.set (os[i][k]).toNat true))] = st168 ⟨c, os, i, (k : Int) + 1, ms.set (os[i][k]).toNat true⟩ := by
      simp only [st168, len_mkT, List.length_set]
    refine ⟨_, ?_, ⟨c, os, i, (k : Int) + 1, ms.set (os[i][k]).toNat true⟩, e, ⟨⟨⟨hc1, hc8⟩, hos, hw⟩, h2, h3, by simp only; omega, by simp only; omega, by simp only [List.length_set]; exact h6, fun j hj => ?_⟩, rfl, ho⟩
    · simp only; omega
    · simp only [Int.toNat_natCast, List.getD_eq_getElem?_getD, List.getElem?_eq_getElem hi, Option.getD_some] at hj ⊢
      rw [show ((k : Int) + 1).toNat = k + 1 by omega, List.take_succ_eq_append_getElem hko]
      unfold mL at hj
      rw [getD_set _ _ _ _ (by omega)] at hj
      by_cases ej : j = (os[i][k]).toNat
      · rw [ej, Int.toNat_of_nonneg hx.1]; exact List.mem_append_right _ (List.mem_singleton.2 rfl)
      · rw [if_neg ej] at hj
        exact List.mem_append_left _ (h7 j hj)

noncomputable def E168 : Env := H14.addLoop 16 8 (loopE 0 st168 side168 out168)
theorem e168 : EnvOK E168 := eH14.addLoop mH14 l168
theorem m168 : EnvMono E168 := mH14.addLoop loopE_mono

def st162 (a : A16) : S := sp 52 [(0, .int a.c), (1, .lst 25 (mkL a.os)), (5, .int a.i)] []
def side162 (a : A16) : Prop := good16 a ∧ 0 ≤ a.i ∧ a.i ≤ a.os.length
def out162 (_ : A16) : Out (Exit × S) := .one (.exit 0, sp 52 [] [])

theorem x162 (a : A16) (I : Nat → S → Prop) (n : Nat) (K : Exit → S → Prop) : (vc E168 12 16 none 0 (loopCode Try.prog 16 2) (st162 a) (loopK E168 16 2 0 I n K)) = (
  brn (decide (A16.i a < (↑(List.length (mkL (A16.os a))) : Int)))
  (cnd
    (decide ((0 : Int) ≤ A16.c a) && decide (A16.c a ≤ A16.c a) &&
        decide ((Int.toNat (A16.c a) + (1 : Nat)) * (2 : Nat) ≤ (70368744177664 : Nat)) &&
      true)
    (cnd (decide ((0 : Int) ≤ A16.i a) && decide (A16.i a < (↑(List.length (mkL (A16.os a))) : Int)))
      (brn ((↑(List.length (toLst (nth (mkL (A16.os a)) (Int.toNat (A16.i a))))) : Int) != A16.c a)
        (K Exit.ret (sp (52 : Nat) [((4 : Nat), AV.lit (Value.bool false))] []))
        (loopCode (Env.P H14) (16 : Nat) (8 : Nat) = loopCode (Env.P H14) (16 : Nat) (8 : Nat) ∧
          ∃ (a_1 : A16),
            sp (52 : Nat)
                  [((0 : Nat), AV.lit (Value.int IntKind.i64 (A16.c a))),
                    ((1 : Nat), AV.lst (25 : Nat) (mkL (A16.os a))),
                    ((5 : Nat), AV.lit (Value.int IntKind.i64 (A16.i a))),
                    ((6 : Nat), AV.slc (0 : Nat) (0 : Nat) (Int.toNat (A16.c a))),
                    ((7 : Nat), AV.lit (Value.int IntKind.i64 (0 : Int)))]
                  [Obj.row (4 : Nat) (zerosA (AV.lit (Value.bool false)) (Int.toNat (A16.c a)))] =
                sp (52 : Nat)
                  [((0 : Nat), AV.lit (Value.int IntKind.i64 (A16.c a_1))),
                    ((1 : Nat), AV.lst (25 : Nat) (mkL (A16.os a_1))),
                    ((5 : Nat), AV.lit (Value.int IntKind.i64 (A16.i a_1))),
                    ((6 : Nat), AV.slc (0 : Nat) (0 : Nat) (List.length (mkT (A16.ms a_1)))),
                    ((7 : Nat), AV.lit (Value.int IntKind.i64 (A16.k a_1)))]
                  [Obj.row (4 : Nat) (mkT (A16.ms a_1))] ∧
              ((((1 : Int) ≤ A16.c a_1 ∧ A16.c a_1 ≤ (8 : Int)) ∧
                    List.length (A16.os a_1) ≤ (1000 : Nat) ∧
                      ∀ (o : List Int),
                        List.Mem o (A16.os a_1) →
                          Cols (A16.c a_1) o ∧ ∀ (x : Int), (0 : Int) ≤ x → x < A16.c a_1 → List.Mem x o) ∧
                  (0 : Int) ≤ A16.i a_1 ∧
                    A16.i a_1 < (↑(List.length (A16.os a_1)) : Int) ∧
                      (0 : Int) ≤ A16.k a_1 ∧
                        A16.k a_1 ≤ A16.c a_1 ∧
                          (↑(List.length (A16.ms a_1)) : Int) = A16.c a_1 ∧
                            ∀ (j : Nat),
                              mL (A16.ms a_1) j = true →
                                List.Mem (↑j : Int)
                                  (List.take (Int.toNat (A16.k a_1))
                                    (List.getD (A16.os a_1) (Int.toNat (A16.i a_1)) []))) ∧
                ∃ (m : Nat),
                  m < n ∧
                    I m
                      (sp (52 : Nat)
                        [((0 : Nat), AV.lit (Value.int IntKind.i64 (A16.c a_1))),
                          ((1 : Nat), AV.lst (25 : Nat) (mkL (A16.os a_1))),
                          ((5 : Nat),
                            AV.lit (Value.int IntKind.i64 (IntKind.wrap IntKind.i64 (A16.i a_1 + (1 : Int)))))]
                        [])))))
  (K (Exit.exit (0 : Nat)) (sp (52 : Nat) [] []))) := by kernel_rfl


theorem l162 : LoopOk E168 12 16 2 (loopE 0 st162 side162 out162) := by
  refine loopE_ok (fun a => a.os.length - a.i.toNat) ?_
  rintro ⟨c, os, i, k, ms⟩ K ⟨⟨⟨hc1, hc8⟩, hos, hw⟩, h2, h3⟩ ho
  rw [show E168.P = Try.prog from rfl, x162]
  simp only at hc1 hc8 hos hw h2 h3 ⊢
  obtain ⟨i, rfl⟩ := Int.eq_ofNat_of_zero_le h2
  simp only [brn_iff, cnd_iff, decide_eq_true_eq, decide_eq_false_iff_not, Bool.and_eq_true, Int.toNat_natCast, len_mkL, Nat.zero_add]
  refine ⟨fun hi => ?_, fun hi => ho⟩
  have hil : i < os.length := by omega
  have hwo := hw os[i] (List.getElem_mem hil)
  have hlen := whole_length (by omega) hwo
  refine ⟨⟨⟨⟨by omega, Int.le_refl _⟩, by omega⟩, trivial⟩, ⟨h2, hi⟩, fun hne => ?_, fun _ => ⟨trivial, ⟨c, os, i, 0, List.replicate c.toNat false⟩, ?_, ⟨⟨⟨hc1, hc8⟩, hos, hw⟩, h2, hi, Int.le_refl _, by simp only; omega, by simp only [List.length_replicate]; omega, fun j hj => ?_⟩, ?_⟩⟩
  · exfalso
    rw [nth_mkL os i hil, len_mkI, hlen] at hne
    simp at hne
  · simp only [st168, len_mkT, List.length_replicate]
    rw [mkT_zeros]
  · rw [mL_zeros] at hj; cases hj
  · rw [wrap_ok (by simp only; omega) (by simp only; omega)]
    refine ⟨_, ?_, ⟨c, os, (i : Int) + 1, k, ms⟩, rfl, ⟨⟨⟨hc1, hc8⟩, hos, hw⟩, by simp only; omega, by simp only; omega⟩, rfl, ho⟩
    simp only; omega

noncomputable def E162 : Env := E168.addLoop 16 2 (loopE 0 st162 side162 out162)
theorem e162 : EnvOK E162 := e168.addLoop m168 l162
theorem m162 : EnvMono E162 := m168.addLoop loopE_mono

def stc16 (a : Int × List (List Int)) : List AV × List Dn.Obj := ([.int a.1, .lst 25 (mkL a.2)], [])

theorem y16 (a : Int × List (List Int)) (K : AV → List Dn.Obj → Prop) : (funA E162 12 16 (stc16 a).1 (stc16 a).2 K) = (
  loopCode (Env.P E168) (16 : Nat) (2 : Nat) = loopCode (Env.P E168) (16 : Nat) (2 : Nat) ∧
  ∃ (a_1 : A16),
    sp (52 : Nat)
          [((0 : Nat), AV.lit (Value.int IntKind.i64 (Prod.fst a))), ((1 : Nat), AV.lst (25 : Nat) (mkL (Prod.snd a))),
            ((5 : Nat), AV.lit (Value.int IntKind.i64 (0 : Int)))]
          [] =
        sp (52 : Nat)
          [((0 : Nat), AV.lit (Value.int IntKind.i64 (A16.c a_1))), ((1 : Nat), AV.lst (25 : Nat) (mkL (A16.os a_1))),
            ((5 : Nat), AV.lit (Value.int IntKind.i64 (A16.i a_1)))]
          [] ∧
      ((((1 : Int) ≤ A16.c a_1 ∧ A16.c a_1 ≤ (8 : Int)) ∧
            List.length (A16.os a_1) ≤ (1000 : Nat) ∧
              ∀ (o : List Int),
                List.Mem o (A16.os a_1) →
                  Cols (A16.c a_1) o ∧ ∀ (x : Int), (0 : Int) ≤ x → x < A16.c a_1 → List.Mem x o) ∧
          (0 : Int) ≤ A16.i a_1 ∧ A16.i a_1 ≤ (↑(List.length (A16.os a_1)) : Int)) ∧
        K (AV.lit (Value.bool true)) []) := by kernel_rfl


def sidec16 (a : Int × List (List Int)) : Prop := (1 ≤ a.1 ∧ a.1 ≤ 8) ∧ a.2.length ≤ 1000 ∧ ∀ o, o ∈ a.2 → WholeI a.1 o
def outc16 (_ : Int × List (List Int)) : Out (AV × List Dn.Obj) := .one (.bool true, [])

theorem c16 : CallOk E162 12 16 (callE stc16 sidec16 outc16) := by
  refine callE_ok ?_
  rintro ⟨c, os⟩ K h1 ho
  rw [y16]
  exact ⟨rfl, ⟨c, os, 0, 0, []⟩, rfl, ⟨h1, Int.le_refl _, by simp only; omega⟩, ho⟩

noncomputable def H16 : Env := E162.addCall 16 (callE stc16 sidec16 outc16)
theorem eH16 : EnvOK H16 := e162.addCall m162 c16
theorem mH16 : EnvMono H16 := m162.addCall callE_mono

/-! ### Laws -/
noncomputable def G16 : Env := { H16 with quiet := fun f => memN f [15] }
theorem eG16 : EnvOK G16 := ⟨eH16.prog, eH16.pcall, eH16.call, eH16.loop⟩
theorem mG16 : EnvMono G16 := ⟨mH16.call, mH16.loop⟩

end Go.Proofs.Ytpjkphcfkpcfgaa

/-
  CoverOrders.
-/
namespace Go.Proofs.Ytpjkphcfkpcfgaa
open Go Go.Dn Go.Proofs

def stL8 (a : AL3) : S := sp 111 [(0, .int a.c), (1, .slc 0 0 a.l.length), (5, .bool true), (6, .int a.i)] [.row 25 a.l]
def outL8 (a : AL3) : Out (Exit × S) := .all (fun m : List AV => fitB m = true ∧ m.length ≤ 70) fun m => .one (.exit 0, sp 111 [(0, .int a.c), (1, .slc 0 0 m.length), (5, .bool true)] [.row 25 m])

theorem xL8 (a : AL3) (I : Nat → S → Prop) (n : Nat) (K : Exit → S → Prop) : (vc G16 12 8 none 0 (loopCode Try.prog 8 4) (stL8 a) (loopK G16 8 4 0 I n K)) = (
  brn (decide (AL3.i a < (↑(List.length (AL3.l a)) : Int)))
  (cnd (decide ((0 : Int) ≤ AL3.i a) && decide (AL3.i a < (↑(List.length (AL3.l a)) : Int)))
    (cnd (decide ((0 : Int) ≤ AL3.i a) && decide (AL3.i a < (↑(List.length (AL3.l a)) : Int)))
      (cnd
        (true &&
            decide
              ((0 : Int) ≤
                if (10 : Int) < (↑(List.length (toLst (nth (AL3.l a) ((0 : Nat) + Int.toNat (AL3.i a))))) : Int) then
                  (10 : Int)
                else (↑(List.length (toLst (nth (AL3.l a) ((0 : Nat) + Int.toNat (AL3.i a))))) : Int)) &&
          decide
            ((if (10 : Int) < (↑(List.length (toLst (nth (AL3.l a) ((0 : Nat) + Int.toNat (AL3.i a))))) : Int) then
                (10 : Int)
              else (↑(List.length (toLst (nth (AL3.l a) ((0 : Nat) + Int.toNat (AL3.i a))))) : Int)) ≤
              (↑(List.length (toLst (nth (AL3.l a) ((0 : Nat) + Int.toNat (AL3.i a))))) : Int)))
        (cnd (decide ((0 : Int) ≤ AL3.i a) && decide (AL3.i a < (↑(List.length (AL3.l a)) : Int)))
          (∃ (m : Nat),
            m < n ∧
              I m
                (sp (111 : Nat)
                  [((0 : Nat), AV.lit (Value.int IntKind.i64 (AL3.c a))),
                    ((1 : Nat), AV.slc (0 : Nat) (0 : Nat) (List.length (AL3.l a))),
                    ((5 : Nat), AV.lit (Value.bool true)),
                    ((6 : Nat), AV.lit (Value.int IntKind.i64 (IntKind.wrap IntKind.i64 (AL3.i a + (1 : Int)))))]
                  [Obj.row (25 : Nat)
                      (setN (AL3.l a) ((0 : Nat) + Int.toNat (AL3.i a))
                        (AV.lst (3 : Nat)
                          (List.drop (0 : Nat)
                            (List.take
                              (Int.toNat
                                (if
                                    (10 : Int) <
                                      (↑(List.length (toLst (nth (AL3.l a) ((0 : Nat) + Int.toNat (AL3.i a))))) :
                                        Int) then
                                  (10 : Int)
                                else (↑(List.length (toLst (nth (AL3.l a) ((0 : Nat) + Int.toNat (AL3.i a))))) : Int)))
                              (toLst (nth (AL3.l a) ((0 : Nat) + Int.toNat (AL3.i a))))))))]))))))
  (K (Exit.exit (0 : Nat))
    (sp (111 : Nat)
      [((0 : Nat), AV.lit (Value.int IntKind.i64 (AL3.c a))),
        ((1 : Nat), AV.slc (0 : Nat) (0 : Nat) (List.length (AL3.l a))), ((5 : Nat), AV.lit (Value.bool true))]
      [Obj.row (25 : Nat) (AL3.l a)]))) := by kernel_rfl


theorem lL8 : LoopOk G16 12 8 4 (loopE 0 stL8 sideL3 outL8) := by
  refine loopE_ok (fun a => a.l.length - a.i.toNat) ?_
  rintro ⟨c, l, i⟩ K ⟨⟨h1, h1'⟩, h2, h3⟩ ho
  rw [show G16.P = Try.prog from rfl, xL8]
  simp only at h1 h1' h2 h3 ⊢
  obtain ⟨i, rfl⟩ := Int.eq_ofNat_of_zero_le h2
  simp only [brn_iff, cnd_iff, decide_eq_true_eq, decide_eq_false_iff_not, Bool.and_eq_true, Int.toNat_natCast, Nat.zero_add, List.drop_zero]
  refine ⟨fun hi => ?_, fun hi => ho l ⟨h1, h1'⟩⟩
  have hr := fit_row h1 (i := i) (by omega)
  have c1 : (0 : Int) ≤ i ∧ (i : Int) < l.length := ⟨h2, hi⟩
  refine ⟨c1, c1, ⟨⟨trivial, ?_⟩, ?_⟩, c1, ?_⟩
  · split <;> omega
  · split <;> omega
  · rw [wrap_ok (by omega) (by omega)]
    have e : ∀ r, sp 111 [(0, AV.int c), (1, .slc 0 0 l.length), (5, .bool true), (6, .int (i + 1))] [Obj.row 25 (setN l i r)] = stL8 ⟨c, setN l i r, i + 1⟩ := fun r => by simp only [stL8, setN_length]
    refine ⟨_, ?_, ⟨c, setN l i (.lst 3 _), i + 1⟩, e _, ⟨⟨fit_setN h1 (by rw [List.length_take]; omega) i, by simp only [setN_length]; exact h1'⟩, by simp only; omega, by simp only [setN_length]; omega⟩, rfl, ho⟩
    · simp only [setN_length]; omega

noncomputable def EL8 : Env := G16.addLoop 8 4 (loopE 0 stL8 sideL3 outL8)
theorem eL8 : EnvOK EL8 := eG16.addLoop mG16 lL8
theorem mEL8 : EnvMono EL8 := mG16.addLoop loopE_mono

theorem fit_mkL {c : Int} {os : List (List Int)} (h1 : os.length ≤ 1000) (hc : 0 ≤ c ∧ c ≤ 8) (h2 : ∀ o, o ∈ os → WholeI c o) : fitB (mkL os) = true := by
  simp only [fitB, Bool.and_eq_true, decide_eq_true_eq, List.all_eq_true]
  refine ⟨by rw [len_mkL]; simp only [maxI]; omega, fun x hx => ?_⟩
  obtain ⟨o, ho, rfl⟩ := List.mem_map.1 hx
  have := whole_length hc.1 (h2 o ho)
  show (mkI o).length ≤ maxI
  rw [len_mkI]; simp only [maxI]; omega

theorem serves_of {o s : List Int} (h : SrvI o s) : servesI o s = true := by
  simp only [servesI, Bool.and_eq_true, decide_eq_true_eq, withinI, List.all_eq_true, hasI, List.contains_iff_mem]
  exact ⟨h.1, h.2.1, h.2.2⟩

theorem rows_mkL (os : List (List Int)) : rows (mkL os) = os := by
  simp only [rows, mkL, List.map_map]
  exact (List.map_congr_left fun o _ => ints_mkI o).trans (List.map_id _)

theorem which_of {c : Int} {l : List AV} {os : List (List Int)} (h : CoverO c l os) {i : Nat} (hi : i < l.length) : (whichI (rows (mkL os)) (ints (toLst (nth l i)))).2 = true := by
  obtain ⟨o, h1, h2⟩ := h.each i hi
  have : (rows (mkL os)).any (fun o => servesI o (ints (toLst (nth l i)))) = true := by
    rw [rows_mkL, List.any_eq_true]; exact ⟨o, h1, serves_of h2⟩
  simp only [whichI, this, if_true]

structure A8 where
  c : Int
  l : List AV
  os : List (List Int)
  i : Int

def st8 (a : A8) : S := sp 111 [(1, .slc 0 0 a.l.length), (5, .bool true), (9, .slc 1 0 (mkL a.os).length), (11, .int a.i)] [.frz 25 a.l, .frz 25 (mkL a.os)]
def side8 (a : A8) : Prop := (fitB a.l = true ∧ a.l.length ≤ 70) ∧ fitB (mkL a.os) = true ∧ CoverO a.c a.l a.os ∧ 0 ≤ a.i ∧ a.i ≤ a.l.length
def out8 (_ : A8) : Out (Exit × S) := .one (.exit 2, sp 111 [(5, .bool true)] [])

theorem x8 (a : A8) (I : Nat → S → Prop) (n : Nat) (K : Exit → S → Prop) : (vc EL8 12 8 none 0 (loopCode Try.prog 8 14) (st8 a) (loopK EL8 8 14 0 I n K)) = (
  brn (decide (A8.i a < (↑(List.length (A8.l a)) : Int)))
  (cnd (decide ((0 : Int) ≤ A8.i a) && decide (A8.i a < (↑(List.length (A8.l a)) : Int)))
    ((fitB (List.take (List.length (mkL (A8.os a))) (List.drop (0 : Nat) (mkL (A8.os a)))) = true ∧
        List.length (toLst (nth (A8.l a) ((0 : Nat) + Int.toNat (A8.i a)))) ≤ (9223372036854775807 : Nat)) ∧
      cnd (decide ((0 : Int) ≤ A8.i a) && decide (A8.i a < (↑(List.length (A8.l a)) : Int)))
        ((fitB (List.take (List.length (mkL (A8.os a))) (List.drop (0 : Nat) (mkL (A8.os a)))) = true ∧
            List.length (toLst (nth (A8.l a) ((0 : Nat) + Int.toNat (A8.i a)))) ≤ (9223372036854775807 : Nat)) ∧
          brn
            (!Prod.snd
                (whichI (rows (List.take (List.length (mkL (A8.os a))) (List.drop (0 : Nat) (mkL (A8.os a)))))
                  (ints (toLst (nth (A8.l a) ((0 : Nat) + Int.toNat (A8.i a)))))))
            (K Exit.ret (sp (111 : Nat) [((4 : Nat), AV.lit (Value.bool false))] []))
            (brn
              (!Prod.snd
                  (whichI (rows (List.take (List.length (mkL (A8.os a))) (List.drop (0 : Nat) (mkL (A8.os a)))))
                    (ints (toLst (nth (A8.l a) ((0 : Nat) + Int.toNat (A8.i a)))))))
              (K Exit.ret (sp (111 : Nat) [((4 : Nat), AV.lit (Value.bool false))] []))
              (∃ (m : Nat),
                m < n ∧
                  I m
                    (sp (111 : Nat)
                      [((1 : Nat), AV.slc (0 : Nat) (0 : Nat) (List.length (A8.l a))),
                        ((5 : Nat), AV.lit (Value.bool true)),
                        ((9 : Nat), AV.slc (1 : Nat) (0 : Nat) (List.length (mkL (A8.os a)))),
                        ((11 : Nat), AV.lit (Value.int IntKind.i64 (IntKind.wrap IntKind.i64 (A8.i a + (1 : Int)))))]
                      [Obj.frz (25 : Nat) (A8.l a), Obj.frz (25 : Nat) (mkL (A8.os a))]))))))
  (K (Exit.exit (2 : Nat)) (sp (111 : Nat) [((5 : Nat), AV.lit (Value.bool true))] []))) := by kernel_rfl


theorem l8 : LoopOk EL8 12 8 14 (loopE 0 st8 side8 out8) := by
  refine loopE_ok (fun a => a.l.length - a.i.toNat) ?_
  rintro ⟨c, l, os, i⟩ K ⟨⟨h1, h1'⟩, h2, h3, h4, h5⟩ ho
  rw [show EL8.P = Try.prog from rfl, x8]
  simp only at h1 h1' h2 h3 h4 h5 ⊢
  obtain ⟨i, rfl⟩ := Int.eq_ofNat_of_zero_le h4
  simp only [brn_iff, cnd_iff, decide_eq_true_eq, decide_eq_false_iff_not, Bool.and_eq_true, Int.toNat_natCast, Nat.zero_add, List.drop_zero, List.take_length, Bool.not_eq_true', Bool.not_eq_false']
  refine ⟨fun hi => ?_, fun hi => ho⟩
  have hil : i < l.length := by omega
  have hr := fit_row h1 hil
  have hw := which_of h3 hil
  refine ⟨⟨h4, hi⟩, ⟨h2, hr⟩, ⟨h4, hi⟩, ⟨h2, hr⟩, fun hn => (by rw [hw] at hn; cases hn), fun _ => ⟨fun hn => (by rw [hw] at hn; cases hn), fun _ => ?_⟩⟩
  rw [wrap_ok (by omega) (by omega)]
  refine ⟨_, ?_, ⟨c, l, os, (i : Int) + 1⟩, rfl, ⟨⟨h1, h1'⟩, h2, h3, by simp only; omega, by simp only; omega⟩, rfl, ho⟩
  simp only; omega

noncomputable def E8 : Env := EL8.addLoop 8 14 (loopE 0 st8 side8 out8)
theorem e8 : EnvOK E8 := eL8.addLoop mEL8 l8
theorem m8 : EnvMono E8 := mEL8.addLoop loopE_mono

def stc8 (a : Int × List AV) : List AV × List Dn.Obj := ([.int a.1, .lst 25 a.2], [])

theorem y8 (a : Int × List AV) (K : AV → List Dn.Obj → Prop) : (funA E8 12 8 (stc8 a).1 (stc8 a).2 K) = (
  (True ∧
    cnd
      (decide
        (((0 : Nat) + List.length (List.take (70 : Nat) (Prod.snd a)) + (1 : Nat)) * (25 : Nat) ≤
          (70368744177664 : Nat)))
      (loopCode (Env.P G16) (8 : Nat) (4 : Nat) = loopCode (Env.P G16) (8 : Nat) (4 : Nat) ∧
        ∃ (a_1 : AL3),
          sp (111 : Nat)
                [((0 : Nat), AV.lit (Value.int IntKind.i64 (Prod.fst a))),
                  ((1 : Nat), AV.slc (0 : Nat) (0 : Nat) ((0 : Nat) + List.length (List.take (70 : Nat) (Prod.snd a)))),
                  ((5 : Nat), AV.lit (Value.bool true)), ((6 : Nat), AV.lit (Value.int IntKind.i64 (0 : Int)))]
                [Obj.row (25 : Nat) ([] ++ List.take (70 : Nat) (Prod.snd a))] =
              sp (111 : Nat)
                [((0 : Nat), AV.lit (Value.int IntKind.i64 (AL3.c a_1))),
                  ((1 : Nat), AV.slc (0 : Nat) (0 : Nat) (List.length (AL3.l a_1))),
                  ((5 : Nat), AV.lit (Value.bool true)), ((6 : Nat), AV.lit (Value.int IntKind.i64 (AL3.i a_1)))]
                [Obj.row (25 : Nat) (AL3.l a_1)] ∧
            ((fitB (AL3.l a_1) = true ∧ List.length (AL3.l a_1) ≤ (70 : Nat)) ∧
                (0 : Int) ≤ AL3.i a_1 ∧ AL3.i a_1 ≤ (↑(List.length (AL3.l a_1)) : Int)) ∧
              ∀ (y : List AV),
                fitB y = true ∧ List.length y ≤ (70 : Nat) →
                  ∃ (a : Int × List AV),
                    ([AV.lit (Value.int IntKind.i64 (AL3.c a_1)),
                            AV.lst (25 : Nat) (List.take (List.length y) (List.drop (0 : Nat) y))],
                          nilO) =
                        ([AV.lit (Value.int IntKind.i64 (Prod.fst a)), AV.lst (25 : Nat) (Prod.snd a)], nilO) ∧
                      (fitB (Prod.snd a) = true ∧ List.length (Prod.snd a) ≤ (1000 : Nat)) ∧
                        brn (rightI (Prod.fst a) (rows (Prod.snd a)))
                          (∀ (y_1 : Nat),
                            ((∃ (q : Nat → Bool),
                                  (∀ (i j : Nat),
                                      i < List.length (Prod.snd a) →
                                        j < List.length (Prod.snd a) →
                                          q i = true → q j = true → edgeL (Prod.snd a) i j = false) ∧
                                    y_1 ≤ num q (List.length (Prod.snd a))) ∧
                                ∀ (q : Nat → Bool),
                                  (∀ (i j : Nat),
                                      i < List.length (Prod.snd a) →
                                        j < List.length (Prod.snd a) →
                                          q i = true → q j = true → edgeL (Prod.snd a) i j = false) →
                                    num q (List.length (Prod.snd a)) ≤ y_1) →
                              ∃ (a : Int × List AV),
                                ([AV.lit (Value.int IntKind.i64 (AL3.c a_1)),
                                        AV.lst (25 : Nat) (List.take (List.length y) (List.drop (0 : Nat) y))],
                                      nilO) =
                                    ([AV.lit (Value.int IntKind.i64 (Prod.fst a)), AV.lst (25 : Nat) (Prod.snd a)],
                                      nilO) ∧
                                  fitB (Prod.snd a) = true ∧
                                    brn (rightI (Prod.fst a) (rows (Prod.snd a)))
                                      (∀ (y_2 : List (List Int)),
                                        CoverO (Prod.fst a) (Prod.snd a) y_2 →
                                          brn ((↑(List.length y_2) : Int) != (↑(max (1 : Nat) y_1) : Int))
                                            (K (AV.lit (Value.bool false)) [])
                                            (∃ (a : Int × List (List Int)),
                                              ([AV.lit (Value.int IntKind.i64 (AL3.c a_1)),
                                                      AV.lst (25 : Nat)
                                                        (List.take (List.length y_2) (List.drop (0 : Nat) (mkL y_2)))],
                                                    nilO) =
                                                  ([AV.lit (Value.int IntKind.i64 (Prod.fst a)),
                                                      AV.lst (25 : Nat) (mkL (Prod.snd a))],
                                                    nilO) ∧
                                                (((1 : Int) ≤ Prod.fst a ∧ Prod.fst a ≤ (8 : Int)) ∧
                                                    List.length (Prod.snd a) ≤ (1000 : Nat) ∧
                                                      ∀ (o : List Int),
                                                        List.Mem o (Prod.snd a) →
                                                          Cols (Prod.fst a) o ∧
                                                            ∀ (x : Int),
                                                              (0 : Int) ≤ x → x < Prod.fst a → List.Mem x o) ∧
                                                  loopCode (Env.P EL8) (8 : Nat) (14 : Nat) =
                                                      loopCode (Env.P EL8) (8 : Nat) (14 : Nat) ∧
                                                    ∃ (a : A8),
                                                      sp (111 : Nat)
                                                            [((1 : Nat), AV.slc (0 : Nat) (0 : Nat) (List.length y)),
                                                              ((5 : Nat), AV.lit (Value.bool true)),
                                                              ((9 : Nat), AV.slc (1 : Nat) (0 : Nat) (List.length y_2)),
                                                              ((11 : Nat), AV.lit (Value.int IntKind.i64 (0 : Int)))]
                                                            [Obj.frz (25 : Nat) y, Obj.frz (25 : Nat) (mkL y_2)] =
                                                          sp (111 : Nat)
                                                            [((1 : Nat),
                                                                AV.slc (0 : Nat) (0 : Nat) (List.length (A8.l a))),
                                                              ((5 : Nat), AV.lit (Value.bool true)),
                                                              ((9 : Nat),
                                                                AV.slc (1 : Nat) (0 : Nat)
                                                                  (List.length (mkL (A8.os a)))),
                                                              ((11 : Nat), AV.lit (Value.int IntKind.i64 (A8.i a)))]
                                                            [Obj.frz (25 : Nat) (A8.l a),
                                                              Obj.frz (25 : Nat) (mkL (A8.os a))] ∧
                                                        ((fitB (A8.l a) = true ∧ List.length (A8.l a) ≤ (70 : Nat)) ∧
                                                            fitB (mkL (A8.os a)) = true ∧
                                                              CoverO (A8.c a) (A8.l a) (A8.os a) ∧
                                                                (0 : Int) ≤ A8.i a ∧
                                                                  A8.i a ≤ (↑(List.length (A8.l a)) : Int)) ∧
                                                          K (AV.lit (Value.bool true)) []))
                                      (K (AV.lit (Value.bool false)) []))
                          (∃ (a : Int × List AV),
                            ([AV.lit (Value.int IntKind.i64 (AL3.c a_1)),
                                    AV.lst (25 : Nat) (List.take (List.length y) (List.drop (0 : Nat) y))],
                                  nilO) =
                                ([AV.lit (Value.int IntKind.i64 (Prod.fst a)), AV.lst (25 : Nat) (Prod.snd a)], nilO) ∧
                              fitB (Prod.snd a) = true ∧
                                brn (rightI (Prod.fst a) (rows (Prod.snd a)))
                                  (∀ (y : List (List Int)),
                                    CoverO (Prod.fst a) (Prod.snd a) y → K (AV.lit (Value.bool false)) [])
                                  (K (AV.lit (Value.bool true)) [])))) ∧
  True ∧
    cnd
      (decide
        (((0 : Nat) + List.length (List.take (70 : Nat) (Prod.snd a)) + (1 : Nat)) * (25 : Nat) ≤
          (70368744177664 : Nat)))
      (loopCode (Env.P G16) (8 : Nat) (4 : Nat) = loopCode (Env.P G16) (8 : Nat) (4 : Nat) ∧
        ∃ (a_1 : AL3),
          sp (111 : Nat)
                [((0 : Nat), AV.lit (Value.int IntKind.i64 (Prod.fst a))),
                  ((1 : Nat), AV.slc (0 : Nat) (0 : Nat) ((0 : Nat) + List.length (List.take (70 : Nat) (Prod.snd a)))),
                  ((5 : Nat), AV.lit (Value.bool true)), ((6 : Nat), AV.lit (Value.int IntKind.i64 (0 : Int)))]
                [Obj.row (25 : Nat) ([] ++ List.take (70 : Nat) (Prod.snd a))] =
              sp (111 : Nat)
                [((0 : Nat), AV.lit (Value.int IntKind.i64 (AL3.c a_1))),
                  ((1 : Nat), AV.slc (0 : Nat) (0 : Nat) (List.length (AL3.l a_1))),
                  ((5 : Nat), AV.lit (Value.bool true)), ((6 : Nat), AV.lit (Value.int IntKind.i64 (AL3.i a_1)))]
                [Obj.row (25 : Nat) (AL3.l a_1)] ∧
            ((fitB (AL3.l a_1) = true ∧ List.length (AL3.l a_1) ≤ (70 : Nat)) ∧
                (0 : Int) ≤ AL3.i a_1 ∧ AL3.i a_1 ≤ (↑(List.length (AL3.l a_1)) : Int)) ∧
              ∀ (y : List AV),
                fitB y = true ∧ List.length y ≤ (70 : Nat) →
                  ∃ (a : Int × List AV),
                    ([AV.lit (Value.int IntKind.i64 (AL3.c a_1)),
                            AV.lst (25 : Nat) (List.take (List.length y) (List.drop (0 : Nat) y))],
                          nilO) =
                        ([AV.lit (Value.int IntKind.i64 (Prod.fst a)), AV.lst (25 : Nat) (Prod.snd a)], nilO) ∧
                      (fitB (Prod.snd a) = true ∧ List.length (Prod.snd a) ≤ (1000 : Nat)) ∧
                        brn (rightI (Prod.fst a) (rows (Prod.snd a)))
                          (∀ (y_1 : Nat),
                            ((∃ (q : Nat → Bool),
                                  (∀ (i j : Nat),
                                      i < List.length (Prod.snd a) →
                                        j < List.length (Prod.snd a) →
                                          q i = true → q j = true → edgeL (Prod.snd a) i j = false) ∧
                                    y_1 ≤ num q (List.length (Prod.snd a))) ∧
                                ∀ (q : Nat → Bool),
                                  (∀ (i j : Nat),
                                      i < List.length (Prod.snd a) →
                                        j < List.length (Prod.snd a) →
                                          q i = true → q j = true → edgeL (Prod.snd a) i j = false) →
                                    num q (List.length (Prod.snd a)) ≤ y_1) →
                              ∃ (a : Int × List AV),
                                ([AV.lit (Value.int IntKind.i64 (AL3.c a_1)),
                                        AV.lst (25 : Nat) (List.take (List.length y) (List.drop (0 : Nat) y))],
                                      nilO) =
                                    ([AV.lit (Value.int IntKind.i64 (Prod.fst a)), AV.lst (25 : Nat) (Prod.snd a)],
                                      nilO) ∧
                                  fitB (Prod.snd a) = true ∧
                                    brn (rightI (Prod.fst a) (rows (Prod.snd a)))
                                      (∀ (y_2 : List (List Int)),
                                        CoverO (Prod.fst a) (Prod.snd a) y_2 →
                                          brn ((↑(List.length y_2) : Int) != (↑(max (1 : Nat) y_1) : Int))
                                            (K (AV.lit (Value.bool false)) [])
                                            (∃ (a : Int × List (List Int)),
                                              ([AV.lit (Value.int IntKind.i64 (AL3.c a_1)),
                                                      AV.lst (25 : Nat)
                                                        (List.take (List.length y_2) (List.drop (0 : Nat) (mkL y_2)))],
                                                    nilO) =
                                                  ([AV.lit (Value.int IntKind.i64 (Prod.fst a)),
                                                      AV.lst (25 : Nat) (mkL (Prod.snd a))],
                                                    nilO) ∧
                                                (((1 : Int) ≤ Prod.fst a ∧ Prod.fst a ≤ (8 : Int)) ∧
                                                    List.length (Prod.snd a) ≤ (1000 : Nat) ∧
                                                      ∀ (o : List Int),
                                                        List.Mem o (Prod.snd a) →
                                                          Cols (Prod.fst a) o ∧
                                                            ∀ (x : Int),
                                                              (0 : Int) ≤ x → x < Prod.fst a → List.Mem x o) ∧
                                                  loopCode (Env.P EL8) (8 : Nat) (14 : Nat) =
                                                      loopCode (Env.P EL8) (8 : Nat) (14 : Nat) ∧
                                                    ∃ (a : A8),
                                                      sp (111 : Nat)
                                                            [((1 : Nat), AV.slc (0 : Nat) (0 : Nat) (List.length y)),
                                                              ((5 : Nat), AV.lit (Value.bool true)),
                                                              ((9 : Nat), AV.slc (1 : Nat) (0 : Nat) (List.length y_2)),
                                                              ((11 : Nat), AV.lit (Value.int IntKind.i64 (0 : Int)))]
                                                            [Obj.frz (25 : Nat) y, Obj.frz (25 : Nat) (mkL y_2)] =
                                                          sp (111 : Nat)
                                                            [((1 : Nat),
                                                                AV.slc (0 : Nat) (0 : Nat) (List.length (A8.l a))),
                                                              ((5 : Nat), AV.lit (Value.bool true)),
                                                              ((9 : Nat),
                                                                AV.slc (1 : Nat) (0 : Nat)
                                                                  (List.length (mkL (A8.os a)))),
                                                              ((11 : Nat), AV.lit (Value.int IntKind.i64 (A8.i a)))]
                                                            [Obj.frz (25 : Nat) (A8.l a),
                                                              Obj.frz (25 : Nat) (mkL (A8.os a))] ∧
                                                        ((fitB (A8.l a) = true ∧ List.length (A8.l a) ≤ (70 : Nat)) ∧
                                                            fitB (mkL (A8.os a)) = true ∧
                                                              CoverO (A8.c a) (A8.l a) (A8.os a) ∧
                                                                (0 : Int) ≤ A8.i a ∧
                                                                  A8.i a ≤ (↑(List.length (A8.l a)) : Int)) ∧
                                                          K (AV.lit (Value.bool true)) []))
                                      (K (AV.lit (Value.bool false)) []))
                          (∃ (a : Int × List AV),
                            ([AV.lit (Value.int IntKind.i64 (AL3.c a_1)),
                                    AV.lst (25 : Nat) (List.take (List.length y) (List.drop (0 : Nat) y))],
                                  nilO) =
                                ([AV.lit (Value.int IntKind.i64 (Prod.fst a)), AV.lst (25 : Nat) (Prod.snd a)], nilO) ∧
                              fitB (Prod.snd a) = true ∧
                                brn (rightI (Prod.fst a) (rows (Prod.snd a)))
                                  (∀ (y : List (List Int)),
                                    CoverO (Prod.fst a) (Prod.snd a) y → K (AV.lit (Value.bool false)) [])
                                  (K (AV.lit (Value.bool true)) [])))) := by kernel_rfl


theorem c8 (c : Int) (l : List AV) (h1 : fitB l = true) : funA E8 12 8 [.int c, .lst 25 l] [] (fun r _ => r = .bool true) := by
  have := y8 (c, l) (fun r _ => r = .bool true)
  rw [show funA E8 12 8 [.int c, .lst 25 l] [] (fun r _ => r = .bool true) = funA E8 12 8 (stc8 (c, l)).1 (stc8 (c, l)).2 (fun r _ => r = .bool true) from rfl, this]
  have h3 : fitB (List.take 70 l) = true := fit_take h1 70
  have h4 : (List.take 70 l).length ≤ 70 := by rw [List.length_take]; omega
  refine ⟨⟨trivial, ?_⟩, ⟨trivial, ?_⟩⟩
  all_goals
    refine cnd_iff.2 ⟨by rw [decide_eq_true_eq]; simp only; omega, rfl, ⟨c, List.take 70 l, 0⟩, by simp only [stL8, Nat.zero_add, List.nil_append], ⟨⟨h3, h4⟩, Int.le_refl _, by simp only; omega⟩, fun m hm => ?_⟩
    obtain ⟨hm1, hm2⟩ := hm
    refine ⟨(c, m), by rw [List.drop_zero, List.take_length], ⟨hm1, by simp only; omega⟩, brn_iff.2 ⟨fun hr w hw => ?_, fun hr => ?_⟩⟩
    · refine ⟨(c, m), by rw [List.drop_zero, List.take_length], hm1, brn_iff.2 ⟨fun _ os hos => ?_, fun hr' => ?_⟩⟩
      · obtain ⟨w', hw', hl⟩ := hos.len
        obtain rfl := Width.one (l := m) hw hw'
        have hwl : w ≤ 70 := by
          obtain ⟨⟨q, _, g2⟩, _⟩ := hw'
          exact Nat.le_trans g2 (Nat.le_trans (num_le_n q m.length) hm2)
        have hcc := (right_iff.1 (show rightI c (rows m) = true from hr)).1
        have hol : os.length ≤ 1000 := by omega
        refine brn_iff.2 ⟨fun hne => ?_, fun _ => ⟨(c, os), by rw [List.drop_zero, take_mkL], ⟨hcc, hol, hos.whole⟩, rfl, ⟨c, m, os, 0⟩, ?_, ⟨⟨hm1, hm2⟩, fit_mkL hol (by omega) hos.whole, hos, Int.le_refl _, by simp only; omega⟩, ?_⟩⟩
        · rw [hl] at hne; simp at hne
        · simp only [st8, len_mkL]
        · rfl
      · rw [show rightI c (rows m) = true from hr] at hr'; cases hr'
    · refine ⟨(c, m), by rw [List.drop_zero, List.take_length], hm1, brn_iff.2 ⟨fun hr' => ?_, fun _ => rfl⟩⟩
      rw [show rightI c (rows m) = false from hr] at hr'; cases hr'

theorem sim8 (c : Int) (l : List AV) (h1 : fitB l = true) : SimCall Try.prog 8 [.int c, .lst 25 l] [] (fun r _ => r = .bool true) := fun_sound e8 m8 (c8 c l h1)

end Go.Proofs.Ytpjkphcfkpcfgaa

/-
  CoverChain.
-/
namespace Go.Proofs.Ytpjkphcfkpcfgaa
open Go Go.Dn Go.Proofs

/-- The columns that were met, below a number. -/
def colsB (ms : List Bool) : Nat → List Int
  | 0 => []
  | k + 1 => if mL ms k then colsB ms k ++ [(k : Int)] else colsB ms k

theorem colsB_mem {ms : List Bool} : ∀ {k : Nat} {x : Int}, x ∈ colsB ms k ↔ 0 ≤ x ∧ x < k ∧ mL ms x.toNat = true
  | 0, x => by simp only [colsB, List.not_mem_nil, false_iff]; omega
  | k + 1, x => by
    simp only [colsB]
    by_cases h : mL ms k = true
    · rw [if_pos h, List.mem_append, List.mem_singleton, colsB_mem]
      constructor
      · rintro (⟨h1, h2, h3⟩ | rfl)
        · exact ⟨h1, by omega, h3⟩
        · exact ⟨by omega, by omega, by simpa using h⟩
      · rintro ⟨h1, h2, h3⟩
        by_cases e : x = k
        · exact .inr e
        · exact .inl ⟨h1, by omega, h3⟩
    · rw [if_neg h, colsB_mem]
      constructor
      · rintro ⟨h1, h2, h3⟩; exact ⟨h1, by omega, h3⟩
      · rintro ⟨h1, h2, h3⟩
        refine ⟨h1, ?_, h3⟩
        have : x ≠ k := fun e => h (by rw [← h3]; congr 1; omega)
        omega

theorem colsB_len {ms : List Bool} : ∀ {k : Nat}, (colsB ms k).length ≤ k
  | 0 => by simp [colsB]
  | k + 1 => by
    have := colsB_len (ms := ms) (k := k)
    simp only [colsB]
    split
    · simp only [List.length_append, List.length_singleton]; omega
    · omega

theorem climbs_snoc {c k : Int} : ∀ {s : List Int} {p : Int}, climbs c p s = true → (∀ x, x ∈ s → x < k) → p < k → 0 ≤ k → k < c → climbs c p (s ++ [k]) = true
  | [], p, _, _, h1, h2, h3 => by simp [climbs, h1, h2, h3]
  | y :: s, p, h, hx, h1, h2, h3 => by
    simp only [climbs, Bool.and_eq_true, decide_eq_true_eq, List.cons_append] at h ⊢
    exact ⟨h.1, h.2.1, h.2.2.1, climbs_snoc h.2.2.2 (fun x hx' => hx x (by simp [hx'])) (hx y (by simp)) h2 h3⟩

theorem colsB_climbs {c : Nat} {ms : List Bool} : ∀ {k : Nat}, k ≤ c → climbs c (-1) (colsB ms k) = true
  | 0, _ => rfl
  | k + 1, h => by
    simp only [colsB]
    split
    · exact climbs_snoc (colsB_climbs (by omega)) (fun x hx => (colsB_mem.1 hx).2.1) (by omega) (by omega) (by omega)
    · exact colsB_climbs (by omega)

/-- Sets that lie within each other. -/
structure ChainI (c : Nat) (ms : List Bool) (ss : List (List Int)) : Prop where
  len : ms.length = c
  set : ∀ s, s ∈ ss → isSetI c s = true
  met : ∀ s, s ∈ ss → ∀ x, x ∈ s → mL ms x.toNat = true
  up : ss.Pairwise fun a b => insideI a b = true

theorem isSet_spec {c : Int} {s : List Int} (h : isSetI c s = true) : s.Nodup ∧ (∀ x, x ∈ s → 0 ≤ x ∧ x < c) ∧ 0 < s.length := by
  simp only [isSetI, Bool.and_eq_true, decide_eq_true_eq] at h
  obtain ⟨g1, g2⟩ := climbs_spec h.1
  exact ⟨g1, fun x hx => (g2 x hx).2, h.2⟩

theorem ChainI.add {c : Nat} {ms : List Bool} {ss : List (List Int)} (h : ChainI c ms ss) {x : Nat} (hx : x < c) (hm : mL ms x = false) : ChainI c (ms.set x true) (ss ++ [colsB (ms.set x true) c]) := by
  have hl : x < ms.length := by rw [h.len]; exact hx
  have hmx : ∀ j, mL (ms.set x true) j = true ↔ j = x ∨ mL ms j = true := fun j => by
    rw [mL_upd hl]; unfold updF
    by_cases e : j = x <;> simp [e]
  have hxm : (x : Int) ∈ colsB (ms.set x true) c := colsB_mem.2 ⟨by omega, by omega, by rw [hmx]; left; simp⟩
  refine ⟨by rw [List.length_set]; exact h.len, fun s hs => ?_, fun s hs y hy => ?_, ?_⟩
  · rcases List.mem_append.1 hs with hs | hs
    · exact h.set s hs
    · simp only [List.mem_singleton] at hs; subst hs
      simp only [isSetI, Bool.and_eq_true, decide_eq_true_eq]
      exact ⟨colsB_climbs (Nat.le_refl _), List.length_pos_of_mem hxm⟩
  · rcases List.mem_append.1 hs with hs | hs
    · rw [hmx]; exact .inr (h.met s hs y hy)
    · simp only [List.mem_singleton] at hs; subst hs
      exact (colsB_mem.1 hy).2.2
  · refine List.pairwise_append.2 ⟨h.up, List.pairwise_singleton _ _, fun a ha b hb => ?_⟩
    simp only [List.mem_singleton] at hb; subst hb
    obtain ⟨g1, g2, g3⟩ := isSet_spec (h.set a ha)
    have hsub : ∀ y, y ∈ a → y ∈ colsB (ms.set x true) c := fun y hy => colsB_mem.2 ⟨(g2 y hy).1, (g2 y hy).2, by rw [hmx]; exact .inr (h.met a ha y hy)⟩
    have hnx : (x : Int) ∉ a := fun hm' => by
      have := h.met a ha _ hm'
      rw [Int.toNat_natCast, hm] at this; cases this
    have hlen := nodup_len (a := (x : Int) :: a) (b := colsB (ms.set x true) c) (List.nodup_cons.2 ⟨hnx, g1⟩) (fun y hy => by
      rcases List.mem_cons.1 hy with rfl | hy
      · exact hxm
      · exact hsub y hy)
    simp only [insideI, Bool.and_eq_true, decide_eq_true_eq, withinI, List.all_eq_true, hasI, List.contains_iff_mem]
    simp only [List.length_cons] at hlen
    exact ⟨hsub, by omega⟩

theorem num_one_le {q : Nat → Bool} {n : Nat} (h : ∀ i j, i < n → j < n → q i = true → q j = true → i = j) : num q n ≤ 1 :=
  num_inj (q := fun _ => true) (m := 1) (fun _ => 0) (fun _ _ _ => ⟨by omega, rfl⟩) (fun k l hk hl hq hq' _ => h k l hk hl hq hq')

theorem ChainI.edge {c : Nat} {ms : List Bool} {ss : List (List Int)} (h : ChainI c ms ss) {i j : Nat} (hij : i < j) (hj : j < ss.length) : edgeL (mkL ss) i j = true := by
  have := List.pairwise_iff_getElem.1 h.up i j (by omega) hj hij
  simp only [edgeL, nth_mkL ss i (by omega), nth_mkL ss j hj, ints_mkI]
  exact this

theorem ChainI.width {c : Nat} {ms : List Bool} {ss : List (List Int)} (h : ChainI c ms ss) {w : Nat} (hw : Width (mkL ss) w) : w ≤ 1 := by
  obtain ⟨⟨q, h1, h2⟩, _⟩ := hw
  refine Nat.le_trans h2 (num_one_le fun i j hi hj hqi hqj => ?_)
  rw [len_mkL] at hi hj
  rcases Nat.lt_trichotomy i j with hlt | rfl | hlt
  · have := h1 i j (by rw [len_mkL]; exact hi) (by rw [len_mkL]; exact hj) hqi hqj
    rw [h.edge hlt hj] at this; cases this
  · rfl
  · have := h1 j i (by rw [len_mkL]; exact hj) (by rw [len_mkL]; exact hi) hqj hqi
    rw [h.edge hlt hi] at this; cases this

theorem ChainI.right {c : Nat} {ms : List Bool} {ss : List (List Int)} (h : ChainI c ms ss) (h1 : 1 ≤ c) (h8 : c ≤ 8) (hl : ss.length ≤ 60) : rightI c (rows (mkL ss)) = true := by
  rw [rows_mkL, right_iff]
  refine ⟨⟨by omega, by omega⟩, hl, h.set, h.up.imp fun {a b} hab e => ?_⟩
  subst e
  simp only [insideI, Bool.and_eq_true, decide_eq_true_eq] at hab
  omega

theorem ChainI.fit {c : Nat} {ms : List Bool} {ss : List (List Int)} (h : ChainI c ms ss) (h8 : c ≤ 8) (hl : ss.length ≤ 60) : fitB (mkL ss) = true := by
  simp only [fitB, Bool.and_eq_true, decide_eq_true_eq, List.all_eq_true]
  refine ⟨by rw [len_mkL]; simp only [maxI]; omega, fun x hx => ?_⟩
  obtain ⟨o, ho, rfl⟩ := List.mem_map.1 hx
  obtain ⟨g1, g2, _⟩ := isSet_spec (h.set o ho)
  have := (Cols.mk g1 g2).len
  show (mkI o).length ≤ maxI
  rw [len_mkI]; simp only [maxI]; omega

/-! ### The loops -/
structure A6 where
  c : Nat
  l : List AV
  ss : List (List Int)
  ms : List Bool
  i : Int
  k : Int

def st613 (a : A6) : S := sp 129 [(0, .int a.c), (1, .lst 3 a.l), (5, .bool true), (6, .slc 0 0 (mkL a.ss).length), (7, .slc 1 0 (mkT a.ms).length), (8, .int a.i), (9, .slc 2 0 (mkI (colsB a.ms a.k.toNat)).length), (10, .int a.k)] [.row 25 (mkL a.ss), .row 4 (mkT a.ms), .row 3 (mkI (colsB a.ms a.k.toNat))]
def side613 (a : A6) : Prop := (a.c ≤ 8 ∧ a.ms.length = a.c) ∧ 0 ≤ a.k ∧ a.k ≤ a.c
def out613 (a : A6) : Out (Exit × S) := .one (.exit 2, sp 129 [(0, .int a.c), (1, .lst 3 a.l), (5, .bool true), (6, .slc 0 0 (mkL a.ss).length), (7, .slc 1 0 (mkT a.ms).length), (8, .int a.i), (9, .slc 2 0 (mkI (colsB a.ms a.c)).length)] [.row 25 (mkL a.ss), .row 4 (mkT a.ms), .row 3 (mkI (colsB a.ms a.c))])

theorem x613 (a : A6) (I : Nat → S → Prop) (n : Nat) (K : Exit → S → Prop) : (vc G16 12 6 none 0 (loopCode Try.prog 6 13) (st613 a) (loopK G16 6 13 0 I n K)) = (
  brn (decide (A6.k a < (↑(A6.c a) : Int)))
  (cnd (decide ((0 : Int) ≤ A6.k a) && decide (A6.k a < (↑(List.length (mkT (A6.ms a))) : Int)))
    (brn (Dn.toBool (nth (mkT (A6.ms a)) ((0 : Nat) + Int.toNat (A6.k a))))
      (cnd
        (decide
          ((List.length (mkI (colsB (A6.ms a) (Int.toNat (A6.k a)))) + (1 : Nat) + (1 : Nat)) * (9 : Nat) ≤
            (70368744177664 : Nat)))
        (∃ (m : Nat),
          m < n ∧
            I m
              (sp (129 : Nat)
                [((0 : Nat), AV.lit (Value.int IntKind.i64 (↑(A6.c a) : Int))), ((1 : Nat), AV.lst (3 : Nat) (A6.l a)),
                  ((5 : Nat), AV.lit (Value.bool true)),
                  ((6 : Nat), AV.slc (0 : Nat) (0 : Nat) (List.length (mkL (A6.ss a)))),
                  ((7 : Nat), AV.slc (1 : Nat) (0 : Nat) (List.length (mkT (A6.ms a)))),
                  ((8 : Nat), AV.lit (Value.int IntKind.i64 (A6.i a))),
                  ((9 : Nat),
                    AV.slc (2 : Nat) (0 : Nat) (List.length (mkI (colsB (A6.ms a) (Int.toNat (A6.k a)))) + (1 : Nat))),
                  ((10 : Nat), AV.lit (Value.int IntKind.i64 (IntKind.wrap IntKind.i64 (A6.k a + (1 : Int)))))]
                [Obj.row (25 : Nat) (mkL (A6.ss a)), Obj.row (4 : Nat) (mkT (A6.ms a)),
                  Obj.row (3 : Nat)
                    (List.take (List.length (mkI (colsB (A6.ms a) (Int.toNat (A6.k a)))))
                        (mkI (colsB (A6.ms a) (Int.toNat (A6.k a)))) ++
                      [AV.lit (Value.int IntKind.i64 (A6.k a))])])))
      (∃ (m : Nat),
        m < n ∧
          I m
            (sp (129 : Nat)
              [((0 : Nat), AV.lit (Value.int IntKind.i64 (↑(A6.c a) : Int))), ((1 : Nat), AV.lst (3 : Nat) (A6.l a)),
                ((5 : Nat), AV.lit (Value.bool true)),
                ((6 : Nat), AV.slc (0 : Nat) (0 : Nat) (List.length (mkL (A6.ss a)))),
                ((7 : Nat), AV.slc (1 : Nat) (0 : Nat) (List.length (mkT (A6.ms a)))),
                ((8 : Nat), AV.lit (Value.int IntKind.i64 (A6.i a))),
                ((9 : Nat), AV.slc (2 : Nat) (0 : Nat) (List.length (mkI (colsB (A6.ms a) (Int.toNat (A6.k a)))))),
                ((10 : Nat), AV.lit (Value.int IntKind.i64 (IntKind.wrap IntKind.i64 (A6.k a + (1 : Int)))))]
              [Obj.row (25 : Nat) (mkL (A6.ss a)), Obj.row (4 : Nat) (mkT (A6.ms a)),
                Obj.row (3 : Nat) (mkI (colsB (A6.ms a) (Int.toNat (A6.k a))))]))))
  (K (Exit.exit (2 : Nat))
    (sp (129 : Nat)
      [((0 : Nat), AV.lit (Value.int IntKind.i64 (↑(A6.c a) : Int))), ((1 : Nat), AV.lst (3 : Nat) (A6.l a)),
        ((5 : Nat), AV.lit (Value.bool true)), ((6 : Nat), AV.slc (0 : Nat) (0 : Nat) (List.length (mkL (A6.ss a)))),
        ((7 : Nat), AV.slc (1 : Nat) (0 : Nat) (List.length (mkT (A6.ms a)))),
        ((8 : Nat), AV.lit (Value.int IntKind.i64 (A6.i a))),
        ((9 : Nat), AV.slc (2 : Nat) (0 : Nat) (List.length (mkI (colsB (A6.ms a) (Int.toNat (A6.k a))))))]
      [Obj.row (25 : Nat) (mkL (A6.ss a)), Obj.row (4 : Nat) (mkT (A6.ms a)),
        Obj.row (3 : Nat) (mkI (colsB (A6.ms a) (Int.toNat (A6.k a))))]))) := by kernel_rfl


theorem l613 : LoopOk G16 12 6 13 (loopE 0 st613 side613 out613) := by
  refine loopE_ok (fun a => a.c - a.k.toNat) ?_
  rintro ⟨c, l, ss, ms, i, k⟩ K ⟨⟨h1, h1'⟩, h2, h3⟩ ho
  rw [show G16.P = Try.prog from rfl, x613]
  simp only at h1 h1' h2 h3 ⊢
  obtain ⟨k, rfl⟩ := Int.eq_ofNat_of_zero_le h2
  have hcl := colsB_len (ms := ms) (k := k)
  simp only [brn_iff, cnd_iff, decide_eq_true_eq, decide_eq_false_iff_not, Bool.and_eq_true, Int.toNat_natCast, Nat.zero_add, nth_mkT, len_mkT, len_mkI, List.take_length]
  refine ⟨fun hk => ⟨⟨h2, by omega⟩, fun hm => ⟨by omega, ?_⟩, fun hm => ?_⟩, fun hk => ?_⟩
  · rw [wrap_ok (by omega) (by omega)]
    have e : colsB ms (k + 1) = colsB ms k ++ [(k : Int)] := by simp only [colsB, hm, if_true]
    have e2 : sp 129 [(0, AV.int c), (1, .lst 3 l), (5, .bool true), (6, .slc 0 0 (mkL ss).length), (7, .slc 1 0 ms.length), (8, .int i), (9, .slc 2 0 ((colsB ms k).length + 1)), (10, .int ((k : Int) + 1))] [Obj.row 25 (mkL ss), Obj.row 4 (mkT ms), Obj.row 3 (List.take (colsB ms k).length (mkI (colsB ms k)) ++ [AV.int k])] = st613 ⟨c, l, ss, ms, i, (k : Int) + 1⟩ := by
      simp only [st613, show ((k : Int) + 1).toNat = k + 1 by omega, e, take_mkI, mkI_snoc, len_mkI, len_mkT, List.length_append, List.length_singleton]
    refine ⟨_, ?_, ⟨c, l, ss, ms, i, (k : Int) + 1⟩, e2, ⟨⟨h1, h1'⟩, by simp only; omega, by simp only; omega⟩, rfl, ho⟩
    simp only; omega
  · rw [wrap_ok (by omega) (by omega)]
    have e : colsB ms (k + 1) = colsB ms k := by simp only [colsB, hm, if_false, Bool.false_eq_true]
    have e2 : sp 129 [(0, AV.int c), (1, .lst 3 l), (5, .bool true), (6, .slc 0 0 (mkL ss).length), (7, .slc 1 0 ms.length), (8, .int i), (9, .slc 2 0 (colsB ms k).length), (10, .int ((k : Int) + 1))] [Obj.row 25 (mkL ss), Obj.row 4 (mkT ms), Obj.row 3 (mkI (colsB ms k))] = st613 ⟨c, l, ss, ms, i, (k : Int) + 1⟩ := by
      simp only [st613, show ((k : Int) + 1).toNat = k + 1 by omega, e, len_mkI, len_mkT]
    refine ⟨_, ?_, ⟨c, l, ss, ms, i, (k : Int) + 1⟩, e2, ⟨⟨h1, h1'⟩, by simp only; omega, by simp only; omega⟩, rfl, ho⟩
    simp only; omega
  · have : k = c := by omega
    subst this
    simp only [out613, Out.run, len_mkI, len_mkT] at ho
    exact ho

noncomputable def E613 : Env := G16.addLoop 6 13 (loopE 0 st613 side613 out613)
theorem e613 : EnvOK E613 := eG16.addLoop mG16 l613
theorem m613 : EnvMono E613 := mG16.addLoop loopE_mono

def st67 (a : A6) : S := sp 129 [(0, .int a.c), (1, .lst 3 a.l), (5, .bool true), (6, .slc 0 0 (mkL a.ss).length), (7, .slc 1 0 (mkT a.ms).length), (8, .int a.i)] [.row 25 (mkL a.ss), .row 4 (mkT a.ms)]
def side67 (a : A6) : Prop := (a.c ≤ 8 ∧ 0 ≤ a.i ∧ a.i ≤ 8 ∧ a.ss.length ≤ a.i ∧ a.l.length ≤ maxI) ∧ ChainI a.c a.ms a.ss
def out67 (a : A6) : Out (Exit × S) := .all (fun ss : List (List Int) => ss.length ≤ 8 ∧ ∃ ms, ChainI a.c ms ss) fun ss => .one (.exit 0, sp 129 [(0, .int a.c), (5, .bool true), (6, .slc 0 0 (mkL ss).length)] [.row 25 (mkL ss)])

theorem x67 (a : A6) (I : Nat → S → Prop) (n : Nat) (K : Exit → S → Prop) : (vc E613 12 6 none 0 (loopCode Try.prog 6 7) (st67 a) (loopK E613 6 7 0 I n K)) = (
  brn (decide (A6.i a < (↑(List.length (A6.l a)) : Int)))
  (brn (decide (A6.i a < (8 : Int)))
    (cnd (decide ((0 : Int) ≤ A6.i a) && decide (A6.i a < (↑(List.length (A6.l a)) : Int)))
      (brn (decide (toInt (nth (A6.l a) (Int.toNat (A6.i a))) < (0 : Int)))
        (∃ (m : Nat),
          m < n ∧
            I m
              (sp (129 : Nat)
                [((0 : Nat), AV.lit (Value.int IntKind.i64 (↑(A6.c a) : Int))), ((1 : Nat), AV.lst (3 : Nat) (A6.l a)),
                  ((5 : Nat), AV.lit (Value.bool true)),
                  ((6 : Nat), AV.slc (0 : Nat) (0 : Nat) (List.length (mkL (A6.ss a)))),
                  ((7 : Nat), AV.slc (1 : Nat) (0 : Nat) (List.length (mkT (A6.ms a)))),
                  ((8 : Nat), AV.lit (Value.int IntKind.i64 (IntKind.wrap IntKind.i64 (A6.i a + (1 : Int)))))]
                [Obj.row (25 : Nat) (mkL (A6.ss a)), Obj.row (4 : Nat) (mkT (A6.ms a))]))
        (cnd (decide ((0 : Int) ≤ A6.i a) && decide (A6.i a < (↑(List.length (A6.l a)) : Int)))
          (brn (decide (toInt (nth (A6.l a) (Int.toNat (A6.i a))) ≥ (↑(A6.c a) : Int)))
            (∃ (m : Nat),
              m < n ∧
                I m
                  (sp (129 : Nat)
                    [((0 : Nat), AV.lit (Value.int IntKind.i64 (↑(A6.c a) : Int))),
                      ((1 : Nat), AV.lst (3 : Nat) (A6.l a)), ((5 : Nat), AV.lit (Value.bool true)),
                      ((6 : Nat), AV.slc (0 : Nat) (0 : Nat) (List.length (mkL (A6.ss a)))),
                      ((7 : Nat), AV.slc (1 : Nat) (0 : Nat) (List.length (mkT (A6.ms a)))),
                      ((8 : Nat), AV.lit (Value.int IntKind.i64 (IntKind.wrap IntKind.i64 (A6.i a + (1 : Int)))))]
                    [Obj.row (25 : Nat) (mkL (A6.ss a)), Obj.row (4 : Nat) (mkT (A6.ms a))]))
            (cnd (decide ((0 : Int) ≤ A6.i a) && decide (A6.i a < (↑(List.length (A6.l a)) : Int)))
              (cnd
                (decide ((0 : Int) ≤ toInt (nth (A6.l a) (Int.toNat (A6.i a)))) &&
                  decide (toInt (nth (A6.l a) (Int.toNat (A6.i a))) < (↑(List.length (mkT (A6.ms a))) : Int)))
                (brn
                  (Dn.toBool (nth (mkT (A6.ms a)) ((0 : Nat) + Int.toNat (toInt (nth (A6.l a) (Int.toNat (A6.i a)))))))
                  (∃ (m : Nat),
                    m < n ∧
                      I m
                        (sp (129 : Nat)
                          [((0 : Nat), AV.lit (Value.int IntKind.i64 (↑(A6.c a) : Int))),
                            ((1 : Nat), AV.lst (3 : Nat) (A6.l a)), ((5 : Nat), AV.lit (Value.bool true)),
                            ((6 : Nat), AV.slc (0 : Nat) (0 : Nat) (List.length (mkL (A6.ss a)))),
                            ((7 : Nat), AV.slc (1 : Nat) (0 : Nat) (List.length (mkT (A6.ms a)))),
                            ((8 : Nat), AV.lit (Value.int IntKind.i64 (IntKind.wrap IntKind.i64 (A6.i a + (1 : Int)))))]
                          [Obj.row (25 : Nat) (mkL (A6.ss a)), Obj.row (4 : Nat) (mkT (A6.ms a))]))
                  (cnd (decide ((0 : Int) ≤ A6.i a) && decide (A6.i a < (↑(List.length (A6.l a)) : Int)))
                    (cnd
                      (decide ((0 : Int) ≤ toInt (nth (A6.l a) (Int.toNat (A6.i a)))) &&
                        decide (toInt (nth (A6.l a) (Int.toNat (A6.i a))) < (↑(List.length (mkT (A6.ms a))) : Int)))
                      (loopCode (Env.P G16) (6 : Nat) (13 : Nat) = loopCode (Env.P G16) (6 : Nat) (13 : Nat) ∧
                        ∃ (a_1 : A6),
                          sp (129 : Nat)
                                [((0 : Nat), AV.lit (Value.int IntKind.i64 (↑(A6.c a) : Int))),
                                  ((1 : Nat), AV.lst (3 : Nat) (A6.l a)), ((5 : Nat), AV.lit (Value.bool true)),
                                  ((6 : Nat), AV.slc (0 : Nat) (0 : Nat) (List.length (mkL (A6.ss a)))),
                                  ((7 : Nat), AV.slc (1 : Nat) (0 : Nat) (List.length (mkT (A6.ms a)))),
                                  ((8 : Nat), AV.lit (Value.int IntKind.i64 (A6.i a))),
                                  ((9 : Nat), AV.slc (2 : Nat) (0 : Nat) (0 : Nat)),
                                  ((10 : Nat), AV.lit (Value.int IntKind.i64 (0 : Int)))]
                                [Obj.row (25 : Nat) (mkL (A6.ss a)),
                                  Obj.row (4 : Nat)
                                    (setN (mkT (A6.ms a))
                                      ((0 : Nat) + Int.toNat (toInt (nth (A6.l a) (Int.toNat (A6.i a)))))
                                      (AV.lit (Value.bool true))),
                                  Obj.row (3 : Nat) []] =
                              sp (129 : Nat)
                                [((0 : Nat), AV.lit (Value.int IntKind.i64 (↑(A6.c a_1) : Int))),
                                  ((1 : Nat), AV.lst (3 : Nat) (A6.l a_1)), ((5 : Nat), AV.lit (Value.bool true)),
                                  ((6 : Nat), AV.slc (0 : Nat) (0 : Nat) (List.length (mkL (A6.ss a_1)))),
                                  ((7 : Nat), AV.slc (1 : Nat) (0 : Nat) (List.length (mkT (A6.ms a_1)))),
                                  ((8 : Nat), AV.lit (Value.int IntKind.i64 (A6.i a_1))),
                                  ((9 : Nat),
                                    AV.slc (2 : Nat) (0 : Nat)
                                      (List.length (mkI (colsB (A6.ms a_1) (Int.toNat (A6.k a_1)))))),
                                  ((10 : Nat), AV.lit (Value.int IntKind.i64 (A6.k a_1)))]
                                [Obj.row (25 : Nat) (mkL (A6.ss a_1)), Obj.row (4 : Nat) (mkT (A6.ms a_1)),
                                  Obj.row (3 : Nat) (mkI (colsB (A6.ms a_1) (Int.toNat (A6.k a_1))))] ∧
                            ((A6.c a_1 ≤ (8 : Nat) ∧ List.length (A6.ms a_1) = A6.c a_1) ∧
                                (0 : Int) ≤ A6.k a_1 ∧ A6.k a_1 ≤ (↑(A6.c a_1) : Int)) ∧
                              cnd
                                (decide
                                  ((List.length (mkL (A6.ss a_1)) + (1 : Nat) + (1 : Nat)) * (25 : Nat) ≤
                                    (70368744177664 : Nat)))
                                (∃ (m : Nat),
                                  m < n ∧
                                    I m
                                      (sp (129 : Nat)
                                        [((0 : Nat), AV.lit (Value.int IntKind.i64 (↑(A6.c a_1) : Int))),
                                          ((1 : Nat), AV.lst (3 : Nat) (A6.l a_1)),
                                          ((5 : Nat), AV.lit (Value.bool true)),
                                          ((6 : Nat),
                                            AV.slc (0 : Nat) (0 : Nat) (List.length (mkL (A6.ss a_1)) + (1 : Nat))),
                                          ((7 : Nat), AV.slc (1 : Nat) (0 : Nat) (List.length (mkT (A6.ms a_1)))),
                                          ((8 : Nat),
                                            AV.lit
                                              (Value.int IntKind.i64
                                                (IntKind.wrap IntKind.i64 (A6.i a_1 + (1 : Int)))))]
                                        [Obj.row (25 : Nat)
                                            (List.take (List.length (mkL (A6.ss a_1))) (mkL (A6.ss a_1)) ++
                                              [AV.lst (3 : Nat)
                                                  (List.take (List.length (mkI (colsB (A6.ms a_1) (A6.c a_1))))
                                                    (List.drop (0 : Nat) (mkI (colsB (A6.ms a_1) (A6.c a_1)))))]),
                                          Obj.row (4 : Nat) (mkT (A6.ms a_1))]))))))))))))
    (K (Exit.exit (0 : Nat))
      (sp (129 : Nat)
        [((0 : Nat), AV.lit (Value.int IntKind.i64 (↑(A6.c a) : Int))), ((5 : Nat), AV.lit (Value.bool true)),
          ((6 : Nat), AV.slc (0 : Nat) (0 : Nat) (List.length (mkL (A6.ss a))))]
        [Obj.row (25 : Nat) (mkL (A6.ss a))])))
  (K (Exit.exit (0 : Nat))
    (sp (129 : Nat)
      [((0 : Nat), AV.lit (Value.int IntKind.i64 (↑(A6.c a) : Int))), ((5 : Nat), AV.lit (Value.bool true)),
        ((6 : Nat), AV.slc (0 : Nat) (0 : Nat) (List.length (mkL (A6.ss a))))]
      [Obj.row (25 : Nat) (mkL (A6.ss a))]))) := by kernel_rfl


theorem l67 : LoopOk E613 12 6 7 (loopE 0 st67 side67 out67) := by
  refine loopE_ok (fun a => 8 - a.i.toNat) ?_
  rintro ⟨c, l, ss, ms, i, k⟩ K ⟨⟨h1, h2, h3, h4, h0⟩, h5⟩ ho
  rw [show E613.P = Try.prog from rfl, x67]
  simp only at h0 h1 h2 h3 h4 h5 ⊢
  obtain ⟨i, rfl⟩ := Int.eq_ofNat_of_zero_le h2
  have hend : K (.exit 0) (sp 129 [(0, .int c), (5, .bool true), (6, .slc 0 0 (mkL ss).length)] [.row 25 (mkL ss)]) := ho ss ⟨by omega, ms, h5⟩
  simp only [brn_iff, cnd_iff, decide_eq_true_eq, decide_eq_false_iff_not, Bool.and_eq_true, Int.toNat_natCast, Nat.zero_add, nth_mkT, len_mkT]
  refine ⟨fun hi => ⟨fun hi8 => ?_, fun _ => hend⟩, fun _ => hend⟩
  have stay : ∃ m, m < 8 - i ∧ invOf st67 side67 out67 (fun a => 8 - a.i.toNat) K m (st67 ⟨c, l, ss, ms, (i : Int) + 1, k⟩) := by
    refine ⟨_, ?_, _, rfl, ⟨⟨h1, by simp only; omega, by simp only; omega, by simp only; omega, h0⟩, h5⟩, rfl, ho⟩
    simp only; omega
  simp only [st67, len_mkT] at stay
  have hlm := h5.len
  have hw : IntKind.wrap .i64 ((i : Int) + 1) = i + 1 := wrap_ok (by omega) (by omega)
  rw [hw]
  refine ⟨⟨h2, hi⟩, fun hneg => stay, fun hneg => ⟨⟨h2, hi⟩, fun hge => stay, fun hge => ⟨⟨h2, hi⟩, ⟨by omega, by omega⟩, fun hm => stay, fun hm => ⟨⟨h2, hi⟩, ⟨by omega, by omega⟩, trivial, ?_⟩⟩⟩⟩
  obtain ⟨x, hx⟩ := Int.eq_ofNat_of_zero_le (show 0 ≤ toInt (nth l i) by omega)
  rw [hx] at hge hm ⊢
  simp only [Int.toNat_natCast] at hm ⊢
  have hadd := h5.add (x := x) (by omega) hm
  have hcl := colsB_len (ms := ms.set x true) (k := c)
  refine ⟨⟨c, l, ss, ms.set x true, i, 0⟩, ?_, ⟨⟨h1, hadd.len⟩, Int.le_refl _, by simp only; omega⟩, ?_⟩
  · simp only [st613, len_mkT, List.length_set, ← setN_mkT]; rfl
  · refine ⟨by simp only [len_mkL]; omega, ?_⟩
    simp only
    rw [hw]
    have e2 : sp 129 [(0, AV.int c), (1, .lst 3 l), (5, .bool true), (6, .slc 0 0 ((mkL ss).length + 1)), (7, .slc 1 0 (ms.set x true).length), (8, .int ((i : Int) + 1))] [Obj.row 25 (List.take (mkL ss).length (mkL ss) ++ [AV.lst 3 (List.take (mkI (colsB (ms.set x true) c)).length (List.drop 0 (mkI (colsB (ms.set x true) c))))]), Obj.row 4 (mkT (ms.set x true))] = st67 ⟨c, l, ss ++ [colsB (ms.set x true) c], ms.set x true, (i : Int) + 1, k⟩ := by
      simp only [st67, len_mkL, len_mkT, List.length_append, List.length_singleton, List.drop_zero, List.take_length, take_mkL, ← mkL_snoc]
    refine ⟨_, ?_, ⟨c, l, ss ++ [colsB (ms.set x true) c], ms.set x true, (i : Int) + 1, k⟩, e2, ⟨⟨h1, by simp only; omega, by simp only; omega, by simp only [List.length_append, List.length_singleton]; omega, h0⟩, hadd⟩, rfl, ho⟩
    simp only; omega

noncomputable def E67 : Env := E613.addLoop 6 7 (loopE 0 st67 side67 out67)
theorem e67 : EnvOK E67 := e613.addLoop m613 l67
theorem m67 : EnvMono E67 := m613.addLoop loopE_mono

structure A23 where
  c : Nat
  ss : List (List Int)
  os : List (List Int)
  i : Int

def st623 (a : A23) : S := sp 129 [(0, .int a.c), (5, .bool true), (6, .slc 0 0 (mkL a.ss).length), (13, .slc 1 0 (mkL a.os).length), (15, .int a.i)] [.frz 25 (mkL a.ss), .row 25 (mkL a.os)]
def side623 (a : A23) : Prop := (a.c ≤ 8 ∧ a.ss.length ≤ 8 ∧ a.os.length = 1 ∧ fitB (mkL a.ss) = true) ∧ CoverO a.c (mkL a.ss) a.os ∧ 0 ≤ a.i ∧ a.i ≤ a.ss.length
def out623 (a : A23) : Out (Exit × S) := .one (.exit 4, sp 129 [(0, .int a.c), (5, .bool true), (13, .slc 0 0 (mkL a.os).length)] [.row 25 (mkL a.os)])

theorem x623 (a : A23) (I : Nat → S → Prop) (n : Nat) (K : Exit → S → Prop) : (vc E67 12 6 none 0 (loopCode Try.prog 6 23) (st623 a) (loopK E67 6 23 0 I n K)) = (
  brn (decide (A23.i a < (↑(List.length (mkL (A23.ss a))) : Int)))
  (cnd (true && decide ((0 : Int) < (↑(List.length (mkL (A23.os a))) : Int)))
    (cnd (decide ((0 : Int) ≤ A23.i a) && decide (A23.i a < (↑(List.length (mkL (A23.ss a))) : Int)))
      (cnd
        (decide (List.length (toLst (nth (mkL (A23.os a)) (0 : Nat))) ≤ (9223372036854775807 : Nat)) &&
          decide
            (List.length (toLst (nth (mkL (A23.ss a)) ((0 : Nat) + Int.toNat (A23.i a)))) ≤
              (9223372036854775807 : Nat)))
        (brn
          (!servesI (ints (toLst (nth (mkL (A23.os a)) (0 : Nat))))
              (ints (toLst (nth (mkL (A23.ss a)) ((0 : Nat) + Int.toNat (A23.i a))))))
          (K Exit.ret (sp (129 : Nat) [((4 : Nat), AV.lit (Value.bool false))] []))
          (∃ (m : Nat),
            m < n ∧
              I m
                (sp (129 : Nat)
                  [((0 : Nat), AV.lit (Value.int IntKind.i64 (↑(A23.c a) : Int))),
                    ((5 : Nat), AV.lit (Value.bool true)),
                    ((6 : Nat), AV.slc (0 : Nat) (0 : Nat) (List.length (mkL (A23.ss a)))),
                    ((13 : Nat), AV.slc (1 : Nat) (0 : Nat) (List.length (mkL (A23.os a)))),
                    ((15 : Nat), AV.lit (Value.int IntKind.i64 (IntKind.wrap IntKind.i64 (A23.i a + (1 : Int)))))]
                  [Obj.frz (25 : Nat) (mkL (A23.ss a)), Obj.row (25 : Nat) (mkL (A23.os a))]))))))
  (K (Exit.exit (4 : Nat))
    (sp (129 : Nat)
      [((0 : Nat), AV.lit (Value.int IntKind.i64 (↑(A23.c a) : Int))), ((5 : Nat), AV.lit (Value.bool true)),
        ((13 : Nat), AV.slc (0 : Nat) (0 : Nat) (List.length (mkL (A23.os a))))]
      [Obj.row (25 : Nat) (mkL (A23.os a))]))) := by kernel_rfl


theorem l623 : LoopOk E67 12 6 23 (loopE 0 st623 side623 out623) := by
  refine loopE_ok (fun a => a.ss.length - a.i.toNat) ?_
  rintro ⟨c, ss, os, i⟩ K ⟨⟨h1, h1', h2, h0⟩, h3, h4, h5⟩ ho
  rw [show E67.P = Try.prog from rfl, x623]
  simp only at h0 h1 h1' h2 h3 h4 h5 ⊢
  obtain ⟨i, rfl⟩ := Int.eq_ofNat_of_zero_le h4
  simp only [brn_iff, cnd_iff, decide_eq_true_eq, decide_eq_false_iff_not, Bool.and_eq_true, Int.toNat_natCast, Nat.zero_add, len_mkL, Bool.not_eq_true', Bool.not_eq_false']
  refine ⟨fun hi => ?_, fun hi => (by simp only [out623, Out.run, len_mkL] at ho; exact ho)⟩
  have hil : i < ss.length := by omega
  match os, h2 with
  | [o], _ =>
    obtain ⟨o', ho', hs⟩ := h3.each i (by rw [len_mkL]; exact hil)
    simp only [List.mem_singleton] at ho'; subst ho'
    have hlo := whole_length (by omega) (h3.whole o' (by simp))
    have hr := fit_row h0 (i := i) (by rw [len_mkL]; exact hil)
    have hlen : (toLst (nth (mkL [o']) 0)).length ≤ 9223372036854775807 := by
      show (mkI o').length ≤ _
      rw [len_mkI]; omega
    have hsv : servesI (ints (toLst (nth (mkL [o']) 0))) (ints (toLst (nth (mkL ss) i))) = true := by
      show servesI (ints (mkI o')) _ = true
      rw [ints_mkI]; exact serves_of hs
    refine ⟨⟨trivial, by simp⟩, ⟨h4, hi⟩, ⟨hlen, hr⟩, fun hn => (by rw [hsv] at hn; cases hn), fun _ => ?_⟩
    rw [wrap_ok (by omega) (by omega)]
    have e2 : sp 129 [(0, AV.int c), (5, .bool true), (6, .slc 0 0 ss.length), (13, .slc 1 0 [o'].length), (15, .int ((i : Int) + 1))] [Obj.frz 25 (mkL ss), Obj.row 25 (mkL [o'])] = st623 ⟨c, ss, [o'], (i : Int) + 1⟩ := by
      simp only [st623, len_mkL]
    refine ⟨_, ?_, ⟨c, ss, [o'], (i : Int) + 1⟩, e2, ⟨⟨h1, h1', rfl, h0⟩, h3, by simp only; omega, by simp only; omega⟩, rfl, ho⟩
    simp only; omega

noncomputable def E623 : Env := E67.addLoop 6 23 (loopE 0 st623 side623 out623)
theorem e623 : EnvOK E623 := e67.addLoop m67 l623
theorem m623 : EnvMono E623 := m67.addLoop loopE_mono

def stc6 (a : Int × List AV) : List AV × List Dn.Obj := ([.int a.1, .lst 3 a.2], [])

theorem y6 (a : Int × List AV) (K : AV → List Dn.Obj → Prop) : (funA E623 12 6 (stc6 a).1 (stc6 a).2 K) = (
  brn (decide (Prod.fst a < (1 : Int))) (K (AV.lit (Value.bool true)) [])
  (brn (decide (Prod.fst a > (8 : Int))) (K (AV.lit (Value.bool true)) [])
    (cnd
      (decide ((0 : Int) ≤ Prod.fst a) && decide (Prod.fst a ≤ Prod.fst a) &&
          decide ((Int.toNat (Prod.fst a) + (1 : Nat)) * (2 : Nat) ≤ (70368744177664 : Nat)) &&
        true)
      (loopCode (Env.P E613) (6 : Nat) (7 : Nat) = loopCode (Env.P E613) (6 : Nat) (7 : Nat) ∧
        ∃ (a_1 : A6),
          sp (129 : Nat)
                [((0 : Nat), AV.lit (Value.int IntKind.i64 (Prod.fst a))), ((1 : Nat), AV.lst (3 : Nat) (Prod.snd a)),
                  ((5 : Nat), AV.lit (Value.bool true)), ((6 : Nat), AV.slc (0 : Nat) (0 : Nat) (0 : Nat)),
                  ((7 : Nat), AV.slc (1 : Nat) (0 : Nat) (Int.toNat (Prod.fst a))),
                  ((8 : Nat), AV.lit (Value.int IntKind.i64 (0 : Int)))]
                [Obj.row (25 : Nat) [],
                  Obj.row (4 : Nat) (zerosA (AV.lit (Value.bool false)) (Int.toNat (Prod.fst a)))] =
              sp (129 : Nat)
                [((0 : Nat), AV.lit (Value.int IntKind.i64 (↑(A6.c a_1) : Int))),
                  ((1 : Nat), AV.lst (3 : Nat) (A6.l a_1)), ((5 : Nat), AV.lit (Value.bool true)),
                  ((6 : Nat), AV.slc (0 : Nat) (0 : Nat) (List.length (mkL (A6.ss a_1)))),
                  ((7 : Nat), AV.slc (1 : Nat) (0 : Nat) (List.length (mkT (A6.ms a_1)))),
                  ((8 : Nat), AV.lit (Value.int IntKind.i64 (A6.i a_1)))]
                [Obj.row (25 : Nat) (mkL (A6.ss a_1)), Obj.row (4 : Nat) (mkT (A6.ms a_1))] ∧
            ((A6.c a_1 ≤ (8 : Nat) ∧
                  (0 : Int) ≤ A6.i a_1 ∧
                    A6.i a_1 ≤ (8 : Int) ∧
                      (↑(List.length (A6.ss a_1)) : Int) ≤ A6.i a_1 ∧
                        List.length (A6.l a_1) ≤ (9223372036854775807 : Nat)) ∧
                ChainI (A6.c a_1) (A6.ms a_1) (A6.ss a_1)) ∧
              ∀ (y : List (List Int)),
                (List.length y ≤ (8 : Nat) ∧ ∃ (ms : List Bool), ChainI (A6.c a_1) ms y) →
                  ∃ (a : Int × List AV),
                    ([AV.lit (Value.int IntKind.i64 (↑(A6.c a_1) : Int)),
                            AV.lst (25 : Nat) (List.take (List.length (mkL y)) (List.drop (0 : Nat) (mkL y)))],
                          nilO) =
                        ([AV.lit (Value.int IntKind.i64 (Prod.fst a)), AV.lst (25 : Nat) (Prod.snd a)], nilO) ∧
                      fitB (Prod.snd a) = true ∧
                        brn (rightI (Prod.fst a) (rows (Prod.snd a)))
                          (∀ (y_1 : Nat),
                            ((∃ (q : Nat → Bool),
                                  (∀ (i j : Nat),
                                      i < List.length (Prod.snd a) →
                                        j < List.length (Prod.snd a) →
                                          q i = true → q j = true → edgeL (Prod.snd a) i j = false) ∧
                                    y_1 ≤ num q (List.length (Prod.snd a))) ∧
                                ∀ (q : Nat → Bool),
                                  (∀ (i j : Nat),
                                      i < List.length (Prod.snd a) →
                                        j < List.length (Prod.snd a) →
                                          q i = true → q j = true → edgeL (Prod.snd a) i j = false) →
                                    num q (List.length (Prod.snd a)) ≤ y_1) →
                              ∃ (a : Int × List AV),
                                ([AV.lit (Value.int IntKind.i64 (↑(A6.c a_1) : Int)),
                                        AV.lst (25 : Nat)
                                          (List.take (List.length (mkL y)) (List.drop (0 : Nat) (mkL y)))],
                                      nilO) =
                                    ([AV.lit (Value.int IntKind.i64 (Prod.fst a)), AV.lst (25 : Nat) (Prod.snd a)],
                                      nilO) ∧
                                  fitB (Prod.snd a) = true ∧
                                    brn (rightI (Prod.fst a) (rows (Prod.snd a)))
                                      (∀ (y_2 : List (List Int)),
                                        CoverO (Prod.fst a) (Prod.snd a) y_2 →
                                          brn ((↑(max (1 : Nat) y_1) : Int) != (1 : Int))
                                            (K (AV.lit (Value.bool false)) [])
                                            (brn ((↑(List.length y_2) : Int) != (1 : Int))
                                              (K (AV.lit (Value.bool false)) [])
                                              (loopCode (Env.P E67) (6 : Nat) (23 : Nat) =
                                                  loopCode (Env.P E67) (6 : Nat) (23 : Nat) ∧
                                                ∃ (a : A23),
                                                  sp (129 : Nat)
                                                        [((0 : Nat),
                                                            AV.lit (Value.int IntKind.i64 (↑(A6.c a_1) : Int))),
                                                          ((5 : Nat), AV.lit (Value.bool true)),
                                                          ((6 : Nat), AV.slc (0 : Nat) (0 : Nat) (List.length (mkL y))),
                                                          ((13 : Nat), AV.slc (1 : Nat) (0 : Nat) (List.length y_2)),
                                                          ((15 : Nat), AV.lit (Value.int IntKind.i64 (0 : Int)))]
                                                        [Obj.frz (25 : Nat) (mkL y), Obj.row (25 : Nat) (mkL y_2)] =
                                                      sp (129 : Nat)
                                                        [((0 : Nat), AV.lit (Value.int IntKind.i64 (↑(A23.c a) : Int))),
                                                          ((5 : Nat), AV.lit (Value.bool true)),
                                                          ((6 : Nat),
                                                            AV.slc (0 : Nat) (0 : Nat) (List.length (mkL (A23.ss a)))),
                                                          ((13 : Nat),
                                                            AV.slc (1 : Nat) (0 : Nat) (List.length (mkL (A23.os a)))),
                                                          ((15 : Nat), AV.lit (Value.int IntKind.i64 (A23.i a)))]
                                                        [Obj.frz (25 : Nat) (mkL (A23.ss a)),
                                                          Obj.row (25 : Nat) (mkL (A23.os a))] ∧
                                                    ((A23.c a ≤ (8 : Nat) ∧
                                                          List.length (A23.ss a) ≤ (8 : Nat) ∧
                                                            List.length (A23.os a) = (1 : Nat) ∧
                                                              fitB (mkL (A23.ss a)) = true) ∧
                                                        CoverO (↑(A23.c a) : Int) (mkL (A23.ss a)) (A23.os a) ∧
                                                          (0 : Int) ≤ A23.i a ∧
                                                            A23.i a ≤ (↑(List.length (A23.ss a)) : Int)) ∧
                                                      ∃ (a_2 : Int × List (List Int)),
                                                        ([AV.lit (Value.int IntKind.i64 (↑(A23.c a) : Int)),
                                                                AV.lst (25 : Nat)
                                                                  (List.take (List.length (mkL (A23.os a)))
                                                                    (List.drop (0 : Nat) (mkL (A23.os a))))],
                                                              nilO) =
                                                            ([AV.lit (Value.int IntKind.i64 (Prod.fst a_2)),
                                                                AV.lst (25 : Nat) (mkL (Prod.snd a_2))],
                                                              nilO) ∧
                                                          (((1 : Int) ≤ Prod.fst a_2 ∧ Prod.fst a_2 ≤ (8 : Int)) ∧
                                                              List.length (Prod.snd a_2) ≤ (1000 : Nat) ∧
                                                                ∀ (o : List Int),
                                                                  List.Mem o (Prod.snd a_2) →
                                                                    Cols (Prod.fst a_2) o ∧
                                                                      ∀ (x : Int),
                                                                        (0 : Int) ≤ x →
                                                                          x < Prod.fst a_2 → List.Mem x o) ∧
                                                            K (AV.lit (Value.bool true)) [])))
                                      (K (AV.lit (Value.bool false)) []))
                          (∃ (a : Int × List AV),
                            ([AV.lit (Value.int IntKind.i64 (↑(A6.c a_1) : Int)),
                                    AV.lst (25 : Nat) (List.take (List.length (mkL y)) (List.drop (0 : Nat) (mkL y)))],
                                  nilO) =
                                ([AV.lit (Value.int IntKind.i64 (Prod.fst a)), AV.lst (25 : Nat) (Prod.snd a)], nilO) ∧
                              fitB (Prod.snd a) = true ∧
                                brn (rightI (Prod.fst a) (rows (Prod.snd a)))
                                  (∀ (y : List (List Int)),
                                    CoverO (Prod.fst a) (Prod.snd a) y → K (AV.lit (Value.bool false)) [])
                                  (K (AV.lit (Value.bool false)) [])))))) := by kernel_rfl


theorem c6 (c : Int) (l : List AV) (h0 : l.length ≤ maxI) : funA E623 12 6 [.int c, .lst 3 l] [] (fun r _ => r = .bool true) := by
  have := y6 (c, l) (fun r _ => r = .bool true)
  rw [show funA E623 12 6 [.int c, .lst 3 l] [] (fun r _ => r = .bool true) = funA E623 12 6 (stc6 (c, l)).1 (stc6 (c, l)).2 (fun r _ => r = .bool true) from rfl, this]
  refine brn_iff.2 ⟨fun _ => rfl, fun hc1 => brn_iff.2 ⟨fun _ => rfl, fun hc8 => ?_⟩⟩
  replace hc1 : ¬ c < 1 := of_decide_eq_false hc1
  replace hc8 : ¬ c > 8 := of_decide_eq_false hc8
  obtain ⟨c, rfl⟩ := Int.eq_ofNat_of_zero_le (show 0 ≤ c by omega)
  refine cnd_iff.2 ⟨by simp only [Bool.and_eq_true, decide_eq_true_eq, and_true]; omega, ?_⟩
  refine ⟨rfl, ⟨c, l, [], List.replicate c false, 0, 0⟩, ?_, ⟨⟨by simp only; omega, Int.le_refl _, by simp only; omega, by simp only [List.length_nil]; omega, h0⟩, ⟨by simp only [List.length_replicate], (fun s hs => nomatch hs), (fun s hs => nomatch hs), List.Pairwise.nil⟩⟩, fun ss hss => ?_⟩
  · simp only [st67, len_mkT, List.length_replicate, Int.toNat_natCast]
    rw [mkT_zeros]; rfl
  · obtain ⟨hl, ms, hch⟩ := hss
    simp only at hl hch
    have hr := hch.right (by omega) (by omega) (by omega)
    have hfit := hch.fit (by omega) (by omega)
    have e0 : List.take (mkL ss).length (List.drop 0 (mkL ss)) = mkL ss := by rw [List.drop_zero, List.take_length]
    refine ⟨(c, mkL ss), by rw [e0], hfit, brn_iff.2 ⟨fun _ w hw => ?_, fun hr' => ?_⟩⟩
    · refine ⟨(c, mkL ss), by rw [e0], hfit, brn_iff.2 ⟨fun _ os hos => ?_, fun hr' => ?_⟩⟩
      · obtain ⟨w', hw', hol⟩ := hos.len
        obtain rfl := Width.one (l := mkL ss) hw hw'
        have h1 := hch.width hw'
        have h1' : max 1 w = 1 := by omega
        rw [h1'] at hol
        refine brn_iff.2 ⟨fun hne => ?_, fun _ => brn_iff.2 ⟨fun hne => ?_, fun _ => ⟨rfl, ⟨c, ss, os, 0⟩, ?_, ⟨⟨by simp only; omega, hl, hol, hfit⟩, hos, Int.le_refl _, by simp only; omega⟩, (c, os), ?_, ⟨⟨by simp only; omega, by simp only; omega⟩, by simp only; omega, hos.whole⟩, rfl⟩⟩⟩
        · rw [h1'] at hne; simp at hne
        · rw [hol] at hne; simp at hne
        · simp only [st623, len_mkL]
        · rw [List.drop_zero, List.take_length]
      · rw [show rightI c (rows (mkL ss)) = true from hr] at hr'; cases hr'
    · rw [show rightI c (rows (mkL ss)) = true from hr] at hr'; cases hr'

theorem sim6 (c : Int) (l : List AV) (h0 : l.length ≤ maxI) : SimCall Try.prog 6 [.int c, .lst 3 l] [] (fun r _ => r = .bool true) := fun_sound e623 m623 (c6 c l h0)

end Go.Proofs.Ytpjkphcfkpcfgaa

/-
  What laws share: arguments that are lists.
-/
namespace Go.Proofs.Ytpjkphcfkpcfgaa
open Go Go.Dn Go.Proofs Go.ChangeShapes Go.WideShapes Go.ChangeAt Go.RowKit

theorem own : ownKnob Try.prog.godebug = none := by kernel_rfl
theorem laid_out : laidOutB Try.prog = true := by kernel_rfl
def argTys : List TypeId := [3, 25, 22]
theorem args_ok : tyOK Try.prog argTys = true := by kernel_rfl
theorem under3 : Try.prog.underlying 3 = some (.int .i64) := by kernel_rfl
theorem under25 : Try.prog.underlying 25 = some (.slice 3) := by kernel_rfl
theorem under22 : Try.prog.underlying 22 = some (.slice 25) := by kernel_rfl

theorem good_ints {a : AV} (h : good Try.prog a 25) : ∃ l, a = .lst 3 l ∧ l.length ≤ maxI := by
  cases a <;> simp only [good, under25] at h
  · obtain ⟨h1, h2, _⟩ := h
    cases h1
    exact ⟨_, rfl, h2⟩
  · obtain ⟨fs, ⟨h1, _⟩, _⟩ := h
    cases h1

theorem goodL_fit : ∀ {l : List AV}, goodL Try.prog l 25 → ∀ x, x ∈ l → (toLst x).length ≤ maxI
  | [], _, x, hx => by simp at hx
  | a :: l, h, x, hx => by
    simp only [goodL] at h
    rcases List.mem_cons.1 hx with rfl | hx
    · obtain ⟨m, rfl, hm⟩ := good_ints h.1
      exact hm
    · exact goodL_fit h.2 x hx

theorem good_rows {a : AV} (h : good Try.prog a 22) : ∃ l, a = .lst 25 l ∧ fitB l = true := by
  cases a <;> simp only [good, under22] at h
  · obtain ⟨h1, h2, h3⟩ := h
    cases h1
    refine ⟨_, rfl, ?_⟩
    simp only [fitB, Bool.and_eq_true, decide_eq_true_eq, List.all_eq_true]
    exact ⟨h2, goodL_fit h3⟩
  · obtain ⟨fs, ⟨h1, _⟩, _⟩ := h
    cases h1

theorem good_int {a : AV} (h : good Try.prog a 3) : ∃ c, a = .int c := by
  cases a <;> simp only [good, under3] at h
  · obtain ⟨n, rfl, _⟩ := h
    exact ⟨n, rfl⟩
  · obtain ⟨h1, _⟩ := h
    cases h1
  · obtain ⟨fs, ⟨h1, _⟩, _⟩ := h
    cases h1

end Go.Proofs.Ytpjkphcfkpcfgaa

/-
  What is proved: whatever arguments are handed in, the law CoverChain answers true, and its arguments read as before; no condition.
-/
namespace Go.Proofs.Ytpjkphcfkpcfgaa
open Go Go.Dn Go.Proofs Go.ChangeShapes Go.WideShapes Go.ChangeAt Go.RowKit

theorem simL_6 (al : List AV) (h : goodAs Try.prog Try.f6.params.toList al) : SimCall Try.prog 6 al [] fun r _ => r = .bool true := by
  have h' : goodAs Try.prog [3, 25] al := h
  match al, h' with
  | [a, b], h' =>
    simp only [goodAs] at h'
    obtain ⟨x0, rfl⟩ := good_int h'.1
    obtain ⟨x1, rfl, g1⟩ := good_ints h'.2.1
    exact sim6 x0 x1 g1

theorem lifted6 (os : Os) (started : os.Started) (H : Type) (enc : TypeId × Value → H) (F : Stop.Interp) :
    ReturnsInHanded {} Try.checked os 6 .any ((OpenSpec.ofChange Rows.coverChainSpec).preRow enc Try.prog Try.f6 Rows.coverChainRow.domain false Rows.coverChainRow.laid) (((OpenSpec.ofChange Rows.coverChainSpec).at F).post enc Try.prog Try.f6 false true false false) := by
  refine returnsInHanded_of_row (C := Try.checked) (s := OpenSpec.ofChange Rows.coverChainSpec) own started (by kernel_rfl) Try.func6
    (witness_row_at (enc := enc) (C := Try.checked) false (World.holding Try.prog os ⟨#[], #[.int .i64 0, .slice none 0 0], []⟩) #[.int .i64 0, .slice none 0 0] rfl (by kernel_rfl) (by kernel_rfl) (by kernel_rfl)
      (OpenSpec.preRow_of_cond 8 (x := ([.lit (.int .i64 0), .nil], [], [])) (by kernel_rfl) (by kernel_rfl) (fun k hk => by cases hk) (by kernel_rfl) (laidMetH_nil _ _))) ?_
  intro W base args ds gs before hval hW _ _ _ hL _ _
  exact law_contract prog_fine.lay laid_out args_ok rfl (by kernel_rfl) (by kernel_rfl) rfl hval hW (fun d hd => by match d, hd with | [_, _], _ => rfl) (fun al h _ => simL_6 al h)

theorem coverChain_holds : Rows.CoverChainSaid :=
  OpenClaim.holds_of_cond 6 Try.f6 rfl rfl rfl rfl rfl rfl rfl ⟨rfl, rfl, rfl, rfl, rfl⟩ rfl rfl rfl rfl rfl (by kernel_rfl) Try.func6 (by kernel_rfl)
    (of_decide_eq_true (by kernel_rfl)) (by unfold Func.isWrapper; first | (rw [if_pos (by decide +kernel)]; kernel_rfl) | (rw [if_neg (by decide +kernel)]; exact ⟨rfl, rfl⟩))
    (fun os started H enc _ F => by rw [OpenClaim.pre_eq_preRow]; exact lifted6 os started H enc F)
#print axioms coverChain_holds
end Go.Proofs.Ytpjkphcfkpcfgaa
