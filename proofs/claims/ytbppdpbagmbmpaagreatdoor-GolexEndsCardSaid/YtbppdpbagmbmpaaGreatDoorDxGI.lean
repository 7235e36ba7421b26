import Derived.Test.YtbppdpbagmbmpaaGreatDoorDxGH
namespace Go.Proofs.YtbppdpbagmbmpaaGreatDoor
open Go Go.Dn Go.Proofs
attribute [local irreducible] funA vc
set_option maxRecDepth 20000
def stLx (s : ByteArray) : List AV × List Dn.Obj := ([.lit (.string s)], [])
def sideLx (_ : ByteArray) : Prop := True
def lexA (s : ByteArray) : List TK × Int × Option Int := bif decide ((s.size : Int) > 1048576) then ([], 0, some 21) else lexR s
abbrev tkR (l : List TK) : AV := .slc 0 0 (l.map avT).length
def outLx (s : ByteArray) : Out (AV × List Dn.Obj) := .brn (lexA s).2.2.isNone (.one (.tup [tkR (lexA s).1, .int 0, .int 0], [.row 31 ((lexA s).1.map avT)])) (.one (.tup [.nil, .int (lexA s).2.1, .int ((lexA s).2.2.getD 0)], []))
theorem cLx (κ : Kp) : CallOk (BLr κ).E 12 10 (callE stLx sideLx outLx) := by
  refine callE_ok ?_
  rintro s K _ ho
  have ho : brn (lexA s).2.2.isNone (K (.tup [tkR (lexA s).1, .int 0, .int 0]) [.row 31 ((lexA s).1.map avT)]) (K (.tup [.nil, .int (lexA s).2.1, .int ((lexA s).2.2.getD 0)]) []) := ho
  refine Eq.mpr (yLx κ s K) ?_
  unfold lexA at ho
  rw [brn_iff]
  refine ⟨fun e => ?_, fun e => ?_⟩
  · rw [e] at ho
    exact (brn_iff.1 ho).2 rfl
  · rw [e, cond_false] at ho
    refine ⟨s, rfl, by have := of_decide_eq_false e; omega, ?_⟩
    generalize lexR s = R at ho ⊢
    rw [brn_iff] at ho ⊢
    refine ⟨fun e2 => ⟨(), rfl, trivial, ho.1 e2⟩, fun e2 toks y la => ⟨⟨(R.2.1, R.2.2.getD 0), rfl, trivial, ho.2 e2⟩, ⟨(R.2.1, R.2.2.getD 0), rfl, trivial, ho.2 e2⟩, ⟨(R.2.1, R.2.2.getD 0), rfl, trivial, ho.2 e2⟩⟩⟩
noncomputable def BLx (κ : Kp) : EB := (BLr κ).call (cLx κ)
end Go.Proofs.YtbppdpbagmbmpaaGreatDoor
namespace Go.Proofs.YtbppdpbagmbmpaaGreatDoor
open Go Go.Dn Go.Proofs
attribute [local irreducible] funA vc
set_option maxRecDepth 20000
theorem ySh (κ : Kp) (K : AV → List Dn.Obj → Prop) : (funA (BLx κ).E 12 8 [] [] K) = (
  ∃ (a : ByteArray), ([AV.lit (Value.string
  { data := #[OfNat.ofNat 120, OfNat.ofNat 32, OfNat.ofNat 58, OfNat.ofNat 61, OfNat.ofNat 32, OfNat.ofNat 49, OfNat.ofNat 10, OfNat.ofNat 125] })], []) = stLx a
  ∧ sideLx a ∧ brn (Option.isNone (Prod.snd (Prod.snd (lexA a)))) (∃ (a_1 : ByteArray), ([AV.lit (Value.string
  { data := #[OfNat.ofNat 120, OfNat.ofNat 10, OfNat.ofNat 49, OfNat.ofNat 46, OfNat.ofNat 53] })], []) = stLx a_1 ∧ sideLx a_1 ∧ brn (Option.isNone (Prod.snd
  (Prod.snd (lexA a_1)))) (brn ((↑(List.length (List.map avT (Prod.fst (lexA a)))) : Int) == (6 : Int)) (cnd (true && decide ((1 : Int) < (↑(List.length
  (List.map avT (Prod.fst (lexA a)))) : Int))) (brn (ByteArray.toList (toStr (fld (nth (List.map avT (Prod.fst (lexA a))) 1) 1)) == ByteArray.toList
  { data := #[OfNat.ofNat 58, OfNat.ofNat 61] }) (cnd (true && decide ((3 : Int) < (↑(List.length (List.map avT (Prod.fst (lexA a)))) : Int))) (brn
  (ByteArray.toList (toStr (fld (nth (List.map avT (Prod.fst (lexA a))) 3) 1)) == ByteArray.toList { data := #[OfNat.ofNat 59] }) (cnd (true && decide ((5 : Int)
  < (↑(List.length (List.map avT (Prod.fst (lexA a)))) : Int))) (brn (ByteArray.toList (toStr (fld (nth (List.map avT (Prod.fst (lexA a))) 5) 1)) ==
  ByteArray.toList { data := #[OfNat.ofNat 59] }) (K (AV.bool false) []) (K (AV.bool false) []))) (K (AV.bool false) []))) (K (AV.bool false) []))) (K (AV.bool
  false) [])) (brn ((↑(List.length (List.map avT (Prod.fst (lexA a)))) : Int) == (6 : Int)) (cnd (true && decide ((1 : Int) < (↑(List.length (List.map avT
  (Prod.fst (lexA a)))) : Int))) (brn (ByteArray.toList (toStr (fld (nth (List.map avT (Prod.fst (lexA a))) 1) 1)) == ByteArray.toList
  { data := #[OfNat.ofNat 58, OfNat.ofNat 61] }) (cnd (true && decide ((3 : Int) < (↑(List.length (List.map avT (Prod.fst (lexA a)))) : Int))) (brn
  (ByteArray.toList (toStr (fld (nth (List.map avT (Prod.fst (lexA a))) 3) 1)) == ByteArray.toList { data := #[OfNat.ofNat 59] }) (cnd (true && decide ((5 : Int)
  < (↑(List.length (List.map avT (Prod.fst (lexA a)))) : Int))) (brn (ByteArray.toList (toStr (fld (nth (List.map avT (Prod.fst (lexA a))) 5) 1)) ==
  ByteArray.toList { data := #[OfNat.ofNat 59] }) (brn (Option.getD (Prod.snd (Prod.snd (lexA a_1))) (0 : Int) == (160 : Int)) (K (AV.bool (Prod.fst (Prod.snd
  (lexA a_1)) == (2 : Int))) []) (K (AV.bool false) [])) (K (AV.bool false) []))) (K (AV.bool false) []))) (K (AV.bool false) []))) (K (AV.bool false) []))) (∃
  (a_1 : ByteArray), ([AV.lit (Value.string { data := #[OfNat.ofNat 120, OfNat.ofNat 10, OfNat.ofNat 49, OfNat.ofNat 46, OfNat.ofNat 53] })], []) = stLx a_1 ∧
  sideLx a_1 ∧ brn (Option.isNone (Prod.snd (Prod.snd (lexA a_1)))) (brn (Option.getD (Prod.snd (Prod.snd (lexA a))) (0 : Int) == (0 : Int)) (K (AV.bool false)
  []) (K (AV.bool false) [])) (brn (Option.getD (Prod.snd (Prod.snd (lexA a))) (0 : Int) == (0 : Int)) (K (AV.bool false) []) (K (AV.bool false) [])))) := by kernel_rfl
def shA : ByteArray := ⟨#[120, 32, 58, 61, 32, 49, 10, 125]⟩
def shB : ByteArray := ⟨#[120, 10, 49, 46, 53]⟩
def gSh : List AV → Option (Bool × AV)
  | [] => some (true, .bool true)
  | _ => none
theorem pSh (κ : Kp) : PureOk (BLx κ).E 12 8 gSh := by
  intro args x hh
  unfold gSh at hh
  split at hh
  · simp only [Option.some.injEq, Prod.mk.injEq, true_and] at hh
    subst hh
    refine ⟨_, rfl, rfl, Eq.mpr (ySh κ _) ⟨shA, rfl, trivial, ?_⟩⟩
    refine brn_iff.2 ⟨fun _ => ⟨shB, rfl, trivial, ?_⟩, fun e => absurd e (by decide +kernel)⟩
    refine brn_iff.2 ⟨fun e => absurd e (by decide +kernel), fun _ => ?_⟩
    refine brn_iff.2 ⟨fun _ => ?_, fun e => absurd e (by decide +kernel)⟩
    refine cnd_iff.2 ⟨by decide +kernel, ?_⟩
    refine brn_iff.2 ⟨fun _ => ?_, fun e => absurd e (by decide +kernel)⟩
    refine cnd_iff.2 ⟨by decide +kernel, ?_⟩
    refine brn_iff.2 ⟨fun _ => ?_, fun e => absurd e (by decide +kernel)⟩
    refine cnd_iff.2 ⟨by decide +kernel, ?_⟩
    refine brn_iff.2 ⟨fun _ => ?_, fun e => absurd e (by decide +kernel)⟩
    refine brn_iff.2 ⟨fun _ => ?_, fun e => absurd e (by decide +kernel)⟩
    have h : ((lexA shB).2.1 == (2 : Int)) = true := by decide +kernel
    rw [h]
  · cases hh
noncomputable def BSh (κ : Kp) : EB := (BLx κ).pure (pSh κ)
theorem yKw (κ : Kp) (s : ByteArray) (K : AV → List Dn.Obj → Prop) : (funA (BSh κ).E 12 24 [.lit (.string s)] [] K) = (
  brn (ByteArray.toList s == ByteArray.toList
  { data := #[OfNat.ofNat 112, OfNat.ofNat 97, OfNat.ofNat 99, OfNat.ofNat 107, OfNat.ofNat 97, OfNat.ofNat 103, OfNat.ofNat 101] }) (K (AV.bool true) []) (brn
  (ByteArray.toList s == ByteArray.toList { data := #[OfNat.ofNat 116, OfNat.ofNat 121, OfNat.ofNat 112, OfNat.ofNat 101] }) (K (AV.bool true) []) (brn
  (ByteArray.toList s == ByteArray.toList { data := #[OfNat.ofNat 115, OfNat.ofNat 116, OfNat.ofNat 114, OfNat.ofNat 117, OfNat.ofNat 99, OfNat.ofNat 116] }) (K
  (AV.bool true) []) (brn (ByteArray.toList s == ByteArray.toList { data := #[OfNat.ofNat 102, OfNat.ofNat 117, OfNat.ofNat 110, OfNat.ofNat 99] }) (K (AV.bool
  true) []) (brn (ByteArray.toList s == ByteArray.toList { data := #[OfNat.ofNat 118, OfNat.ofNat 97, OfNat.ofNat 114] }) (K (AV.bool true) []) (brn
  (ByteArray.toList s == ByteArray.toList { data := #[OfNat.ofNat 105, OfNat.ofNat 102] }) (K (AV.bool true) []) (brn (ByteArray.toList s == ByteArray.toList
  { data := #[OfNat.ofNat 101, OfNat.ofNat 108, OfNat.ofNat 115, OfNat.ofNat 101] }) (K (AV.bool true) []) (brn (ByteArray.toList s == ByteArray.toList
  { data := #[OfNat.ofNat 102, OfNat.ofNat 111, OfNat.ofNat 114] }) (K (AV.bool true) []) (brn (ByteArray.toList s == ByteArray.toList
  { data := #[OfNat.ofNat 99, OfNat.ofNat 97, OfNat.ofNat 115, OfNat.ofNat 101] }) (K (AV.bool true) []) (brn (ByteArray.toList s == ByteArray.toList
  { data := #[OfNat.ofNat 99, OfNat.ofNat 104, OfNat.ofNat 97, OfNat.ofNat 110] }) (K (AV.bool true) []) (brn (ByteArray.toList s == ByteArray.toList
  { data := #[OfNat.ofNat 99, OfNat.ofNat 111, OfNat.ofNat 110, OfNat.ofNat 115, OfNat.ofNat 116] }) (K (AV.bool true) []) (brn (ByteArray.toList s ==
  ByteArray.toList { data := #[OfNat.ofNat 100, OfNat.ofNat 101, OfNat.ofNat 102, OfNat.ofNat 97, OfNat.ofNat 117, OfNat.ofNat 108, OfNat.ofNat 116] }) (K
  (AV.bool true) []) (brn (ByteArray.toList s == ByteArray.toList
  { data := #[OfNat.ofNat 100, OfNat.ofNat 101, OfNat.ofNat 102, OfNat.ofNat 101, OfNat.ofNat 114] }) (K (AV.bool true) []) (brn (ByteArray.toList s ==
  ByteArray.toList { data := #[OfNat.ofNat 103, OfNat.ofNat 111] }) (K (AV.bool true) []) (brn (ByteArray.toList s == ByteArray.toList
  { data := #[OfNat.ofNat 103, OfNat.ofNat 111, OfNat.ofNat 116, OfNat.ofNat 111] }) (K (AV.bool true) []) (brn (ByteArray.toList s == ByteArray.toList
  { data := #[OfNat.ofNat 105, OfNat.ofNat 109, OfNat.ofNat 112, OfNat.ofNat 111, OfNat.ofNat 114, OfNat.ofNat 116] }) (K (AV.bool true) []) (brn
  (ByteArray.toList s == ByteArray.toList
  { data := #[OfNat.ofNat 105, OfNat.ofNat 110, OfNat.ofNat 116, OfNat.ofNat 101, OfNat.ofNat 114, OfNat.ofNat 102, OfNat.ofNat 97, OfNat.ofNat 99, OfNat.ofNat 101] })
  (K (AV.bool true) []) (brn (ByteArray.toList s == ByteArray.toList { data := #[OfNat.ofNat 109, OfNat.ofNat 97, OfNat.ofNat 112] }) (K (AV.bool true) []) (brn
  (ByteArray.toList s == ByteArray.toList { data := #[OfNat.ofNat 114, OfNat.ofNat 97, OfNat.ofNat 110, OfNat.ofNat 103, OfNat.ofNat 101] }) (K (AV.bool true)
  []) (brn (ByteArray.toList s == ByteArray.toList
  { data := #[OfNat.ofNat 115, OfNat.ofNat 101, OfNat.ofNat 108, OfNat.ofNat 101, OfNat.ofNat 99, OfNat.ofNat 116] }) (K (AV.bool true) []) (brn
  (ByteArray.toList s == ByteArray.toList { data := #[OfNat.ofNat 115, OfNat.ofNat 119, OfNat.ofNat 105, OfNat.ofNat 116, OfNat.ofNat 99, OfNat.ofNat 104] }) (K
  (AV.bool true) []) (K (AV.bool false) [])))))))))))))))))))))) := by kernel_rfl
end Go.Proofs.YtbppdpbagmbmpaaGreatDoor
namespace Go.Proofs.YtbppdpbagmbmpaaGreatDoor
open Go Go.Dn Go.Proofs
attribute [local irreducible] funA vc
set_option maxRecDepth 20000
def kwL : List ByteArray := [⟨#[112, 97, 99, 107, 97, 103, 101]⟩, ⟨#[116, 121, 112, 101]⟩, ⟨#[115, 116, 114, 117, 99, 116]⟩, ⟨#[102, 117, 110, 99]⟩, ⟨#[118, 97, 114]⟩, ⟨#[105, 102]⟩, ⟨#[101, 108, 115, 101]⟩, ⟨#[102, 111, 114]⟩, ⟨#[99, 97, 115, 101]⟩, ⟨#[99, 104, 97, 110]⟩, ⟨#[99, 111, 110, 115, 116]⟩, ⟨#[100, 101, 102, 97, 117, 108, 116]⟩, ⟨#[100, 101, 102, 101, 114]⟩, ⟨#[103, 111]⟩, ⟨#[103, 111, 116, 111]⟩, ⟨#[105, 109, 112, 111, 114, 116]⟩, ⟨#[105, 110, 116, 101, 114, 102, 97, 99, 101]⟩, ⟨#[109, 97, 112]⟩, ⟨#[114, 97, 110, 103, 101]⟩, ⟨#[115, 101, 108, 101, 99, 116]⟩, ⟨#[115, 119, 105, 116, 99, 104]⟩]
def kwR (s : ByteArray) : Bool := kwL.any fun t => s.toList == t.toList
def chainK (s : ByteArray) (x : AV) : List ByteArray → Prop
  | [] => AV.bool false = x
  | t :: l => brn (s.toList == t.toList) (AV.bool true = x) (chainK s x l)
theorem chainK_of (s : ByteArray) : ∀ (l : List ByteArray), chainK s (.bool (l.any fun t => s.toList == t.toList)) l
  | [] => rfl
  | t :: l => by
    rw [chainK, List.any_cons]
    cases s.toList == t.toList with
    | true => exact brn_iff.2 ⟨fun _ => rfl, fun e => (by cases e)⟩
    | false => exact brn_iff.2 ⟨fun e => (by cases e), fun _ => chainK_of s l⟩
def gKw : List AV → Option (Bool × AV)
  | [.lit (.string s)] => some (true, .bool (kwR s))
  | _ => none
theorem pKw (κ : Kp) : PureOk (BSh κ).E 12 24 gKw := by
  intro args x hh
  unfold gKw at hh
  split at hh
  · rename_i s
    simp only [Option.some.injEq, Prod.mk.injEq, true_and] at hh
    subst hh
    refine ⟨_, rfl, rfl, Eq.mpr (yKw κ s _) ?_⟩
    exact chainK_of s kwL
  · cases hh
noncomputable def BKw (κ : Kp) : EB := (BSh κ).pure (pKw κ)
theorem beq_list (s t : ByteArray) : (s.toList == t.toList) = decide (t = s) := by
  rw [Bool.eq_iff_iff, beq_iff_eq, decide_eq_true_eq, ByteArray.toList_eq, ByteArray.toList_eq]
  refine ⟨fun h => ?_, fun h => by rw [h]⟩
  cases s; cases t
  congr 1
  exact Array.toList_inj.1 h.symm
theorem ba_beq (s t : ByteArray) : (s == t) = decide (s = t) := by
  obtain ⟨a⟩ := s
  obtain ⟨b⟩ := t
  have h : ((ByteArray.mk a == ByteArray.mk b) = true) ↔ a = b := by
    show ((a == b) = true) ↔ a = b
    exact beq_iff_eq
  rw [Bool.eq_iff_iff, h, decide_eq_true_eq]
  exact ⟨fun e => by rw [e], fun e => ByteArray.mk.inj e⟩
theorem getK_any (s : ByteArray) : ∀ l : List ByteArray, Dn.toBool (getK (l.map fun t => (Value.string t, AV.lit (.bool true))) (.string s) (.bool false)) = l.any fun t => s.toList == t.toList
  | [] => rfl
  | t :: l => by
    rw [List.any_cons, List.map_cons, beq_list]
    have := getK_any s l
    rw [getK, show keyEq (.string s) (.string t) = (s == t) from rfl, ba_beq]
    by_cases h : s = t
    · rw [decide_eq_true h, decide_eq_true h.symm]; rfl
    · rw [decide_eq_false h, decide_eq_false (fun e => h e.symm), cond_false, Bool.false_or]; exact this
theorem isKw_eq (s : ByteArray) : isKw s = kwR s := by
  unfold isKw kwR
  rw [← getK_any]
  congr 2
theorem yRe (κ : Kp) (k l : Int) (s : ByteArray) (K : AV → List Dn.Obj → Prop) : (funA (BKw κ).E 12 14 [tkA k s l] [] K) = (
  brn (k == (1 : Int)) (K (AV.lit (Value.bool !kwR s)) []) (brn (k == (2 : Int)) (K (AV.bool true) []) (brn (k == (3 : Int)) (K (AV.bool true) []) (brn (k == (4 :
  Int)) (brn (ByteArray.toList s == ByteArray.toList { data := #[OfNat.ofNat 41] }) (K (AV.bool true) []) (brn (ByteArray.toList s == ByteArray.toList
  { data := #[OfNat.ofNat 93] }) (K (AV.bool true) []) (K (AV.bool (ByteArray.toList s == ByteArray.toList { data := #[OfNat.ofNat 125] })) []))) (K (AV.bool
  false) []))))) := by kernel_rfl
def gRe : List AV → Option (Bool × AV)
  | [.agg [.lit (.int .i64 k), .lit (.string s), .lit (.int .i64 _)]] => some (true, .bool (endT k s))
  | _ => none
theorem pRe (κ : Kp) : PureOk (BKw κ).E 12 14 gRe := by
  intro args x hh
  unfold gRe at hh
  split at hh
  · rename_i k s l
    simp only [Option.some.injEq, Prod.mk.injEq, true_and] at hh
    subst hh
    refine ⟨_, rfl, rfl, Eq.mpr (yRe κ k l s _) ?_⟩
    unfold endT
    rw [isKw_eq]
    cases k == 1 with
    | true => exact rfl
    | false =>
    cases k == 2 with
    | true => exact rfl
    | false =>
    cases k == 3 with
    | true => exact rfl
    | false =>
    cases k == 4 with
    | true =>
      show brn (s.toList == (ByteArray.mk #[41]).toList) (AV.bool true = AV.bool (bif s.toList == (ByteArray.mk #[41]).toList then true else bif s.toList == (ByteArray.mk #[93]).toList then true else s.toList == (ByteArray.mk #[125]).toList)) (brn (s.toList == (ByteArray.mk #[93]).toList) (AV.bool true = AV.bool (bif s.toList == (ByteArray.mk #[41]).toList then true else bif s.toList == (ByteArray.mk #[93]).toList then true else s.toList == (ByteArray.mk #[125]).toList)) (AV.bool (s.toList == (ByteArray.mk #[125]).toList) = AV.bool (bif s.toList == (ByteArray.mk #[41]).toList then true else bif s.toList == (ByteArray.mk #[93]).toList then true else s.toList == (ByteArray.mk #[125]).toList)))
      generalize (s.toList == (ByteArray.mk #[41]).toList) = b1
      generalize (s.toList == (ByteArray.mk #[93]).toList) = b2
      cases b1 <;> cases b2 <;> exact rfl
    | false => exact rfl
  · cases hh
noncomputable def BRe0 (κ : Kp) : EB := (BKw κ).pure (pRe κ)
def EB.hush (b : EB) (l : List Nat) : EB := ⟨{ b.E with quiet := fun f => memN f l || b.E.quiet f }, ⟨b.ok.prog, b.ok.pcall, b.ok.call, b.ok.rng, b.ok.loop⟩, ⟨b.mono.call, b.mono.loop, b.mono.rng⟩⟩
noncomputable def BRe (κ : Kp) : EB := EB.hush (BRe0 κ) [8, 14]
theorem yGe (κ : Kp) (k l : Int) (s : ByteArray) (K : AV → List Dn.Obj → Prop) : (funA (BRe κ).E 12 4 [tkA k s l] [] K) = (
  K (AV.bool (endT k s == endT k s)) []) := by kernel_rfl
theorem simGe (κ : Kp) (k : Int) (s : ByteArray) (l : Int) : SimCall (Pr κ) 4 [tkA k s l] [] fun r _ => r = .bool true :=
  fun_sound (BRe κ).ok (BRe κ).mono (Eq.mpr (yGe κ k l s _) (by rw [beq_self_eq_true]))
end Go.Proofs.YtbppdpbagmbmpaaGreatDoor
