import Derived.Test.YtbppdpbagmbmpaaGreatDoorDxGH
import Derived.Test.YtbppdpbagmbmpaaGreatDoorDxGI
namespace Go.Proofs.YtbppdpbagmbmpaaGreatDoor
open Go Go.Dn Go.Proofs
attribute [local irreducible] funA vc
set_option maxRecDepth 20000
end Go.Proofs.YtbppdpbagmbmpaaGreatDoor
namespace Go.Proofs.YtbppdpbagmbmpaaGreatDoor
open Go Go.Dn Go.Proofs
attribute [local irreducible] funA vc
set_option maxRecDepth 20000
def mA (s : ByteArray) (i : Nat) : Int := (((bl s).take i).count 59 : Nat)
structure ACn where
  s : ByteArray
  ok : Bool
  toks : List AV
  pl : Int
  e : Int
  i : Nat
end Go.Proofs.YtbppdpbagmbmpaaGreatDoor
namespace Go.Proofs.YtbppdpbagmbmpaaGreatDoor
open Go Go.Dn Go.Proofs
attribute [local irreducible] funA vc
set_option maxRecDepth 20000
structure ADn where
  toks : List TK
  pl : Int
  n : Int
  m : Int
  i : Nat
end Go.Proofs.YtbppdpbagmbmpaaGreatDoor
namespace Go.Proofs.YtbppdpbagmbmpaaGreatDoor
open Go Go.Dn Go.Proofs
attribute [local irreducible] funA vc
set_option maxRecDepth 20000
end Go.Proofs.YtbppdpbagmbmpaaGreatDoor
namespace Go.Proofs.YtbppdpbagmbmpaaGreatDoor
open Go Go.Dn Go.Proofs
attribute [local irreducible] funA vc
set_option maxRecDepth 20000
noncomputable def BHu (κ : Kp) : EB := EB.hush (BRe κ) [15, 12]
theorem xAl (κ : Kp) (l m : List AV) (i : Int) (I : Nat → S → Prop) (n : Nat) (K : Exit → S → Prop) : (vc (BHu κ).E 12 15 none 0 (loopCode (Pr κ).toProgram 15 4) (sp 41 [(0, .lst 31 l), (1, .lst 31 m), (5, .int i)] []) (loopK (BHu κ).E 15 4 0 I n K)) = (
  brn (decide (i < (↑(l.length) : Int))) (cnd (decide ((0 : Int) ≤ i) && decide (i < (↑(l.length) : Int))) (cnd (decide ((0 : Int) ≤ i) && decide (i < (↑(m.length)
  : Int))) (brn (toInt (fld (nth l i.toNat) 0) != toInt (fld (nth m i.toNat) 0)) (K Exit.ret (sp 41 [(4, AV.bool false)] [])) (cnd (decide ((0 : Int) ≤ i) &&
  decide (i < (↑(l.length) : Int))) (cnd (decide ((0 : Int) ≤ i) && decide (i < (↑(m.length) : Int))) (brn (!ByteArray.toList (toStr (fld (nth l i.toNat) 1)) ==
  ByteArray.toList (toStr (fld (nth m i.toNat) 1))) (K Exit.ret (sp 41 [(4, AV.bool false)] [])) (∃ (m_1 : Nat), m_1 < n ∧ I m_1 (sp 41 [(0, AV.lst 31 l), (1,
  AV.lst 31 m), (5, AV.int (IntKind.wrap IntKind.i64 (i + (1 : Int))))] [])))))))) (K (Exit.exit 0) (sp 41 [] []))) := by kernel_rfl
def keyA (x : AV) : Int × List UInt8 := (toInt (fld x 0), (toStr (fld x 1)).toList)
theorem nth_get' : ∀ (l : List AV) (i : Nat) (h : i < l.length), nth l i = l[i]
  | [], i, h => by cases h
  | a :: l, 0, _ => rfl
  | a :: l, i + 1, h => nth_get' l i (Nat.lt_of_succ_lt_succ h)
abbrev stAl (a : List AV × List AV × Nat) : S := sp 41 [(0, .lst 31 a.1), (1, .lst 31 a.2.1), (5, .int a.2.2)] []
def sideAl (a : List AV × List AV × Nat) : Prop := a.1.length = a.2.1.length ∧ a.1.length ≤ 1000000000 ∧ a.2.2 ≤ a.1.length
def outAl (a : List AV × List AV × Nat) : Out (Exit × S) := .brn (decide ((a.1.drop a.2.2).map keyA = (a.2.1.drop a.2.2).map keyA)) (.one (.exit 0, sp 41 [] [])) (.one (.ret, sp 41 [(4, .bool false)] []))
theorem lAl (κ : Kp) : LoopOk (BHu κ).E 12 15 4 (loopE 0 stAl sideAl outAl) := by
  refine loopE_ok (fun a => a.1.length - a.2.2) ?_
  rintro ⟨l, m, i⟩ K ⟨h1, h2, h3⟩ ho
  simp only at h1 h2 h3
  rw [show (BHu κ).E.P = Pr κ from rfl]
  refine Eq.mpr (xAl κ l m i _ _ K) ?_
  have ho : brn (decide ((l.drop i).map keyA = (m.drop i).map keyA)) (K (.exit 0) (sp 41 [] [])) (K .ret (sp 41 [(4, .bool false)] [])) := ho
  rw [brn_iff, decide_eq_true_eq, decide_eq_false_iff_not] at ho
  rw [Int.toNat_natCast, brn_iff]
  refine ⟨fun h => ?_, fun h => ?_⟩
  · have hi : i < l.length := by have := of_decide_eq_true h; omega
    have hi2 : i < m.length := by omega
    have hc : (decide ((0 : Int) ≤ (i : Int)) && decide ((i : Int) < (l.length : Int))) = true := by simp; omega
    have hc2 : (decide ((0 : Int) ≤ (i : Int)) && decide ((i : Int) < (m.length : Int))) = true := by simp; omega
    rw [List.drop_eq_getElem_cons hi, List.drop_eq_getElem_cons hi2, List.map_cons, List.map_cons, ← nth_get' l i hi, ← nth_get' m i hi2, List.cons.injEq] at ho
    have w3 : IntKind.wrap .i64 ((i : Int) + 1) = ((i + 1 : Nat) : Int) := by rw [wrap_ok (by omega) (by omega)]; rfl
    rw [w3]
    refine cnd_iff.2 ⟨hc, cnd_iff.2 ⟨hc2, brn_iff.2 ⟨fun e => ho.2 fun e2 => ?_, fun e => cnd_iff.2 ⟨hc, cnd_iff.2 ⟨hc2, brn_iff.2 ⟨fun e3 => ho.2 fun e2 => ?_, fun e3 => ?_⟩⟩⟩⟩⟩⟩
    · rw [bne_iff_ne] at e
      exact e (Prod.mk.inj e2.1).1
    · rw [Bool.not_eq_true', beq_eq_false_iff_ne] at e3
      exact e3 (Prod.mk.inj e2.1).2
    · rw [bne_eq_false_iff_eq] at e
      rw [Bool.not_eq_false', beq_iff_eq] at e3
      refine ⟨l.length - (i + 1), by simp only; omega, ⟨l, m, i + 1⟩, rfl, ⟨h1, h2, hi⟩, rfl, ?_⟩
      have hk : keyA (nth l i) = keyA (nth m i) := Prod.ext e e3
      show brn (decide ((l.drop (i + 1)).map keyA = (m.drop (i + 1)).map keyA)) (K (.exit 0) (sp 41 [] [])) (K .ret (sp 41 [(4, .bool false)] []))
      rw [brn_iff, decide_eq_true_eq, decide_eq_false_iff_not]
      exact ⟨fun e4 => ho.1 ⟨hk, e4⟩, fun e4 => ho.2 fun e5 => e4 e5.2⟩
  · have hi : l.length ≤ i := by have := of_decide_eq_false h; omega
    refine ho.1 ?_
    rw [List.drop_eq_nil_of_le hi, List.drop_eq_nil_of_le (by omega)]
noncomputable def BAm (κ : Kp) : EB := (BHu κ).loop (lAl κ)
theorem yAl (κ : Kp) (l m : List AV) (K : AV → List Dn.Obj → Prop) : (funA (BAm κ).E 12 15 [.lst 31 l, .lst 31 m] [] K) = (
  brn ((↑(l.length) : Int) != (↑(m.length) : Int)) (K (AV.bool false) []) (loopCode (Pg.toProgram (Env.P (EB.E (BHu κ)))) 15 4 = loopCode (Pg.toProgram (Env.P
  (EB.E (BHu κ)))) 15 4 ∧ ∃ (a : List AV × List AV × Nat), sp 41 [(0, AV.lst 31 l), (1, AV.lst 31 m), (5, AV.int 0)] [] = stAl a ∧ sideAl a ∧ brn (decide
  (List.map keyA (List.drop a.2.2 a.1) = List.map keyA (List.drop a.2.2 a.2.1))) (K (AV.bool true) []) (K (AV.bool false) []))) := by kernel_rfl
def gAl : List AV → Option (Bool × AV)
  | [.lst 31 l, .lst 31 m] => some (decide (l.length ≤ 1000000000), .bool (decide (l.map keyA = m.map keyA)))
  | _ => none
theorem pAl (κ : Kp) : PureOk (BAm κ).E 12 15 gAl := by
  intro args x hh
  unfold gAl at hh
  split at hh
  · rename_i l m
    simp only [Option.some.injEq, Prod.mk.injEq, decide_eq_true_eq] at hh
    obtain ⟨h1, rfl⟩ := hh
    refine ⟨_, rfl, rfl, Eq.mpr (yAl κ l m _) ?_⟩
    rw [brn_iff]
    refine ⟨fun e => ?_, fun e => ⟨rfl, ⟨l, m, 0⟩, rfl, ⟨?_, h1, Nat.zero_le _⟩, ?_⟩⟩
    · rw [bne_iff_ne] at e
      rw [decide_eq_false]
      intro e2
      have := congrArg List.length e2
      rw [List.length_map, List.length_map] at this
      exact e (by rw [this])
    · rw [bne_eq_false_iff_eq] at e
      simp only
      omega
    · rw [List.drop_zero, List.drop_zero, brn_iff]
      exact ⟨fun e => (by simp only at e; rw [e]), fun e => (by simp only at e; rw [e])⟩
  · cases hh
noncomputable def BAl (κ : Kp) : EB := (BAm κ).pure (pAl κ)
end Go.Proofs.YtbppdpbagmbmpaaGreatDoor
namespace Go.Proofs.YtbppdpbagmbmpaaGreatDoor
open Go Go.Dn Go.Proofs
attribute [local irreducible] funA vc
set_option maxRecDepth 20000
theorem lexG_append : ∀ (a b : List ByteArray) (ln : Int), lexG (a ++ b) ln = match lexG a ln with | none => none | some x => (lexG b (ln + a.length)).map (x ++ ·)
  | [], b, ln => by
    simp [lexG]
  | t :: a, b, ln => by
    rw [List.cons_append, lexG, lexG]
    cases lineG t with
    | none => rfl
    | some x =>
      simp only
      rw [lexG_append a b (ln + 1), List.length_cons, show ln + ((a.length + 1 : Nat) : Int) = ln + 1 + (a.length : Int) by omega]
      cases lexG a (ln + 1) with
      | none => rfl
      | some y =>
        simp only [Option.map_some]
        cases lexG b (ln + 1 + (a.length : Int)) with
        | none => rfl
        | some z => simp
def keyT (x : TK) : Int × List UInt8 := (x.1, x.2.1.toList)
theorem lexG_shift : ∀ (b : List ByteArray) (ln ln' : Int), (lexG b ln).map (·.map keyT) = (lexG b ln').map (·.map keyT)
  | [], _, _ => rfl
  | t :: b, ln, ln' => by
    rw [lexG, lexG]
    cases lineG t with
    | none => rfl
    | some x =>
      have ih := lexG_shift b (ln + 1) (ln' + 1)
      simp only
      cases h1 : lexG b (ln + 1) with
      | none =>
        rw [h1] at ih
        cases h2 : lexG b (ln' + 1) with
        | none => rfl
        | some y => rw [h2] at ih; cases ih
      | some z =>
        rw [h1] at ih
        cases h2 : lexG b (ln' + 1) with
        | none => rw [h2] at ih; cases ih
        | some y =>
          rw [h2] at ih
          simp only [Option.map_some, Option.some.injEq, List.map_append, List.map_map] at ih ⊢
          rw [ih]; rfl
theorem key_avT (l : List TK) : (l.map avT).map keyA = l.map keyT := by
  rw [List.map_map]; rfl
theorem bl_app (s t : ByteArray) : bl (s ++ t) = bl s ++ bl t := by
  show (s ++ t).data.toList = _
  rw [ByteArray.data_append, Array.toList_append]
theorem lin_join (s t : ByteArray) : linB (s ++ (ByteArray.mk #[10]) ++ t) = linB s ++ linB t := by
  unfold linB
  rw [bl_app, bl_app, show bl (ByteArray.mk #[10]) = [10] from rfl, List.append_assoc, List.singleton_append, linL_app, List.map_append]
theorem yJoi (κ : Kp) (s t : ByteArray) (K : AV → List Dn.Obj → Prop) : (funA (BAl κ).E 12 6 [.lit (.string s), .lit (.string t)] [] K) = (
  cnd (true && decide ((0 : Int) ≤ if (2000 : Int) < (↑(ByteArray.size s) : Int) then (2000 : Int) else (↑(ByteArray.size s) : Int)) && decide ((if (2000 : Int) <
  (↑(ByteArray.size s) : Int) then (2000 : Int) else (↑(ByteArray.size s) : Int)) ≤ (↑(ByteArray.size s) : Int))) (cnd (true && decide ((0 : Int) ≤ if (2000 :
  Int) < (↑(ByteArray.size t) : Int) then (2000 : Int) else (↑(ByteArray.size t) : Int)) && decide ((if (2000 : Int) < (↑(ByteArray.size t) : Int) then (2000 :
  Int) else (↑(ByteArray.size t) : Int)) ≤ (↑(ByteArray.size t) : Int))) (∃ (a : ByteArray), ([AV.lit (Value.string (ByteArray.extract s 0 (Int.toNat (if (2000 :
  Int) < (↑(ByteArray.size s) : Int) then (2000 : Int) else (↑(ByteArray.size s) : Int)))))], []) = stLx a ∧ sideLx a ∧ brn (Option.isNone (Prod.snd (Prod.snd
  (lexA a)))) (∃ (a_1 : ByteArray), ([AV.lit (Value.string (ByteArray.extract t 0 (Int.toNat (if (2000 : Int) < (↑(ByteArray.size t) : Int) then (2000 : Int)
  else (↑(ByteArray.size t) : Int)))))], []) = stLx a_1 ∧ sideLx a_1 ∧ brn (Option.isNone (Prod.snd (Prod.snd (lexA a_1)))) (cnd (Nat.ble (ByteArray.size
  (ByteArray.extract s 0 (Int.toNat (if (2000 : Int) < (↑(ByteArray.size s) : Int) then (2000 : Int) else (↑(ByteArray.size s) : Int)))) + 1)
  9223372036854775807) (cnd (Nat.ble (ByteArray.size (ByteArray.extract s 0 (Int.toNat (if (2000 : Int) < (↑(ByteArray.size s) : Int) then (2000 : Int) else
  (↑(ByteArray.size s) : Int))) ++ { data := #[OfNat.ofNat 10] }) + ByteArray.size (ByteArray.extract t 0 (Int.toNat (if (2000 : Int) < (↑(ByteArray.size t) :
  Int) then (2000 : Int) else (↑(ByteArray.size t) : Int))))) 9223372036854775807) (∃ (a_2 : ByteArray), ([AV.lit (Value.string (ByteArray.extract s 0 (Int.toNat
  (if (2000 : Int) < (↑(ByteArray.size s) : Int) then (2000 : Int) else (↑(ByteArray.size s) : Int))) ++ { data := #[OfNat.ofNat 10] } ++ ByteArray.extract t 0
  (Int.toNat (if (2000 : Int) < (↑(ByteArray.size t) : Int) then (2000 : Int) else (↑(ByteArray.size t) : Int)))))], []) = stLx a_2 ∧ sideLx a_2 ∧ brn
  (Option.isNone (Prod.snd (Prod.snd (lexA a_2)))) (cnd (true && decide ((0 : Int) ≤ IntKind.wrap IntKind.i64 ((↑(List.length (List.map avT (Prod.fst (lexA a))))
  : Int) + (↑(List.length (List.map avT (Prod.fst (lexA a_1)))) : Int))) && decide ((Int.toNat (IntKind.wrap IntKind.i64 ((↑(List.length (List.map avT (Prod.fst
  (lexA a)))) : Int) + (↑(List.length (List.map avT (Prod.fst (lexA a_1)))) : Int))) + 1) * 33 ≤ 70368744177664) && true) (cnd (decide ((0 + List.length
  (List.take (List.length (List.map avT (Prod.fst (lexA a)))) (List.drop 0 (List.map avT (Prod.fst (lexA a))))) + 1) * 33 ≤ 70368744177664)) (cnd (decide ((0 +
  List.length (List.take (List.length (List.map avT (Prod.fst (lexA a)))) (List.drop 0 (List.map avT (Prod.fst (lexA a))))) + List.length (List.take (List.length
  (List.map avT (Prod.fst (lexA a_1)))) (List.drop 0 (List.map avT (Prod.fst (lexA a_1))))) + 1) * 33 ≤ 70368744177664)) (cnd (decide (List.length (List.take
  (List.length (List.map avT (Prod.fst (lexA a_2)))) (List.drop 0 (List.map avT (Prod.fst (lexA a_2))))) ≤ 1000000000)) (K (AV.lit (Value.bool (decide (List.map
  keyA (List.take (List.length (List.map avT (Prod.fst (lexA a_2)))) (List.drop 0 (List.map avT (Prod.fst (lexA a_2))))) = List.map keyA (List.take (0 +
  List.length (List.take (List.length (List.map avT (Prod.fst (lexA a)))) (List.drop 0 (List.map avT (Prod.fst (lexA a))))) + List.length (List.take (List.length
  (List.map avT (Prod.fst (lexA a_1)))) (List.drop 0 (List.map avT (Prod.fst (lexA a_1)))))) (List.drop 0 (List.take (0 + List.length (List.take (List.length
  (List.map avT (Prod.fst (lexA a)))) (List.drop 0 (List.map avT (Prod.fst (lexA a)))))) ([] ++ List.take (List.length (List.map avT (Prod.fst (lexA a))))
  (List.drop 0 (List.map avT (Prod.fst (lexA a))))) ++ List.take (List.length (List.map avT (Prod.fst (lexA a_1)))) (List.drop 0 (List.map avT (Prod.fst (lexA
  a_1))))))))))) []))))) (brn (Option.getD (Prod.snd (Prod.snd (lexA a_2))) (0 : Int) == (0 : Int)) (cnd (true && decide ((0 : Int) ≤ IntKind.wrap IntKind.i64
  ((↑(List.length (List.map avT (Prod.fst (lexA a)))) : Int) + (↑(List.length (List.map avT (Prod.fst (lexA a_1)))) : Int))) && decide ((Int.toNat (IntKind.wrap
  IntKind.i64 ((↑(List.length (List.map avT (Prod.fst (lexA a)))) : Int) + (↑(List.length (List.map avT (Prod.fst (lexA a_1)))) : Int))) + 1) * 33 ≤
  70368744177664) && true) (cnd (decide ((0 + List.length (List.take (List.length (List.map avT (Prod.fst (lexA a)))) (List.drop 0 (List.map avT (Prod.fst (lexA
  a))))) + 1) * 33 ≤ 70368744177664)) (cnd (decide ((0 + List.length (List.take (List.length (List.map avT (Prod.fst (lexA a)))) (List.drop 0 (List.map avT
  (Prod.fst (lexA a))))) + List.length (List.take (List.length (List.map avT (Prod.fst (lexA a_1)))) (List.drop 0 (List.map avT (Prod.fst (lexA a_1))))) + 1) *
  33 ≤ 70368744177664)) (K (AV.lit (Value.bool (decide ([] = List.map keyA (List.take (0 + List.length (List.take (List.length (List.map avT (Prod.fst (lexA
  a)))) (List.drop 0 (List.map avT (Prod.fst (lexA a))))) + List.length (List.take (List.length (List.map avT (Prod.fst (lexA a_1)))) (List.drop 0 (List.map avT
  (Prod.fst (lexA a_1)))))) (List.drop 0 (List.take (0 + List.length (List.take (List.length (List.map avT (Prod.fst (lexA a)))) (List.drop 0 (List.map avT
  (Prod.fst (lexA a)))))) ([] ++ List.take (List.length (List.map avT (Prod.fst (lexA a)))) (List.drop 0 (List.map avT (Prod.fst (lexA a))))) ++ List.take
  (List.length (List.map avT (Prod.fst (lexA a_1)))) (List.drop 0 (List.map avT (Prod.fst (lexA a_1))))))))))) [])))) (K (AV.bool false) []))))) (cnd (Nat.ble
  (ByteArray.size (ByteArray.extract s 0 (Int.toNat (if (2000 : Int) < (↑(ByteArray.size s) : Int) then (2000 : Int) else (↑(ByteArray.size s) : Int)))) + 1)
  9223372036854775807) (cnd (Nat.ble (ByteArray.size (ByteArray.extract s 0 (Int.toNat (if (2000 : Int) < (↑(ByteArray.size s) : Int) then (2000 : Int) else
  (↑(ByteArray.size s) : Int))) ++ { data := #[OfNat.ofNat 10] }) + ByteArray.size (ByteArray.extract t 0 (Int.toNat (if (2000 : Int) < (↑(ByteArray.size t) :
  Int) then (2000 : Int) else (↑(ByteArray.size t) : Int))))) 9223372036854775807) (∃ (a_2 : ByteArray), ([AV.lit (Value.string (ByteArray.extract s 0 (Int.toNat
  (if (2000 : Int) < (↑(ByteArray.size s) : Int) then (2000 : Int) else (↑(ByteArray.size s) : Int))) ++ { data := #[OfNat.ofNat 10] } ++ ByteArray.extract t 0
  (Int.toNat (if (2000 : Int) < (↑(ByteArray.size t) : Int) then (2000 : Int) else (↑(ByteArray.size t) : Int)))))], []) = stLx a_2 ∧ sideLx a_2 ∧ brn
  (Option.isNone (Prod.snd (Prod.snd (lexA a_2)))) (brn (Option.getD (Prod.snd (Prod.snd (lexA a_1))) (0 : Int) != (0 : Int)) (K (AV.bool false) []) (cnd (true
  && decide ((0 : Int) ≤ IntKind.wrap IntKind.i64 ((↑(List.length (List.map avT (Prod.fst (lexA a)))) : Int) + (0 : Int))) && decide ((Int.toNat (IntKind.wrap
  IntKind.i64 ((↑(List.length (List.map avT (Prod.fst (lexA a)))) : Int) + (0 : Int))) + 1) * 33 ≤ 70368744177664) && true) (cnd (decide ((0 + List.length
  (List.take (List.length (List.map avT (Prod.fst (lexA a)))) (List.drop 0 (List.map avT (Prod.fst (lexA a))))) + 1) * 33 ≤ 70368744177664)) (cnd (decide ((0 +
  List.length (List.take (List.length (List.map avT (Prod.fst (lexA a)))) (List.drop 0 (List.map avT (Prod.fst (lexA a))))) + 0 + 1) * 33 ≤ 70368744177664)) (cnd
  (decide (List.length (List.take (List.length (List.map avT (Prod.fst (lexA a_2)))) (List.drop 0 (List.map avT (Prod.fst (lexA a_2))))) ≤ 1000000000)) (K
  (AV.lit (Value.bool (decide (List.map keyA (List.take (List.length (List.map avT (Prod.fst (lexA a_2)))) (List.drop 0 (List.map avT (Prod.fst (lexA a_2))))) =
  List.map keyA (List.take (0 + List.length (List.take (List.length (List.map avT (Prod.fst (lexA a)))) (List.drop 0 (List.map avT (Prod.fst (lexA a))))) + 0)
  (List.drop 0 (List.take (0 + List.length (List.take (List.length (List.map avT (Prod.fst (lexA a)))) (List.drop 0 (List.map avT (Prod.fst (lexA a)))))) ([] ++
  List.take (List.length (List.map avT (Prod.fst (lexA a)))) (List.drop 0 (List.map avT (Prod.fst (lexA a))))) ++ []))))))) [])))))) (brn (Option.getD (Prod.snd
  (Prod.snd (lexA a_1))) (0 : Int) != (0 : Int)) (K (AV.lit (Value.bool (Option.getD (Prod.snd (Prod.snd (lexA a_2))) (0 : Int) != (0 : Int)))) []) (brn
  (Option.getD (Prod.snd (Prod.snd (lexA a_2))) (0 : Int) == (0 : Int)) (cnd (true && decide ((0 : Int) ≤ IntKind.wrap IntKind.i64 ((↑(List.length (List.map avT
  (Prod.fst (lexA a)))) : Int) + (0 : Int))) && decide ((Int.toNat (IntKind.wrap IntKind.i64 ((↑(List.length (List.map avT (Prod.fst (lexA a)))) : Int) + (0 :
  Int))) + 1) * 33 ≤ 70368744177664) && true) (cnd (decide ((0 + List.length (List.take (List.length (List.map avT (Prod.fst (lexA a)))) (List.drop 0 (List.map
  avT (Prod.fst (lexA a))))) + 1) * 33 ≤ 70368744177664)) (cnd (decide ((0 + List.length (List.take (List.length (List.map avT (Prod.fst (lexA a)))) (List.drop 0
  (List.map avT (Prod.fst (lexA a))))) + 0 + 1) * 33 ≤ 70368744177664)) (K (AV.lit (Value.bool (decide ([] = List.map keyA (List.take (0 + List.length (List.take
  (List.length (List.map avT (Prod.fst (lexA a)))) (List.drop 0 (List.map avT (Prod.fst (lexA a))))) + 0) (List.drop 0 (List.take (0 + List.length (List.take
  (List.length (List.map avT (Prod.fst (lexA a)))) (List.drop 0 (List.map avT (Prod.fst (lexA a)))))) ([] ++ List.take (List.length (List.map avT (Prod.fst (lexA
  a)))) (List.drop 0 (List.map avT (Prod.fst (lexA a))))) ++ []))))))) [])))) (K (AV.bool false) []))))))) (∃ (a_1 : ByteArray), ([AV.lit (Value.string
  (ByteArray.extract t 0 (Int.toNat (if (2000 : Int) < (↑(ByteArray.size t) : Int) then (2000 : Int) else (↑(ByteArray.size t) : Int)))))], []) = stLx a_1 ∧
  sideLx a_1 ∧ brn (Option.isNone (Prod.snd (Prod.snd (lexA a_1)))) (cnd (Nat.ble (ByteArray.size (ByteArray.extract s 0 (Int.toNat (if (2000 : Int) <
  (↑(ByteArray.size s) : Int) then (2000 : Int) else (↑(ByteArray.size s) : Int)))) + 1) 9223372036854775807) (cnd (Nat.ble (ByteArray.size (ByteArray.extract s
  0 (Int.toNat (if (2000 : Int) < (↑(ByteArray.size s) : Int) then (2000 : Int) else (↑(ByteArray.size s) : Int))) ++ { data := #[OfNat.ofNat 10] }) +
  ByteArray.size (ByteArray.extract t 0 (Int.toNat (if (2000 : Int) < (↑(ByteArray.size t) : Int) then (2000 : Int) else (↑(ByteArray.size t) : Int)))))
  9223372036854775807) (∃ (a_2 : ByteArray), ([AV.lit (Value.string (ByteArray.extract s 0 (Int.toNat (if (2000 : Int) < (↑(ByteArray.size s) : Int) then (2000 :
  Int) else (↑(ByteArray.size s) : Int))) ++ { data := #[OfNat.ofNat 10] } ++ ByteArray.extract t 0 (Int.toNat (if (2000 : Int) < (↑(ByteArray.size t) : Int)
  then (2000 : Int) else (↑(ByteArray.size t) : Int)))))], []) = stLx a_2 ∧ sideLx a_2 ∧ brn (Option.isNone (Prod.snd (Prod.snd (lexA a_2)))) (brn (Option.getD
  (Prod.snd (Prod.snd (lexA a))) (0 : Int) != (0 : Int)) (K (AV.bool false) []) (cnd (true && decide ((0 : Int) ≤ IntKind.wrap IntKind.i64 ((0 : Int) +
  (↑(List.length (List.map avT (Prod.fst (lexA a_1)))) : Int))) && decide ((Int.toNat (IntKind.wrap IntKind.i64 ((0 : Int) + (↑(List.length (List.map avT
  (Prod.fst (lexA a_1)))) : Int))) + 1) * 33 ≤ 70368744177664) && true) (cnd (decide ((0 + List.length (List.take (List.length (List.map avT (Prod.fst (lexA
  a_1)))) (List.drop 0 (List.map avT (Prod.fst (lexA a_1))))) + 1) * 33 ≤ 70368744177664)) (cnd (decide (List.length (List.take (List.length (List.map avT
  (Prod.fst (lexA a_2)))) (List.drop 0 (List.map avT (Prod.fst (lexA a_2))))) ≤ 1000000000)) (K (AV.lit (Value.bool (decide (List.map keyA (List.take
  (List.length (List.map avT (Prod.fst (lexA a_2)))) (List.drop 0 (List.map avT (Prod.fst (lexA a_2))))) = List.map keyA (List.take (0 + List.length (List.take
  (List.length (List.map avT (Prod.fst (lexA a_1)))) (List.drop 0 (List.map avT (Prod.fst (lexA a_1)))))) (List.drop 0 ([] ++ List.take (List.length (List.map
  avT (Prod.fst (lexA a_1)))) (List.drop 0 (List.map avT (Prod.fst (lexA a_1))))))))))) []))))) (brn (Option.getD (Prod.snd (Prod.snd (lexA a))) (0 : Int) != (0
  : Int)) (K (AV.lit (Value.bool (Option.getD (Prod.snd (Prod.snd (lexA a_2))) (0 : Int) != (0 : Int)))) []) (brn (Option.getD (Prod.snd (Prod.snd (lexA a_2)))
  (0 : Int) == (0 : Int)) (cnd (true && decide ((0 : Int) ≤ IntKind.wrap IntKind.i64 ((0 : Int) + (↑(List.length (List.map avT (Prod.fst (lexA a_1)))) : Int)))
  && decide ((Int.toNat (IntKind.wrap IntKind.i64 ((0 : Int) + (↑(List.length (List.map avT (Prod.fst (lexA a_1)))) : Int))) + 1) * 33 ≤ 70368744177664) && true)
  (cnd (decide ((0 + List.length (List.take (List.length (List.map avT (Prod.fst (lexA a_1)))) (List.drop 0 (List.map avT (Prod.fst (lexA a_1))))) + 1) * 33 ≤
  70368744177664)) (K (AV.lit (Value.bool (decide ([] = List.map keyA (List.take (0 + List.length (List.take (List.length (List.map avT (Prod.fst (lexA a_1))))
  (List.drop 0 (List.map avT (Prod.fst (lexA a_1)))))) (List.drop 0 ([] ++ List.take (List.length (List.map avT (Prod.fst (lexA a_1)))) (List.drop 0 (List.map
  avT (Prod.fst (lexA a_1))))))))))) []))) (K (AV.bool false) [])))))) (cnd (Nat.ble (ByteArray.size (ByteArray.extract s 0 (Int.toNat (if (2000 : Int) <
  (↑(ByteArray.size s) : Int) then (2000 : Int) else (↑(ByteArray.size s) : Int)))) + 1) 9223372036854775807) (cnd (Nat.ble (ByteArray.size (ByteArray.extract s
  0 (Int.toNat (if (2000 : Int) < (↑(ByteArray.size s) : Int) then (2000 : Int) else (↑(ByteArray.size s) : Int))) ++ { data := #[OfNat.ofNat 10] }) +
  ByteArray.size (ByteArray.extract t 0 (Int.toNat (if (2000 : Int) < (↑(ByteArray.size t) : Int) then (2000 : Int) else (↑(ByteArray.size t) : Int)))))
  9223372036854775807) (∃ (a_2 : ByteArray), ([AV.lit (Value.string (ByteArray.extract s 0 (Int.toNat (if (2000 : Int) < (↑(ByteArray.size s) : Int) then (2000 :
  Int) else (↑(ByteArray.size s) : Int))) ++ { data := #[OfNat.ofNat 10] } ++ ByteArray.extract t 0 (Int.toNat (if (2000 : Int) < (↑(ByteArray.size t) : Int)
  then (2000 : Int) else (↑(ByteArray.size t) : Int)))))], []) = stLx a_2 ∧ sideLx a_2 ∧ brn (Option.isNone (Prod.snd (Prod.snd (lexA a_2)))) (brn (Option.getD
  (Prod.snd (Prod.snd (lexA a))) (0 : Int) != (0 : Int)) (K (AV.bool false) []) (brn (Option.getD (Prod.snd (Prod.snd (lexA a_1))) (0 : Int) != (0 : Int)) (K
  (AV.bool false) []) (cnd (decide (List.length (List.take (List.length (List.map avT (Prod.fst (lexA a_2)))) (List.drop 0 (List.map avT (Prod.fst (lexA a_2)))))
  ≤ 1000000000)) (K (AV.lit (Value.bool (decide (List.map keyA (List.take (List.length (List.map avT (Prod.fst (lexA a_2)))) (List.drop 0 (List.map avT (Prod.fst
  (lexA a_2))))) = [])))) [])))) (brn (Option.getD (Prod.snd (Prod.snd (lexA a))) (0 : Int) != (0 : Int)) (K (AV.lit (Value.bool (Option.getD (Prod.snd (Prod.snd
  (lexA a_2))) (0 : Int) != (0 : Int)))) []) (brn (Option.getD (Prod.snd (Prod.snd (lexA a_1))) (0 : Int) != (0 : Int)) (K (AV.lit (Value.bool (Option.getD
  (Prod.snd (Prod.snd (lexA a_2))) (0 : Int) != (0 : Int)))) []) (brn (Option.getD (Prod.snd (Prod.snd (lexA a_2))) (0 : Int) == (0 : Int)) (K (AV.bool true) [])
  (K (AV.bool false) []))))))))))) := by kernel_rfl
theorem nble {a : Nat} (h : a ≤ 9223372036854775807) : Nat.ble a 9223372036854775807 = true := Nat.ble_eq_true_of_le h
theorem simJoi (κ : Kp) (s t : ByteArray) : SimCall (Pr κ) 6 [.lit (.string s), .lit (.string t)] [] fun r _ => r = .bool true :=
  fun_sound (BAl κ).ok (BAl κ).mono (Eq.mpr (yJoi κ s t _) (by
    have hm : ∀ u : ByteArray, (if (2000 : Int) < (u.size : Int) then (2000 : Int) else (u.size : Int)) = ((min u.size 2000 : Nat) : Int) := fun u => by split <;> omega
    rw [hm s, hm t, Int.toNat_natCast, Int.toNat_natCast]
    refine cnd_iff.2 ⟨by simp; omega, cnd_iff.2 ⟨by simp; omega, ?_⟩⟩
    have ha : (s.extract 0 (min s.size 2000)).size ≤ 2000 := by rw [ByteArray.size_extract]; omega
    have hb : (t.extract 0 (min t.size 2000)).size ≤ 2000 := by rw [ByteArray.size_extract]; omega
    generalize s.extract 0 (min s.size 2000) = a at ha ⊢
    generalize t.extract 0 (min t.size 2000) = b at hb ⊢
    obtain ⟨a1, a2⟩ := lexA_eq (s := a) (by omega)
    obtain ⟨b1, b2⟩ := lexA_eq (s := b) (by omega)
    have hz : (a ++ (ByteArray.mk #[10]) ++ b).size ≤ 4001 := by
      rw [ByteArray.size_append, ByteArray.size_append, show (ByteArray.mk #[10]).size = 1 from rfl]; omega
    have n1 : Nat.ble (a.size + 1) 9223372036854775807 = true := nble (by omega)
    have n2 : Nat.ble ((a ++ (ByteArray.mk #[10])).size + b.size) 9223372036854775807 = true := nble (by rw [ByteArray.size_append, show (ByteArray.mk #[10]).size = 1 from rfl]; omega)
    obtain ⟨z1, z2⟩ := lexA_eq (s := a ++ (ByteArray.mk #[10]) ++ b) (by omega)
    rw [lin_join, lexG_append] at z1 z2
    have sz : sumL (linB a) ≤ 2001 ∧ sumL (linB b) ≤ 2001 := by rw [sumL_lin, sumL_lin]; omega
    have shf := lexG_shift (linB b) (0 + (linB a).length) 0
    refine ⟨a, rfl, trivial, ?_⟩
    cases ga : lexG (linB a) 0 with
    | none =>
      obtain ⟨ja, qa⟩ := a2 ga
      rw [ga] at z2
      obtain ⟨jz, qz⟩ := z2 rfl
      rw [qa]
      refine brn_iff.2 ⟨fun e => (by cases e), fun _ => ⟨b, rfl, trivial, ?_⟩⟩
      cases gb : lexG (linB b) 0 with
      | none =>
        obtain ⟨jb, qb⟩ := b2 gb
        rw [qb]
        refine brn_iff.2 ⟨fun e => (by cases e), fun _ => cnd_iff.2 ⟨n1, cnd_iff.2 ⟨n2, _, rfl, trivial, ?_⟩⟩⟩
        rw [qz]
        exact brn_iff.2 ⟨fun e => (by cases e), fun _ => brn_iff.2 ⟨fun _ => rfl, fun e => (by cases e)⟩⟩
      | some lb =>
        rw [b1 lb gb]
        refine brn_iff.2 ⟨fun _ => cnd_iff.2 ⟨n1, cnd_iff.2 ⟨n2, _, rfl, trivial, ?_⟩⟩, fun e => (by cases e)⟩
        rw [qz]
        exact brn_iff.2 ⟨fun e => (by cases e), fun _ => brn_iff.2 ⟨fun _ => rfl, fun e => (by cases e)⟩⟩
    | some la =>
      have hla := lexG_len (n := 2001) sz.1 ga
      rw [ga] at z1 z2
      rw [a1 la ga]
      refine brn_iff.2 ⟨fun _ => ⟨b, rfl, trivial, ?_⟩, fun e => (by cases e)⟩
      cases gb : lexG (linB b) 0 with
      | none =>
        obtain ⟨jb, qb⟩ := b2 gb
        rw [gb] at shf
        have hn : lexG (linB b) (0 + (linB a).length) = none := Option.map_eq_none_iff.1 shf
        rw [hn] at z2
        obtain ⟨jz, qz⟩ := z2 rfl
        rw [qb]
        refine brn_iff.2 ⟨fun e => (by cases e), fun _ => cnd_iff.2 ⟨n1, cnd_iff.2 ⟨n2, _, rfl, trivial, ?_⟩⟩⟩
        rw [qz]
        exact brn_iff.2 ⟨fun e => (by cases e), fun _ => brn_iff.2 ⟨fun _ => rfl, fun e => (by cases e)⟩⟩
      | some lb =>
        have hlb := lexG_len (n := 2001) sz.2 gb
        rw [b1 lb gb]
        rw [gb] at shf
        obtain ⟨lc, gc, hc⟩ := Option.map_eq_some_iff.1 shf
        have hlc : lc.length = lb.length := by
          have := congrArg List.length hc
          rwa [List.length_map, List.length_map] at this
        rw [gc] at z1
        refine brn_iff.2 ⟨fun _ => cnd_iff.2 ⟨n1, cnd_iff.2 ⟨n2, _, rfl, trivial, ?_⟩⟩, fun e => (by cases e)⟩
        rw [z1 (la ++ lc) rfl]
        refine brn_iff.2 ⟨fun _ => ?_, fun e => (by cases e)⟩
        dsimp only
        have ta : (la.map avT).take la.length = la.map avT := List.take_of_length_le (by simp)
        have tb : (lb.map avT).take lb.length = lb.map avT := List.take_of_length_le (by simp)
        simp only [List.drop_zero, Nat.zero_add, List.nil_append, List.length_map, ta, tb]
        have w : IntKind.wrap .i64 ((la.length : Int) + (lb.length : Int)) = ((la.length + lb.length : Nat) : Int) := by rw [wrap_ok (by omega) (by omega)]; rfl
        rw [w, Int.toNat_natCast]
        refine cnd_iff.2 ⟨by simp; omega, cnd_iff.2 ⟨by simp; omega, cnd_iff.2 ⟨by simp; omega, cnd_iff.2 ⟨by simp; omega, ?_⟩⟩⟩⟩
        have e : List.map keyA (List.take (la ++ lc).length (List.map avT (la ++ lc))) = List.map keyA (List.take (la.length + lb.length) (List.map avT la ++ List.map avT lb)) := by
          rw [List.take_of_length_le (by simp), List.take_of_length_le (by simp), ← List.map_append, key_avT, key_avT, List.map_append, List.map_append, hc]
        rw [decide_eq_true e]))
end Go.Proofs.YtbppdpbagmbmpaaGreatDoor
