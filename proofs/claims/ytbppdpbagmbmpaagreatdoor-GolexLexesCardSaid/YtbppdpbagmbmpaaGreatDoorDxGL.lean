import Derived.Test.YtbppdpbagmbmpaaGreatDoorDxGI
namespace Go.Proofs.YtbppdpbagmbmpaaGreatDoor
open Go Go.Dn Go.Proofs
attribute [local irreducible] funA vc
set_option maxRecDepth 20000
def EB.inline (b : EB) (l : List Nat) : EB := ⟨{ b.E with inl := fun f => memN f l || b.E.inl f }, ⟨b.ok.prog, b.ok.pcall, b.ok.call, b.ok.rng, b.ok.loop⟩, ⟨b.mono.call, b.mono.loop, b.mono.rng⟩⟩
noncomputable def BHs (κ : Kp) : EB := EB.inline (EB.hush (BSa κ) [36, 37, 71, 38, 47, 48, 67, 83]) [44, 45]
def plP (c : Nat) : Prop := (97 ≤ c ∧ c ≤ 122) ∨ (65 ≤ c ∧ c ≤ 90) ∨ (48 ≤ c ∧ c ≤ 57) ∨ c = 32 ∨ c = 40 ∨ c = 41 ∨ c = 44 ∨ c = 43
instance (c : Nat) : Decidable (plP c) := by unfold plP; exact inferInstance
def onP (c : Nat) : Prop := c = 40 ∨ c = 41 ∨ c = 44 ∨ c = 43
instance (c : Nat) : Decidable (onP c) := by unfold onP; exact inferInstance
end Go.Proofs.YtbppdpbagmbmpaaGreatDoor
namespace Go.Proofs.YtbppdpbagmbmpaaGreatDoor
open Go Go.Dn Go.Proofs
attribute [local irreducible] funA vc
set_option maxRecDepth 20000
theorem byte_hd {s : ByteArray} {c : UInt8} {r : List UInt8} (h : bl s = c :: r) : byteAt s 0 = c.toNat ∧ 0 < s.size := by
  have h0 : 0 < s.size := by rw [← bl_len, h]; simp
  obtain ⟨b, hd, hb⟩ := bl_at h0
  rw [List.drop_zero, h] at hd
  rw [hb, (List.cons.inj hd).1]
  exact ⟨rfl, h0⟩
theorem wrd_pos {c : UInt8} {r : List UInt8} (h : (isLe (c.toNat : Nat) || isDi (c.toNat : Nat)) = true) : 1 ≤ wrdL (c :: r) := by
  rw [wrdL, isWb, h]; simp
structure AL2 where
  s : ByteArray
  toks : List TK
  i : Nat
end Go.Proofs.YtbppdpbagmbmpaaGreatDoor
namespace Go.Proofs.YtbppdpbagmbmpaaGreatDoor
open Go Go.Dn Go.Proofs
attribute [local irreducible] funA vc
set_option maxRecDepth 20000
theorem yOn (κ : Kp) (c : Int) (K : AV → List Dn.Obj → Prop) : (funA (BHs κ).E 12 84 [.lit (.int .u8 c)] [] K) = (
  brn (c == (34 : Int)) (K (AV.str ({ data := #[OfNat.ofNat 92] } ++ bytesOf [AV.lit (Value.int IntKind.u8 c)])) []) (brn (c == (92 : Int)) (K (AV.str
  ({ data := #[OfNat.ofNat 92] } ++ bytesOf [AV.lit (Value.int IntKind.u8 c)])) []) (brn (c == (10 : Int)) (K (AV.str
  { data := #[OfNat.ofNat 92, OfNat.ofNat 110] }) []) (brn (decide (c < (32 : Int))) (cnd (decide ((0 : Int) ≤ Int.fdiv c (16 : Int)) && decide (Int.fdiv c (16 :
  Int) < (16 : Int))) (cnd (true && decide (IntKind.wrap IntKind.u8 (↑(BitVec.toNat (BitVec.ofInt 8 c &&& BitVec.ofInt 8 (15 : Int))) : Int) < (16 : Int))) (K
  (AV.lit (Value.string ({ data := #[OfNat.ofNat 92, OfNat.ofNat 120] } ++ bytesOf [AV.lit (Value.int IntKind.u8 (↑(byteAt
  { data := #[OfNat.ofNat 48, OfNat.ofNat 49, OfNat.ofNat 50, OfNat.ofNat 51, OfNat.ofNat 52, OfNat.ofNat 53, OfNat.ofNat 54, OfNat.ofNat 55, OfNat.ofNat 56, OfNat.ofNat 57, OfNat.ofNat 97, OfNat.ofNat 98, OfNat.ofNat 99, OfNat.ofNat 100, OfNat.ofNat 101, OfNat.ofNat 102] }
  (Int.toNat (Int.fdiv c (16 : Int)))) : Int)), AV.lit (Value.int IntKind.u8 (↑(byteAt
  { data := #[OfNat.ofNat 48, OfNat.ofNat 49, OfNat.ofNat 50, OfNat.ofNat 51, OfNat.ofNat 52, OfNat.ofNat 53, OfNat.ofNat 54, OfNat.ofNat 55, OfNat.ofNat 56, OfNat.ofNat 57, OfNat.ofNat 97, OfNat.ofNat 98, OfNat.ofNat 99, OfNat.ofNat 100, OfNat.ofNat 101, OfNat.ofNat 102] }
  (Int.toNat (IntKind.wrap IntKind.u8 (↑(BitVec.toNat (BitVec.ofInt 8 c &&& BitVec.ofInt 8 (15 : Int))) : Int)))) : Int))]))) []))) (brn (decide (c > (126 :
  Int))) (cnd (decide ((0 : Int) ≤ Int.fdiv c (16 : Int)) && decide (Int.fdiv c (16 : Int) < (16 : Int))) (cnd (true && decide (IntKind.wrap IntKind.u8
  (↑(BitVec.toNat (BitVec.ofInt 8 c &&& BitVec.ofInt 8 (15 : Int))) : Int) < (16 : Int))) (K (AV.lit (Value.string
  ({ data := #[OfNat.ofNat 92, OfNat.ofNat 120] } ++ bytesOf [AV.lit (Value.int IntKind.u8 (↑(byteAt
  { data := #[OfNat.ofNat 48, OfNat.ofNat 49, OfNat.ofNat 50, OfNat.ofNat 51, OfNat.ofNat 52, OfNat.ofNat 53, OfNat.ofNat 54, OfNat.ofNat 55, OfNat.ofNat 56, OfNat.ofNat 57, OfNat.ofNat 97, OfNat.ofNat 98, OfNat.ofNat 99, OfNat.ofNat 100, OfNat.ofNat 101, OfNat.ofNat 102] }
  (Int.toNat (Int.fdiv c (16 : Int)))) : Int)), AV.lit (Value.int IntKind.u8 (↑(byteAt
  { data := #[OfNat.ofNat 48, OfNat.ofNat 49, OfNat.ofNat 50, OfNat.ofNat 51, OfNat.ofNat 52, OfNat.ofNat 53, OfNat.ofNat 54, OfNat.ofNat 55, OfNat.ofNat 56, OfNat.ofNat 57, OfNat.ofNat 97, OfNat.ofNat 98, OfNat.ofNat 99, OfNat.ofNat 100, OfNat.ofNat 101, OfNat.ofNat 102] }
  (Int.toNat (IntKind.wrap IntKind.u8 (↑(BitVec.toNat (BitVec.ofInt 8 c &&& BitVec.ofInt 8 (15 : Int))) : Int)))) : Int))]))) []))) (K (AV.str (bytesOf [AV.lit
  (Value.int IntKind.u8 c)])) [])))))) := by kernel_rfl
def hxD (d : UInt8) : UInt8 := bif decide (d.toNat < 10) then 48 + d else 87 + d
def oneL (c : UInt8) : List UInt8 :=
  bif c == 34 then [92, c] else bif c == 92 then [92, c] else bif c == 10 then [92, 110]
  else bif decide (c.toNat < 32) || decide (c.toNat > 126) then [92, 120, hxD (c / 16), hxD (c % 16)] else [c]
def gOn : List AV → Option (Bool × AV)
  | [.lit (.int .u8 c)] => some (decide (0 ≤ c ∧ c < 256), .lit (.string (mkB (oneL c.toNat.toUInt8))))
  | _ => none
def hexT : ByteArray := ⟨#[48, 49, 50, 51, 52, 53, 54, 55, 56, 57, 97, 98, 99, 100, 101, 102]⟩
theorem on1 : ∀ k : Fin 256, (k.val == 34 || k.val == 92) = true → (ByteArray.mk #[92]) ++ bytesOf [.lit (.int .u8 (k.val : Int))] = mkB (oneL k.val.toUInt8) := by decide +kernel
theorem on2 : ∀ k : Fin 256, k.val = 10 → (ByteArray.mk #[92, 110]) = mkB (oneL k.val.toUInt8) := by decide +kernel
theorem on3 : ∀ k : Fin 256, (k.val ≠ 10 ∧ (k.val < 32 ∨ 126 < k.val)) → (decide (0 ≤ Int.fdiv (k.val : Int) 16) && decide (Int.fdiv (k.val : Int) 16 < 16)) = true ∧ (true && decide (IntKind.wrap .u8 ((BitVec.ofInt 8 (k.val : Int) &&& BitVec.ofInt 8 15).toNat : Int) < 16)) = true ∧ (ByteArray.mk #[92, 120]) ++ bytesOf [.lit (.int .u8 (byteAt hexT (Int.fdiv (k.val : Int) 16).toNat : Int)), .lit (.int .u8 (byteAt hexT (IntKind.wrap .u8 ((BitVec.ofInt 8 (k.val : Int) &&& BitVec.ofInt 8 15).toNat : Int)).toNat : Int))] = mkB (oneL k.val.toUInt8) := by decide +kernel
theorem on4 : ∀ k : Fin 256, (k.val ≠ 34 ∧ k.val ≠ 92 ∧ 32 ≤ k.val ∧ k.val ≤ 126) → bytesOf [.lit (.int .u8 (k.val : Int))] = mkB (oneL k.val.toUInt8) := by decide +kernel
theorem pOn (κ : Kp) : PureOk (BHs κ).E 12 84 gOn := by
  intro args x hh
  unfold gOn at hh
  split at hh
  · rename_i c
    simp only [Option.some.injEq, Prod.mk.injEq, decide_eq_true_eq] at hh
    obtain ⟨⟨h0, h1⟩, rfl⟩ := hh
    obtain ⟨k, rfl⟩ : ∃ k : Nat, c = k := ⟨c.toNat, by omega⟩
    have hk : k < 256 := by omega
    refine ⟨_, rfl, rfl, Eq.mpr (yOn κ k _) ?_⟩
    rw [Int.toNat_natCast]
    refine brn_iff.2 ⟨fun e => ?_, fun e => brn_iff.2 ⟨fun e2 => ?_, fun e2 => brn_iff.2 ⟨fun e3 => ?_, fun e3 => brn_iff.2 ⟨fun e4 => ?_, fun e4 => brn_iff.2 ⟨fun e5 => ?_, fun e5 => ?_⟩⟩⟩⟩⟩
    · exact congrArg (fun b => AV.lit (.string b)) (on1 ⟨k, hk⟩ (by have := beq_iff_eq.1 e; simp; omega))
    · exact congrArg (fun b => AV.lit (.string b)) (on1 ⟨k, hk⟩ (by have := beq_iff_eq.1 e2; simp; omega))
    · exact congrArg (fun b => AV.lit (.string b)) (on2 ⟨k, hk⟩ (by have := beq_iff_eq.1 e3; simp only; omega))
    · have h3 := beq_eq_false_iff_ne.1 e3
      have h4 := of_decide_eq_true e4
      obtain ⟨g1, g2, g3⟩ := on3 ⟨k, hk⟩ ⟨by simp only; omega, .inl (by simp only; omega)⟩
      exact cnd_iff.2 ⟨g1, cnd_iff.2 ⟨g2, congrArg (fun b => AV.lit (.string b)) g3⟩⟩
    · have h3 := beq_eq_false_iff_ne.1 e3
      have h5 := of_decide_eq_true e5
      obtain ⟨g1, g2, g3⟩ := on3 ⟨k, hk⟩ ⟨by simp only; omega, .inr (by simp only; omega)⟩
      exact cnd_iff.2 ⟨g1, cnd_iff.2 ⟨g2, congrArg (fun b => AV.lit (.string b)) g3⟩⟩
    · have h1 := beq_eq_false_iff_ne.1 e
      have h2 := beq_eq_false_iff_ne.1 e2
      have h4 := of_decide_eq_false e4
      have h5 := of_decide_eq_false e5
      exact congrArg (fun b => AV.lit (.string b)) (on4 ⟨k, hk⟩ ⟨by simp only; omega, by simp only; omega, by simp only; omega, by simp only; omega⟩)
  · cases hh
noncomputable def BOn (κ : Kp) : EB := EB.hush ((BHs κ).pure (pOn κ)) [84]
theorem xNi (κ : Kp) (s : ByteArray) (i n c : Int) (I : Nat → S → Prop) (N : Nat) (K : Exit → S → Prop) : (vc (BOn κ).E 12 68 none 0 (loopCode (Pr κ).toProgram 68 5) (sp 37 [(0, .lit (.string s)), (1, .int i), (6, .int n), (7, .int c)] []) (loopK (BOn κ).E 68 5 0 I N K)) = (
  brn (decide (c < (256 : Int))) (cnd (decide ((0 : Int) ≤ IntKind.wrap IntKind.u8 c ∧ IntKind.wrap IntKind.u8 c < (256 : Int))) (cnd (decide ((0 : Int) ≤ i) &&
  decide (i ≤ IntKind.wrap IntKind.i64 (i + n)) && decide (IntKind.wrap IntKind.i64 (i + n) ≤ (↑(ByteArray.size s) : Int))) (brn (ByteArray.toList (mkB (oneL
  (Nat.toUInt8 (Int.toNat (IntKind.wrap IntKind.u8 c))))) == ByteArray.toList (ByteArray.extract s i.toNat (Int.toNat (IntKind.wrap IntKind.i64 (i + n))))) (K
  Exit.ret (sp 37 [(4, AV.lit (Value.int IntKind.u8 (IntKind.wrap IntKind.u8 c))), (5, AV.int n)] [])) (∃ (m : Nat), m < N ∧ I m (sp 37 [(0, AV.str s), (1,
  AV.int i), (6, AV.int n), (7, AV.int (IntKind.wrap IntKind.i64 (c + (1 : Int))))] []))))) (K (Exit.exit 2) (sp 37 [(0, AV.str s), (1, AV.int i), (6, AV.int n)]
  []))) := by kernel_rfl
def fdC (w : List UInt8) : Nat → Option Nat
  | 0 => none
  | k + 1 => bif oneL (256 - (k + 1)).toUInt8 == w then some (256 - (k + 1)) else fdC w k
theorem fdC_some {w : List UInt8} : ∀ {k c : Nat}, k ≤ 256 → fdC w k = some c → c < 256 ∧ oneL c.toUInt8 = w
  | 0, c, _, h => by cases h
  | k + 1, c, hk, h => by
    rw [fdC] at h
    cases e : oneL (256 - (k + 1)).toUInt8 == w with
    | true =>
      rw [e] at h
      cases h
      exact ⟨by omega, beq_iff_eq.1 e⟩
    | false =>
      rw [e] at h
      exact fdC_some (by omega) h
theorem fdC_none {w : List UInt8} : ∀ {k c : Nat}, fdC w k = none → 256 - k ≤ c → c < 256 → oneL c.toUInt8 ≠ w
  | 0, c, _, h1, h2 => by omega
  | k + 1, c, h, h1, h2 => by
    rw [fdC] at h
    cases e : oneL (256 - (k + 1)).toUInt8 == w with
    | true => rw [e] at h; cases h
    | false =>
      rw [e] at h
      rcases Nat.eq_or_lt_of_le h1 with h3 | h3
      · rw [← h3]; exact beq_eq_false_iff_ne.1 e
      · exact fdC_none h (by omega) h2
structure ANi where
  s : ByteArray
  i : Nat
  n : Nat
  k : Nat
def stNi (x : ANi) : S := sp 37 [(0, .lit (.string x.s)), (1, .int x.i), (6, .int x.n), (7, .int (256 - x.k : Nat))] []
def sideNi (x : ANi) : Prop := x.s.size ≤ 1000000000 ∧ x.i + x.n ≤ x.s.size ∧ x.k ≤ 256
def wNi (x : ANi) : List UInt8 := ((bl x.s).drop x.i).take x.n
def outNi (x : ANi) : Out (Exit × S) := .brn (fdC (wNi x) x.k).isNone (.one (.exit 2, sp 37 [(0, .lit (.string x.s)), (1, .int x.i), (6, .int x.n)] [])) (.one (.ret, sp 37 [(4, .lit (.int .u8 ((fdC (wNi x) x.k).getD 0 : Nat))), (5, .int x.n)] []))
theorem lNi (κ : Kp) : LoopOk (BOn κ).E 12 68 5 (loopE 0 stNi sideNi outNi) := by
  refine loopE_ok (fun x => x.k) ?_
  rintro ⟨s, i, n, k⟩ K ⟨h1, h2, h3⟩ ho
  simp only at h1 h2 h3
  rw [show (BOn κ).E.P = Pr κ from rfl]
  refine Eq.mpr (xNi κ s i n (256 - k : Nat) _ _ K) ?_
  have ho : brn (fdC (((bl s).drop i).take n) k).isNone (K (.exit 2) (sp 37 [(0, .lit (.string s)), (1, .int i), (6, .int n)] [])) (K .ret (sp 37 [(4, .lit (.int .u8 ((fdC (((bl s).drop i).take n) k).getD 0 : Nat))), (5, .int n)] [])) := ho
  cases k with
  | zero => exact brn_iff.2 ⟨fun e => absurd (of_decide_eq_true e) (by omega), fun _ => ho⟩
  | succ k =>
    have w1 : IntKind.wrap .u8 ((256 - (k + 1) : Nat) : Int) = ((256 - (k + 1) : Nat) : Int) := wrapb (by omega)
    have w2 : IntKind.wrap .i64 ((i : Int) + (n : Int)) = ((i + n : Nat) : Int) := by rw [wrap_ok (by omega) (by omega)]; rfl
    have w3 : IntKind.wrap .i64 (((256 - (k + 1) : Nat) : Int) + 1) = ((256 - k : Nat) : Int) := by rw [wrap_ok (by omega) (by omega)]; omega
    rw [w1, w2, w3, Int.toNat_natCast, Int.toNat_natCast, Int.toNat_natCast, bl_toList, bl_toList, bl_mkB, bl_ext, show i + n - i = n by omega]
    rw [fdC] at ho
    refine brn_iff.2 ⟨fun _ => cnd_iff.2 ⟨decide_eq_true (by omega), cnd_iff.2 ⟨by simp; omega, brn_iff.2 ⟨fun e => ?_, fun e => ?_⟩⟩⟩, fun e => absurd (of_decide_eq_false e) (by omega)⟩
    · rw [e] at ho
      exact (brn_iff.1 ho).2 rfl
    · rw [e] at ho
      exact ⟨k, Nat.lt_succ_self _, ⟨s, i, n, k⟩, rfl, ⟨h1, h2, by simp only; omega⟩, rfl, ho⟩
noncomputable def BNi (κ : Kp) : EB := (BOn κ).loop (lNi κ)
theorem xNo (κ : Kp) (s : ByteArray) (i n : Int) (I : Nat → S → Prop) (N : Nat) (K : Exit → S → Prop) : (vc (BNi κ).E 12 68 none 0 (loopCode (Pr κ).toProgram 68 2) (sp 37 [(0, .lit (.string s)), (1, .int i), (6, .int n)] []) (loopK (BNi κ).E 68 2 0 I N K)) = (
  brn (decide (n ≤ (4 : Int))) (brn (decide (IntKind.wrap IntKind.i64 (i + n) ≤ (↑(ByteArray.size s) : Int))) (loopCode (Pg.toProgram (Env.P (EB.E (BOn κ)))) 68 5
  = loopCode (Pg.toProgram (Env.P (EB.E (BOn κ)))) 68 5 ∧ ∃ (a : ANi), sp 37 [(0, AV.str s), (1, AV.int i), (6, AV.int n), (7, AV.int 0)] [] = stNi a ∧ sideNi a
  ∧ brn (Option.isNone (fdC (wNi a) a.k)) (∃ (m : Nat), m < N ∧ I m (sp 37 [(0, AV.str a.s), (1, AV.int (↑(a.i) : Int)), (6, AV.int (IntKind.wrap IntKind.i64
  ((↑(a.n) : Int) + (1 : Int))))] [])) (K Exit.ret (sp 37 [(4, AV.lit (Value.int IntKind.u8 (↑(Option.getD (fdC (wNi a) a.k) 0) : Int))), (5, AV.int (↑(a.n) :
  Int))] []))) (K (Exit.exit 0) (sp 37 [] []))) (K (Exit.exit 0) (sp 37 [] []))) := by kernel_rfl
def hexv (a : UInt8) : Option UInt8 := bif decide (48 ≤ a.toNat) && decide (a.toNat ≤ 57) then some (a - 48) else bif decide (97 ≤ a.toNat) && decide (a.toNat ≤ 102) then some (a - 87) else none
def plB (b : UInt8) : Bool := decide (32 ≤ b.toNat) && decide (b.toNat ≤ 126) && (b != 34) && (b != 92)
def xB (v : UInt8) : Bool := (decide (v.toNat < 32) || decide (v.toNat > 126)) && (v != 10)
def dec2 (b : UInt8) : Option UInt8 := bif b == 34 then some 34 else bif b == 92 then some 92 else bif b == 110 then some 10 else none
def dec4 (c d : UInt8) : Option UInt8 := match hexv c, hexv d with
  | some x, some y => bif xB (16 * x + y) then some (16 * x + y) else none
  | _, _ => none
def decW : List UInt8 → Option UInt8
  | [b] => bif plB b then some b else none
  | [a, b] => bif a == 92 then dec2 b else none
  | [a, b, c, d] => bif a == 92 && b == 120 then dec4 c d else none
  | _ => none
theorem decW_one : ∀ k : Fin 256, decW (oneL k.val.toUInt8) = some k.val.toUInt8 := by decide +kernel
theorem one_pl : ∀ k : Fin 256, plB k.val.toUInt8 = true → oneL k.val.toUInt8 = [k.val.toUInt8] := by decide +kernel
theorem hexv_ok : ∀ k : Fin 256, ∀ x ∈ hexv k.val.toUInt8, x.toNat < 16 ∧ hxD x = k.val.toUInt8 := by decide +kernel
theorem one_hex : ∀ x y : Fin 16, xB (16 * x.val.toUInt8 + y.val.toUInt8) = true → oneL (16 * x.val.toUInt8 + y.val.toUInt8) = [92, 120, hxD x.val.toUInt8, hxD y.val.toUInt8] := by decide +kernel
theorem u8_fin (c : UInt8) : c = (⟨c.toNat, c.toNat_lt⟩ : Fin 256).val.toUInt8 := by simp
theorem dec2_one {b v : UInt8} (h : dec2 b = some v) : oneL v = [92, b] := by
  unfold dec2 at h
  cases e : b == 34 with
  | true => rw [e] at h; cases h; rw [beq_iff_eq.1 e]; decide
  | false =>
  cases e2 : b == 92 with
  | true => rw [e, e2] at h; cases h; rw [beq_iff_eq.1 e2]; decide
  | false =>
  cases e3 : b == 110 with
  | true => rw [e, e2, e3] at h; cases h; rw [beq_iff_eq.1 e3]; decide
  | false => rw [e, e2, e3] at h; cases h
theorem dec4_one {c d v : UInt8} (h : dec4 c d = some v) : oneL v = [92, 120, c, d] := by
  unfold dec4 at h
  split at h
  · rename_i x y hx hy
    cases e : xB (16 * x + y) with
    | false => rw [e] at h; cases h
    | true =>
      rw [e] at h
      cases h
      rw [u8_fin c] at hx
      rw [u8_fin d] at hy
      obtain ⟨hx1, hx2⟩ := hexv_ok _ x hx
      obtain ⟨hy1, hy2⟩ := hexv_ok _ y hy
      rw [← u8_fin] at hx2 hy2
      have h16 := one_hex ⟨x.toNat, hx1⟩ ⟨y.toNat, hy1⟩
      have ex : x.toNat.toUInt8 = x := by simp
      have ey : y.toNat.toUInt8 = y := by simp
      simp only [ex, ey] at h16
      rw [h16 e, hx2, hy2]
  · cases h
theorem one_decW : ∀ {w : List UInt8} {c : UInt8}, decW w = some c → oneL c = w
  | [], c, h => by cases h
  | [b], c, h => by
    rw [decW] at h
    cases e : plB b with
    | false => rw [e] at h; cases h
    | true =>
      rw [e] at h
      cases h
      rw [u8_fin b] at e ⊢
      exact one_pl _ e
  | [a, b], c, h => by
    rw [decW] at h
    cases e : a == 92 with
    | false => rw [e] at h; cases h
    | true => rw [e] at h; rw [beq_iff_eq.1 e]; exact dec2_one h
  | [a, b, c], v, h => by cases h
  | [a, b, c, d], v, h => by
    rw [decW] at h
    cases e : a == 92 && b == 120 with
    | false => rw [e] at h; cases h
    | true =>
      rw [e] at h
      rw [Bool.and_eq_true, beq_iff_eq, beq_iff_eq] at e
      rw [e.1, e.2]; exact dec4_one h
  | _ :: _ :: _ :: _ :: _ :: _, v, h => by cases h
theorem fdC_dec (w : List UInt8) : fdC w 256 = (decW w).map UInt8.toNat := by
  cases h : fdC w 256 with
  | some c =>
    obtain ⟨h1, h2⟩ := fdC_some (Nat.le_refl _) h
    have h3 := decW_one ⟨c, h1⟩
    simp only at h3
    rw [h2] at h3
    rw [h3, Option.map_some, UInt8.toNat_ofNat', Nat.mod_eq_of_lt h1]
  | none =>
    cases h2 : decW w with
    | none => rfl
    | some c =>
      exfalso
      have h3 := one_decW h2
      exact fdC_none h (c := c.toNat) (by omega) c.toNat_lt (by rw [Nat.toUInt8, UInt8.ofNat_toNat]; exact h3)
def nxN (l : List UInt8) : Nat → Option (Nat × Nat)
  | 0 => none
  | k + 1 => bif decide (4 - k ≤ l.length) then (match fdC (l.take (4 - k)) 256 with | some c => some (c, 4 - k) | none => nxN l k) else none
def decL : List UInt8 → Option (UInt8 × Nat)
  | [] => none
  | b :: l => bif plB b then some (b, 1) else bif b == 92 then (match l with
    | [] => none
    | c :: r => match dec2 c with
      | some v => some (v, 2)
      | none => bif c == 120 then (match r with
        | x :: y :: _ => (dec4 x y).map (·, 4)
        | _ => none) else none) else none
theorem decL_cons (b : UInt8) (l : List UInt8) : decL (b :: l) = bif plB b then some (b, 1) else bif b == 92 then (match l with
    | [] => none
    | c :: r => match dec2 c with
      | some v => some (v, 2)
      | none => bif c == 120 then (match r with
        | x :: y :: _ => (dec4 x y).map (·, 4)
        | _ => none) else none) else none := rfl
theorem nxN_dec (l : List UInt8) : nxN l 4 = (decL l).map fun x => (x.1.toNat, x.2) := by
  match l with
  | [] => rfl
  | b :: l =>
    rw [nxN, decide_eq_true (by simp), cond_true, show (4 - 3 : Nat) = 1 from rfl, List.take_succ_cons, List.take_zero, fdC_dec, decW, decL_cons]
    cases e : plB b with
    | true => rfl
    | false =>
      simp only [cond_false, Option.map_none]
      match l with
      | [] =>
        rw [nxN, decide_eq_false (by simp)]
        cases b == 92 <;> rfl
      | c :: l =>
        rw [nxN, decide_eq_true (by simp), cond_true, show (4 - 2 : Nat) = 2 from rfl, List.take_succ_cons, List.take_succ_cons, List.take_zero, fdC_dec, decW]
        cases e2 : b == 92 with
        | false =>
          simp only [cond_false, Option.map_none]
          match l with
          | [] => rfl
          | x :: [] =>
            rw [nxN, decide_eq_true (by simp), cond_true, show (4 - 1 : Nat) = 3 from rfl, fdC_dec]
            simp only [List.take_succ_cons, List.take_zero, decW, Option.map_none, nxN]
            rfl
          | x :: y :: l =>
            rw [nxN, decide_eq_true (by simp), cond_true, show (4 - 1 : Nat) = 3 from rfl, fdC_dec]
            simp only [List.take_succ_cons, List.take_zero, decW, Option.map_none]
            rw [nxN, decide_eq_true (by simp), cond_true, show (4 - 0 : Nat) = 4 from rfl, fdC_dec]
            simp only [List.take_succ_cons, List.take_zero, decW, e2, Bool.false_and, cond_false, Option.map_none, nxN]
        | true =>
          simp only [cond_true]
          cases e3 : dec2 c with
          | some v => rfl
          | none =>
            simp only [Option.map_none]
            match l with
            | [] =>
              rw [nxN, decide_eq_false (by simp)]
              cases c == 120 <;> rfl
            | x :: [] =>
              rw [nxN, decide_eq_true (by simp), cond_true, show (4 - 1 : Nat) = 3 from rfl, fdC_dec]
              simp only [List.take_succ_cons, List.take_zero, decW, Option.map_none, nxN]
              cases c == 120 <;> rfl
            | x :: y :: l =>
              rw [nxN, decide_eq_true (by simp), cond_true, show (4 - 1 : Nat) = 3 from rfl, fdC_dec]
              simp only [List.take_succ_cons, List.take_zero, decW, Option.map_none]
              rw [nxN, decide_eq_true (by simp), cond_true, show (4 - 0 : Nat) = 4 from rfl, fdC_dec]
              simp only [List.take_succ_cons, List.take_zero, decW, e2, Bool.true_and, nxN]
              cases c == 120 with
              | false => rfl
              | true =>
                simp only [cond_true]
                cases dec4 x y <;> rfl
structure ANo where
  s : ByteArray
  i : Nat
  k : Nat
def stNo (x : ANo) : S := sp 37 [(0, .lit (.string x.s)), (1, .int x.i), (6, .int (5 - x.k : Nat))] []
def sideNo (x : ANo) : Prop := x.s.size ≤ 1000000000 ∧ x.i ≤ x.s.size ∧ x.k ≤ 4
def rNo (x : ANo) : Option (Nat × Nat) := nxN ((bl x.s).drop x.i) x.k
def outNo (x : ANo) : Out (Exit × S) := .brn (rNo x).isNone (.one (.exit 0, sp 37 [] [])) (.one (.ret, sp 37 [(4, .lit (.int .u8 (((rNo x).getD (0, 0)).1 : Nat))), (5, .int (((rNo x).getD (0, 0)).2 : Nat))] []))
theorem lNo (κ : Kp) : LoopOk (BNi κ).E 12 68 2 (loopE 0 stNo sideNo outNo) := by
  refine loopE_ok (fun x => x.k) ?_
  rintro ⟨s, i, k⟩ K ⟨h1, h2, h3⟩ ho
  simp only at h1 h2 h3
  rw [show (BNi κ).E.P = Pr κ from rfl]
  refine Eq.mpr (xNo κ s i (5 - k : Nat) _ _ K) ?_
  have ho : brn (nxN ((bl s).drop i) k).isNone (K (.exit 0) (sp 37 [] [])) (K .ret (sp 37 [(4, .lit (.int .u8 (((nxN ((bl s).drop i) k).getD (0, 0)).1 : Nat))), (5, .int (((nxN ((bl s).drop i) k).getD (0, 0)).2 : Nat))] [])) := ho
  have w1 : IntKind.wrap .i64 ((i : Int) + ((5 - k : Nat) : Int)) = ((i + (5 - k) : Nat) : Int) := by rw [wrap_ok (by omega) (by omega)]; rfl
  rw [w1]
  cases k with
  | zero => exact brn_iff.2 ⟨fun e => absurd (of_decide_eq_true e) (by omega), fun _ => (brn_iff.1 ho).1 rfl⟩
  | succ k =>
    have e5 : 5 - (k + 1) = 4 - k := by omega
    rw [nxN] at ho
    rw [e5]
    have hlen : ((bl s).drop i).length = s.size - i := by rw [List.length_drop, bl_len]
    rw [hlen] at ho
    refine brn_iff.2 ⟨fun _ => brn_iff.2 ⟨fun e => ?_, fun e => ?_⟩, fun e => absurd (of_decide_eq_false e) (by omega)⟩
    · have e := of_decide_eq_true e
      rw [decide_eq_true (show 4 - k ≤ s.size - i by omega), cond_true] at ho
      refine ⟨rfl, ⟨s, i, 4 - k, 256⟩, rfl, ⟨h1, by simp only; omega, Nat.le_refl _⟩, ?_⟩
      show brn (fdC (((bl s).drop i).take (4 - k)) 256).isNone _ (K .ret (sp 37 [(4, .lit (.int .u8 ((fdC (((bl s).drop i).take (4 - k)) 256).getD 0 : Nat))), (5, .int (4 - k : Nat))] []))
      have w2 : IntKind.wrap .i64 (((4 - k : Nat) : Int) + 1) = ((5 - k : Nat) : Int) := by rw [wrap_ok (by omega) (by omega)]; omega
      simp only [w2]
      cases e9 : fdC (((bl s).drop i).take (4 - k)) 256 with
      | none =>
        rw [e9] at ho
        exact brn_iff.2 ⟨fun _ => ⟨k, Nat.lt_succ_self _, ⟨s, i, k⟩, rfl, ⟨h1, h2, by simp only; omega⟩, rfl, ho⟩, fun e => (by cases e)⟩
      | some c =>
        rw [e9] at ho
        exact brn_iff.2 ⟨fun e => (by cases e), fun _ => (brn_iff.1 ho).2 rfl⟩
    · have e := of_decide_eq_false e
      rw [decide_eq_false (show ¬ 4 - k ≤ s.size - i by omega), cond_false] at ho
      exact (brn_iff.1 ho).1 rfl
noncomputable def BNo (κ : Kp) : EB := (BNi κ).loop (lNo κ)
theorem yNx (κ : Kp) (s : ByteArray) (i : Int) (K : AV → List Dn.Obj → Prop) : (funA (BNo κ).E 12 68 [.lit (.string s), .int i] [] K) = (
  loopCode (Pg.toProgram (Env.P (EB.E (BNi κ)))) 68 2 = loopCode (Pg.toProgram (Env.P (EB.E (BNi κ)))) 68 2 ∧ ∃ (a : ANo), sp 37 [(0, AV.str s), (1, AV.int i), (6,
  AV.int 1)] [] = stNo a ∧ sideNo a ∧ brn (Option.isNone (rNo a)) (K (AV.tup [AV.lit (Value.int IntKind.u8 (0 : Int)), AV.int 0]) []) (K (AV.tup [AV.lit
  (Value.int IntKind.u8 (↑(Prod.fst (Option.getD (rNo a) (0, 0))) : Int)), AV.int (↑(Prod.snd (Option.getD (rNo a) (0, 0))) : Int)]) [])) := by kernel_rfl
def stNx (x : ByteArray × Nat) : List AV × List Dn.Obj := ([.lit (.string x.1), .int x.2], [])
def nxR (x : ByteArray × Nat) : UInt8 × Nat := (decL ((bl x.1).drop x.2)).getD (0, 0)
def outNx (x : ByteArray × Nat) : Out (AV × List Dn.Obj) := .one (.tup [.lit (.int .u8 ((nxR x).1.toNat : Nat)), .int ((nxR x).2 : Nat)], [])
theorem cNx (κ : Kp) : CallOk (BNo κ).E 12 68 (callE stNx sideRu outNx) := by
  refine callE_ok ?_
  rintro ⟨s, i⟩ K ⟨h1, h2⟩ ho
  simp only at h1 h2
  have ho : K (.tup [.lit (.int .u8 ((nxR (s, i)).1.toNat : Nat)), .int ((nxR (s, i)).2 : Nat)]) [] := ho
  refine Eq.mpr (yNx κ s i K) ⟨rfl, ⟨s, i, 4⟩, rfl, ⟨h1, h2, Nat.le_refl _⟩, ?_⟩
  have hr : rNo ⟨s, i, 4⟩ = (decL ((bl s).drop i)).map fun x => (x.1.toNat, x.2) := nxN_dec _
  rw [hr]
  unfold nxR at ho
  simp only at ho
  cases e : decL ((bl s).drop i) with
  | none => rw [e] at ho; exact brn_iff.2 ⟨fun _ => ho, fun e => (by cases e)⟩
  | some x => rw [e] at ho; exact brn_iff.2 ⟨fun e => (by cases e), fun _ => ho⟩
noncomputable def BNx (κ : Kp) : EB := (BNo κ).call (cNx κ)
theorem xSy (κ : Kp) (s : ByteArray) (i : Int) (I : Nat → S → Prop) (N : Nat) (K : Exit → S → Prop) : (vc (BNx κ).E 12 40 none 0 (loopCode (Pr κ).toProgram 40 2) (sp 37 [(0, .lit (.string s)), (5, .int i)] []) (loopK (BNx κ).E 40 2 0 I N K)) = (
  brn (decide (i < (↑(ByteArray.size s) : Int))) (cnd (decide ((0 : Int) ≤ i) && decide (i < (↑(ByteArray.size s) : Int))) (brn ((↑(byteAt s i.toNat) : Int) != (34
  : Int)) (∃ (a : ByteArray × Nat), ([AV.str s, AV.int i], []) = stNx a ∧ sideRu a ∧ brn ((↑(Prod.snd (nxR a)) : Int) == (0 : Int)) (K Exit.ret (sp 37 [(4,
  AV.int 0)] [])) (∃ (m : Nat), m < N ∧ I m (sp 37 [(0, AV.str s), (5, AV.int (IntKind.wrap IntKind.i64 (i + (↑(Prod.snd (nxR a)) : Int))))] []))) (K (Exit.exit
  0) (sp 37 [(0, AV.str s), (5, AV.int i)] [])))) (K (Exit.exit 0) (sp 37 [(0, AV.str s), (5, AV.int i)] []))) := by kernel_rfl
end Go.Proofs.YtbppdpbagmbmpaaGreatDoor
namespace Go.Proofs.YtbppdpbagmbmpaaGreatDoor
open Go Go.Dn Go.Proofs
attribute [local irreducible] funA vc
set_option maxRecDepth 20000
theorem decL_rng : ∀ {l : List UInt8} {c : UInt8} {n : Nat}, decL l = some (c, n) → 1 ≤ n ∧ n ≤ l.length
  | [], _, _, h => by cases h
  | b :: l, c, n, h => by
    rw [decL_cons] at h
    cases e : plB b with
    | true => rw [e] at h; cases h; simp
    | false =>
    rw [e] at h
    cases e2 : b == 92 with
    | false => rw [e2] at h; cases h
    | true =>
    rw [e2] at h
    match l, h with
    | [], h => cases h
    | d :: r, h =>
      simp only [cond_true, cond_false] at h
      cases e3 : dec2 d with
      | some v => rw [e3] at h; cases h; simp
      | none =>
        rw [e3] at h
        cases e4 : d == 120 with
        | false => rw [e4] at h; cases h
        | true =>
          rw [e4] at h
          match r, h with
          | [], h => cases h
          | [_], h => cases h
          | x :: y :: r, h =>
            obtain ⟨v, _, h2⟩ := Option.map_eq_some_iff.1 h
            cases h2
            simp
def symD : Nat → List UInt8 → Option (List UInt8 × Nat)
  | 0, _ => none
  | k + 1, l => bif l.head? == some 34 then some ([], 1) else match decL l with
    | none => none
    | some x => (symD k (l.drop x.2)).map fun r => (x.1 :: r.1, x.2 + r.2)
def symS : Nat → List UInt8 → Option Nat
  | 0, _ => none
  | k + 1, l => bif l.isEmpty then some 0 else bif l.head? == some 34 then some 0 else match decL l with
    | none => none
    | some x => (symS k (l.drop x.2)).map (x.2 + ·)
theorem symS_symD : ∀ (k : Nat) (l : List UInt8), l.length < k → (symS k l = none → symD k l = none) ∧ ∀ p, symS k l = some p → p ≤ l.length ∧ (p = l.length → symD k l = none) ∧ (p < l.length → ∃ t, symD k l = some (t, p + 1))
  | 0, l, h => by omega
  | k + 1, l, h => by
    rw [symS, symD]
    match l with
    | [] => exact ⟨fun h => (by cases h), fun p h => (by cases h; exact ⟨Nat.le_refl _, fun _ => rfl, fun h => absurd h (by simp)⟩)⟩
    | b :: l =>
      rw [List.isEmpty_cons, cond_false]
      cases e : (b :: l).head? == some 34 with
      | true => exact ⟨fun h => (by cases h), fun p h => (by cases h; exact ⟨Nat.zero_le _, fun h => absurd h (by simp), fun _ => ⟨[], rfl⟩⟩)⟩
      | false =>
        simp only [cond_false]
        cases e2 : decL (b :: l) with
        | none => exact ⟨fun _ => rfl, fun p h => (by cases h)⟩
        | some x =>
          obtain ⟨c, n⟩ := x
          obtain ⟨h1, h2⟩ := decL_rng e2
          have hl : ((b :: l).drop n).length = (b :: l).length - n := List.length_drop
          obtain ⟨i1, i2⟩ := symS_symD k ((b :: l).drop n) (by omega)
          simp only
          refine ⟨fun h => ?_, fun p h => ?_⟩
          · rw [i1 (Option.map_eq_none_iff.1 h)]; rfl
          · obtain ⟨q, h3, rfl⟩ := Option.map_eq_some_iff.1 h
            obtain ⟨j1, j2, j3⟩ := i2 q h3
            refine ⟨by omega, fun h => ?_, fun h => ?_⟩
            · rw [j2 (by omega)]; rfl
            · obtain ⟨t, ht⟩ := j3 (by omega)
              rw [ht]
              exact ⟨c :: t, by simp only [Option.map_some, Nat.add_assoc]⟩
abbrev stSy (x : ByteArray × Nat) : S := sp 37 [(0, .lit (.string x.1)), (5, .int x.2)] []
def rSy (x : ByteArray × Nat) : Option Nat := symS (x.1.size - x.2 + 1) ((bl x.1).drop x.2)
def outSy (x : ByteArray × Nat) : Out (Exit × S) := .brn (rSy x).isNone (.one (.ret, sp 37 [(4, .int 0)] [])) (.one (.exit 0, sp 37 [(0, .lit (.string x.1)), (5, .int (x.2 + (rSy x).getD 0 : Nat))] []))
theorem symS_fuel : ∀ (k k' : Nat) (l : List UInt8), l.length < k → l.length < k' → symS k l = symS k' l
  | 0, _, _, h, _ => by omega
  | _, 0, _, _, h => by omega
  | k + 1, k' + 1, l, h, h' => by
    rw [symS, symS]
    cases l.isEmpty with
    | true => rfl
    | false =>
    cases l.head? == some 34 with
    | true => rfl
    | false =>
    cases e : decL l with
    | none => rfl
    | some x =>
      obtain ⟨h1, h2⟩ := decL_rng (c := x.1) (n := x.2) e
      simp only [cond_false]
      rw [symS_fuel k k' _ (by rw [List.length_drop]; omega) (by rw [List.length_drop]; omega)]
theorem symD_fuel : ∀ (k k' : Nat) (l : List UInt8), l.length < k → l.length < k' → symD k l = symD k' l
  | 0, _, _, h, _ => by omega
  | _, 0, _, _, h => by omega
  | k + 1, k' + 1, l, h, h' => by
    rw [symD, symD]
    cases l.head? == some 34 with
    | true => rfl
    | false =>
    cases e : decL l with
    | none => rfl
    | some x =>
      obtain ⟨h1, h2⟩ := decL_rng (c := x.1) (n := x.2) e
      simp only [cond_false]
      rw [symD_fuel k k' _ (by rw [List.length_drop]; omega) (by rw [List.length_drop]; omega)]
theorem lSy (κ : Kp) : LoopOk (BNx κ).E 12 40 2 (loopE 0 stSy sideRu outSy) := by
  refine loopE_ok (fun x => x.1.size - x.2) ?_
  rintro ⟨s, i⟩ K ⟨h1, h2⟩ ho
  simp only at h1 h2
  rw [show (BNx κ).E.P = Pr κ from rfl]
  refine Eq.mpr (xSy κ s i _ _ K) ?_
  have ho : brn (symS (s.size - i + 1) ((bl s).drop i)).isNone (K .ret (sp 37 [(4, .int 0)] [])) (K (.exit 0) (sp 37 [(0, .lit (.string s)), (5, .int (i + (symS (s.size - i + 1) ((bl s).drop i)).getD 0 : Nat))] [])) := ho
  rw [symS] at ho
  rw [Int.toNat_natCast, brn_iff]
  refine ⟨fun h => ?_, fun h => ?_⟩
  · have hi : i < s.size := by have := of_decide_eq_true h; omega
    obtain ⟨c, hd, hb⟩ := bl_at hi
    have hc : (decide ((0 : Int) ≤ (i : Int)) && decide ((i : Int) < (s.size : Int))) = true := by simp; omega
    have hhd : (((bl s).drop i).head? == some 34) = (((c.toNat : Nat) : Int) == 34) := by
      rw [hd, List.head?_cons, show (34 : Int) = (((34 : UInt8).toNat : Nat) : Int) from rfl, u8_eq]; rfl
    rw [hhd, show ((bl s).drop i).isEmpty = false by rw [hd]; rfl] at ho
    rw [hb, bne]
    cases e : ((c.toNat : Nat) : Int) == 34 with
    | true =>
      rw [e] at ho
      exact cnd_iff.2 ⟨hc, brn_iff.2 ⟨fun e => (by cases e), fun _ => (brn_iff.1 ho).2 rfl⟩⟩
    | false =>
      rw [e] at ho
      simp only [cond_false] at ho
      refine cnd_iff.2 ⟨hc, brn_iff.2 ⟨fun _ => ⟨⟨s, i⟩, rfl, ⟨h1, h2⟩, ?_⟩, fun e => (by cases e)⟩⟩
      unfold nxR
      cases e2 : decL ((bl s).drop i) with
      | none =>
        rw [e2] at ho
        exact brn_iff.2 ⟨fun _ => (brn_iff.1 ho).1 rfl, fun e => (by cases e)⟩
      | some x =>
        obtain ⟨v, n⟩ := x
        rw [e2] at ho
        simp only [Option.getD_some] at ho ⊢
        obtain ⟨k1, k2⟩ := decL_rng e2
        rw [List.length_drop, bl_len] at k2
        have w1 : IntKind.wrap .i64 ((i : Int) + (n : Int)) = ((i + n : Nat) : Int) := by rw [wrap_ok (by omega) (by omega)]; rfl
        rw [w1]
        refine brn_iff.2 ⟨fun e => absurd (beq_iff_eq.1 e) (by omega), fun _ => ⟨s.size - (i + n), by first | omega | (simp only; omega), ⟨s, i + n⟩, rfl, ⟨h1, by first | omega | (simp only; omega)⟩, rfl, ?_⟩⟩
        have hf : rSy (s, i + n) = symS (s.size - i) (((bl s).drop i).drop n) := by
          unfold rSy
          dsimp only
          rw [List.drop_drop]
          exact symS_fuel _ _ _ (by rw [List.length_drop, bl_len]; omega) (by rw [List.length_drop, bl_len]; omega)
        show brn (rSy (s, i + n)).isNone (K .ret (sp 37 [(4, .int 0)] [])) (K (.exit 0) (sp 37 [(0, .lit (.string s)), (5, .int (i + n + (rSy (s, i + n)).getD 0 : Nat))] []))
        rw [hf]
        cases e3 : symS (s.size - i) (((bl s).drop i).drop n) with
        | none => rw [e3] at ho; exact ho
        | some p =>
          rw [e3] at ho
          simp only [Option.map_some, Option.getD_some] at ho ⊢
          rw [Nat.add_assoc]; exact ho
  · have hi : i = s.size := by have := of_decide_eq_false h; omega
    rw [show ((bl s).drop i).isEmpty = true by rw [List.drop_eq_nil_of_le (by rw [bl_len]; omega)]; rfl] at ho
    exact (brn_iff.1 ho).2 rfl
noncomputable def BSyl (κ : Kp) : EB := (BNx κ).loop (lSy κ)
theorem ySy (κ : Kp) (s : ByteArray) (i : Int) (K : AV → List Dn.Obj → Prop) : (funA (BSyl κ).E 12 40 [.lit (.string s), .int i] [] K) = (
  loopCode (Pg.toProgram (Env.P (EB.E (BNx κ)))) 40 2 = loopCode (Pg.toProgram (Env.P (EB.E (BNx κ)))) 40 2 ∧ ∃ (a : ByteArray × Nat), sp 37 [(0, AV.str s), (5,
  AV.int (IntKind.wrap IntKind.i64 (i + (1 : Int))))] [] = stSy a ∧ sideRu a ∧ brn (Option.isNone (rSy a)) (K (AV.int 0) []) (brn (decide ((↑(a.2 + Option.getD
  (rSy a) 0) : Int) ≥ (↑(ByteArray.size a.1) : Int))) (K (AV.int 0) []) (K (AV.int (IntKind.wrap IntKind.i64 ((↑(a.2 + Option.getD (rSy a) 0) : Int) + (1 :
  Int)))) []))) := by kernel_rfl
def symV (s : ByteArray) (i : Nat) : Nat := match symD (s.size + 1) ((bl s).drop (i + 1)) with
  | none => 0
  | some r => i + 1 + r.2
def gSy : List AV → Option (Bool × AV)
  | [.lit (.string s), .lit (.int .i64 i)] => some (decide (0 ≤ i ∧ i < s.size ∧ s.size ≤ 1000000000), .int (symV s i.toNat : Nat))
  | _ => none
theorem pSy (κ : Kp) : PureOk (BSyl κ).E 12 40 gSy := by
  intro args x hh
  unfold gSy at hh
  split at hh
  · rename_i s i
    simp only [Option.some.injEq, Prod.mk.injEq, decide_eq_true_eq] at hh
    obtain ⟨⟨h0, h1, h2⟩, rfl⟩ := hh
    obtain ⟨k, rfl⟩ : ∃ k : Nat, i = k := ⟨i.toNat, by omega⟩
    have w1 : IntKind.wrap .i64 ((k : Int) + 1) = ((k + 1 : Nat) : Int) := by rw [wrap_ok (by omega) (by omega)]; rfl
    refine ⟨_, rfl, rfl, Eq.mpr (ySy κ s k _) ?_⟩
    rw [w1]
    refine ⟨rfl, ⟨s, k + 1⟩, rfl, ⟨h2, by first | omega | (simp only; omega)⟩, ?_⟩
    have hl : ((bl s).drop (k + 1)).length = s.size - (k + 1) := by rw [List.length_drop, bl_len]
    have hs : rSy (s, k + 1) = symS (s.size + 1) ((bl s).drop (k + 1)) := by
      unfold rSy
      dsimp only
      exact symS_fuel _ _ _ (by omega) (by omega)
    obtain ⟨q1, q2⟩ := symS_symD (s.size + 1) ((bl s).drop (k + 1)) (by omega)
    unfold symV
    rw [hs, Int.toNat_natCast]
    cases e : symS (s.size + 1) ((bl s).drop (k + 1)) with
    | none =>
      rw [q1 e]
      exact brn_iff.2 ⟨fun _ => rfl, fun e => (by cases e)⟩
    | some p =>
      obtain ⟨j1, j2, j3⟩ := q2 p e
      refine brn_iff.2 ⟨fun e => (by cases e), fun _ => ?_⟩
      simp only [Option.getD_some]
      refine brn_iff.2 ⟨fun e => ?_, fun e => ?_⟩
      · have := of_decide_eq_true e
        rw [j2 (by omega)]; rfl
      · have := of_decide_eq_false e
        obtain ⟨t, ht⟩ := j3 (by omega)
        rw [ht]
        simp only
        have w2 : IntKind.wrap .i64 (((k + 1 + p : Nat) : Int) + 1) = ((k + 1 + (p + 1) : Nat) : Int) := by rw [wrap_ok (by omega) (by omega)]; omega
        rw [w2]
  · cases hh
noncomputable def BSy (κ : Kp) : EB := EB.hush ((BSyl κ).pure (pSy κ)) [40, 42]
theorem xUp (κ : Kp) (s : ByteArray) (l : List AV) (i : Int) (I : Nat → S → Prop) (N : Nat) (K : Exit → S → Prop) : (vc (BSy κ).E 12 41 none 0 (loopCode (Pr κ).toProgram 41 6) (sp 51 [(4, .lit (.string s)), (5, .slc 0 0 l.length), (6, .int i)] [.row 5 l]) (loopK (BSy κ).E 41 6 0 I N K)) = (
  brn (decide (i < (↑(ByteArray.size s) : Int))) (∃ (a : ByteArray × Nat), ([AV.str s, AV.int i], []) = stNx a ∧ sideRu a ∧ brn ((↑(Prod.snd (nxR a)) : Int) == (0
  : Int)) (K Exit.ret (sp 51 [(2, AV.str { data := #[] }), (3, AV.int 10)] [])) (cnd (decide ((l.length + 1 + 1) * 2 ≤ 70368744177664)) (∃ (m : Nat), m < N ∧ I m
  (sp 51 [(4, AV.str s), (5, AV.slc 0 0 (l.length + 1)), (6, AV.int (IntKind.wrap IntKind.i64 (i + (↑(Prod.snd (nxR a)) : Int))))] [Obj.row 5 (List.take l.length
  l ++ [AV.lit (Value.int IntKind.u8 (↑(UInt8.toNat (Prod.fst (nxR a))) : Int))])])))) (K (Exit.exit 0) (sp 51 [(5, AV.slc 0 0 l.length)] [Obj.row 5 l]))) := by kernel_rfl
def strD : Nat → List UInt8 → Option (List UInt8)
  | 0, _ => none
  | k + 1, l => bif l.isEmpty then some [] else match decL l with
    | none => none
    | some x => (strD k (l.drop x.2)).map (x.1 :: ·)
theorem strD_fuel : ∀ (k k' : Nat) (l : List UInt8), l.length < k → l.length < k' → strD k l = strD k' l
  | 0, _, _, h, _ => by omega
  | _, 0, _, _, h => by omega
  | k + 1, k' + 1, l, h, h' => by
    rw [strD, strD]
    cases l.isEmpty with
    | true => rfl
    | false =>
    cases e : decL l with
    | none => rfl
    | some x =>
      obtain ⟨h1, h2⟩ := decL_rng (c := x.1) (n := x.2) e
      simp only [cond_false]
      rw [strD_fuel k k' _ (by rw [List.length_drop]; omega) (by rw [List.length_drop]; omega)]
abbrev u8A (c : UInt8) : AV := .lit (.int .u8 (c.toNat : Nat))
structure AUnq where
  s : ByteArray
  l : List UInt8
  i : Nat
def stUnq (x : AUnq) : S := sp 51 [(4, .lit (.string x.s)), (5, .slc 0 0 (x.l.map u8A).length), (6, .int x.i)] [.row 5 (x.l.map u8A)]
def sideUnq (x : AUnq) : Prop := x.s.size ≤ 1000000000 ∧ x.i ≤ x.s.size ∧ x.l.length ≤ x.i
def rUnq (x : AUnq) : Option (List UInt8) := strD (x.s.size - x.i + 1) ((bl x.s).drop x.i)
def outUnq (x : AUnq) : Out (Exit × S) := .brn (rUnq x).isNone (.one (.ret, sp 51 [(2, .lit (.string ⟨#[]⟩)), (3, .int 10)] []))
  (.one (.exit 0, sp 51 [(5, .slc 0 0 ((x.l ++ (rUnq x).getD []).map u8A).length)] [.row 5 ((x.l ++ (rUnq x).getD []).map u8A)]))
theorem lUnq (κ : Kp) : LoopOk (BSy κ).E 12 41 6 (loopE 0 stUnq sideUnq outUnq) := by
  refine loopE_ok (fun x => x.s.size - x.i) ?_
  rintro ⟨s, l, i⟩ K ⟨h1, h2, h3⟩ ho
  simp only at h1 h2 h3
  rw [show (BSy κ).E.P = Pr κ from rfl]
  refine Eq.mpr (xUp κ s (l.map u8A) i _ _ K) ?_
  have ho : brn (strD (s.size - i + 1) ((bl s).drop i)).isNone (K .ret (sp 51 [(2, .lit (.string ⟨#[]⟩)), (3, .int 10)] []))
    (K (.exit 0) (sp 51 [(5, .slc 0 0 ((l ++ (strD (s.size - i + 1) ((bl s).drop i)).getD []).map u8A).length)] [.row 5 ((l ++ (strD (s.size - i + 1) ((bl s).drop i)).getD []).map u8A)])) := ho
  rw [strD] at ho
  rw [brn_iff]
  refine ⟨fun h => ⟨⟨s, i⟩, rfl, ⟨h1, h2⟩, ?_⟩, fun h => ?_⟩
  · have hi : i < s.size := by have := of_decide_eq_true h; omega
    obtain ⟨c, hd, hb⟩ := bl_at hi
    rw [show ((bl s).drop i).isEmpty = false by rw [hd]; rfl] at ho
    simp only [cond_false] at ho
    unfold nxR
    cases e2 : decL ((bl s).drop i) with
    | none =>
      rw [e2] at ho
      exact brn_iff.2 ⟨fun _ => (brn_iff.1 ho).1 rfl, fun e => (by cases e)⟩
    | some x =>
      obtain ⟨v, n⟩ := x
      rw [e2] at ho
      simp only [Option.getD_some] at ho ⊢
      obtain ⟨k1, k2⟩ := decL_rng e2
      rw [List.length_drop, bl_len] at k2
      have w1 : IntKind.wrap .i64 ((i : Int) + (n : Int)) = ((i + n : Nat) : Int) := by rw [wrap_ok (by omega) (by omega)]; rfl
      rw [w1]
      refine brn_iff.2 ⟨fun e => absurd (beq_iff_eq.1 e) (by omega), fun _ => cnd_iff.2 ⟨by simp; omega, s.size - (i + n), by first | omega | (simp only; omega), ⟨s, l ++ [v], i + n⟩, ?_, ⟨h1, by first | omega | (simp only; omega), by simp only [List.length_append, List.length_singleton]; omega⟩, rfl, ?_⟩⟩
      · simp only [stUnq, List.map_append, List.map_cons, List.map_nil, List.length_append, List.length_singleton, List.take_length]
      · have hf : rUnq ⟨s, l ++ [v], i + n⟩ = strD (s.size - i) (((bl s).drop i).drop n) := by
          unfold rUnq
          dsimp only
          rw [List.drop_drop]
          exact strD_fuel _ _ _ (by rw [List.length_drop, bl_len]; omega) (by rw [List.length_drop, bl_len]; omega)
        simp only [outUnq, hf]
        cases e3 : strD (s.size - i) (((bl s).drop i).drop n) with
        | none => rw [e3] at ho; exact ho
        | some t =>
          rw [e3] at ho
          simp only [Option.map_some, Option.getD_some] at ho
          simp only [Option.getD_some, List.append_assoc, List.singleton_append]
          exact ho
  · have hi : i = s.size := by have := of_decide_eq_false h; omega
    rw [show ((bl s).drop i).isEmpty = true by rw [List.drop_eq_nil_of_le (by rw [bl_len]; omega)]; rfl] at ho
    have := (brn_iff.1 ho).2 rfl
    simp only [cond_true, Option.getD_some, List.append_nil] at this
    exact this
noncomputable def BUnql (κ : Kp) : EB := (BSy κ).loop (lUnq κ)
theorem yUnq (κ : Kp) (s : ByteArray) (K : AV → List Dn.Obj → Prop) : (funA (BUnql κ).E 12 41 [.lit (.string s)] [] K) = (
  brn (decide ((↑(ByteArray.size s) : Int) < (2 : Int))) (K (AV.tup [AV.str { data := #[] }, AV.int 10]) []) (cnd (true && decide ((0 : Int) < (↑(ByteArray.size s)
  : Int))) (brn ((↑(byteAt s 0) : Int) != (34 : Int)) (K (AV.tup [AV.str { data := #[] }, AV.int 10]) []) (cnd (decide ((0 : Int) ≤ IntKind.wrap IntKind.i64
  ((↑(ByteArray.size s) : Int) - (1 : Int))) && decide (IntKind.wrap IntKind.i64 ((↑(ByteArray.size s) : Int) - (1 : Int)) < (↑(ByteArray.size s) : Int))) (brn
  ((↑(byteAt s (Int.toNat (IntKind.wrap IntKind.i64 ((↑(ByteArray.size s) : Int) - (1 : Int))))) : Int) != (34 : Int)) (K (AV.tup [AV.str { data := #[] }, AV.int
  10]) []) (cnd (true && decide ((1 : Int) ≤ IntKind.wrap IntKind.i64 ((↑(ByteArray.size s) : Int) - (1 : Int))) && decide (IntKind.wrap IntKind.i64
  ((↑(ByteArray.size s) : Int) - (1 : Int)) ≤ (↑(ByteArray.size s) : Int))) (loopCode (Pg.toProgram (Env.P (EB.E (BSy κ)))) 41 6 = loopCode (Pg.toProgram (Env.P
  (EB.E (BSy κ)))) 41 6 ∧ ∃ (a : AUnq), sp 51 [(4, AV.lit (Value.string (ByteArray.extract s 1 (Int.toNat (IntKind.wrap IntKind.i64 ((↑(ByteArray.size s) : Int)
  - (1 : Int))))))), (5, AV.slc 0 0 0), (6, AV.int 0)] [Obj.row 5 []] = stUnq a ∧ sideUnq a ∧ brn (Option.isNone (rUnq a)) (K (AV.tup [AV.str { data := #[] },
  AV.int 10]) []) (K (AV.tup [AV.lit (Value.string (bytesOf (List.take (List.length (List.map u8A (a.l ++ Option.getD (rUnq a) []))) (List.drop 0 (List.map u8A
  (a.l ++ Option.getD (rUnq a) [])))))), AV.int 0]) [])))))))) := by kernel_rfl
def uq6 (s : ByteArray) : Option (List UInt8) :=
  bif decide ((s.size : Int) < 2) then none else bif ((byteAt s 0 : Nat) : Int) != 34 then none else bif ((byteAt s (s.size - 1) : Nat) : Int) != 34 then none else strD (s.size + 1) (((bl s).drop 1).take (s.size - 2))
def stU6 (s : ByteArray) : List AV × List Dn.Obj := ([.lit (.string s)], [])
def sideU6 (s : ByteArray) : Prop := s.size ≤ 1000000000
def outU6 (s : ByteArray) : Out (AV × List Dn.Obj) := .one (.tup [.lit (.string (mkB ((uq6 s).getD []))), .int (bif (uq6 s).isNone then 10 else 0)], [])
theorem bytes_u8A (l : List UInt8) : bytesOf (l.map u8A) = mkB l := by
  apply bl_inj
  rw [bl_mkB]
  show ((((l.map u8A).map fun a => UInt8.ofNat (toInt a).toNat).toArray)).toList = l
  rw [List.map_map]
  show l.map (fun c => UInt8.ofNat ((c.toNat : Nat) : Int).toNat) = l
  have : (fun c : UInt8 => UInt8.ofNat ((c.toNat : Nat) : Int).toNat) = id := by
    funext c
    rw [Int.toNat_natCast, UInt8.ofNat_toNat]; rfl
  rw [this, List.map_id]
theorem cU6 (κ : Kp) : CallOk (BUnql κ).E 12 41 (callE stU6 sideU6 outU6) := by
  refine callE_ok ?_
  rintro s K h1 ho
  have h1 : s.size ≤ 1000000000 := h1
  have ho : K (.tup [.lit (.string (mkB ((uq6 s).getD []))), .int (bif (uq6 s).isNone then 10 else 0)]) [] := ho
  refine Eq.mpr (yUnq κ s K) ?_
  have q : ∀ r, uq6 s = r → K (.tup [.lit (.string (mkB (r.getD []))), .int (bif r.isNone then 10 else 0)]) [] := fun r e => e ▸ ho
  unfold uq6 at q
  refine brn_iff.2 ⟨fun e => q none (by rw [e]; rfl), fun e => cnd_iff.2 ⟨?_, brn_iff.2 ⟨fun e2 => q none (by rw [e, e2]; rfl), fun e2 => ?_⟩⟩⟩
  · have := of_decide_eq_false e
    simp; omega
  have h2 := of_decide_eq_false e
  have w1 : IntKind.wrap .i64 ((s.size : Int) - 1) = ((s.size - 1 : Nat) : Int) := by rw [wrap_ok (by omega) (by omega)]; omega
  rw [w1, Int.toNat_natCast]
  rw [e, e2] at q
  refine cnd_iff.2 ⟨by simp; omega, brn_iff.2 ⟨fun e3 => q none (by rw [e3]; rfl), fun e3 => cnd_iff.2 ⟨by simp; omega, rfl, ⟨s.extract 1 (s.size - 1), [], 0⟩, rfl, ⟨?_, Nat.zero_le _, Nat.zero_le _⟩, ?_⟩⟩⟩
  · simp only [ByteArray.size_extract]; omega
  rw [e3] at q
  simp only [cond_false] at q
  have hb : bl (s.extract 1 (s.size - 1)) = ((bl s).drop 1).take (s.size - 2) := by rw [bl_ext, show s.size - 1 - 1 = s.size - 2 by omega]
  have hr : rUnq ⟨s.extract 1 (s.size - 1), [], 0⟩ = strD (s.size + 1) (((bl s).drop 1).take (s.size - 2)) := by
    unfold rUnq
    dsimp only
    rw [List.drop_zero, hb]
    have hl : (((bl s).drop 1).take (s.size - 2)).length ≤ s.size - 2 := by rw [List.length_take]; omega
    have hz : (s.extract 1 (s.size - 1)).size = (((bl s).drop 1).take (s.size - 2)).length := by rw [← hb, bl_len]
    exact strD_fuel _ _ _ (by omega) (by omega)
  rw [hr]
  cases e9 : strD (s.size + 1) (((bl s).drop 1).take (s.size - 2)) with
  | none => exact brn_iff.2 ⟨fun _ => q none e9, fun e => (by cases e)⟩
  | some t =>
    refine brn_iff.2 ⟨fun e => (by cases e), fun _ => ?_⟩
    simp only [Option.getD_some, List.nil_append, List.drop_zero, List.take_length, bytes_u8A]
    exact q (some t) e9
noncomputable def BU6 (κ : Kp) : EB := (BUnql κ).call (cU6 κ)
def twoL : List (List UInt8) := [[58, 61], [61, 61], [33, 61], [60, 61], [62, 61], [38, 38], [124, 124]]
def oneS : List UInt8 := [40, 41, 123, 125, 91, 93, 44, 59, 58, 46, 61, 60, 62, 43, 45, 42, 47, 37, 33]
def sg6 : List UInt8 → Nat
  | [] => 0
  | c :: l => bif twoL.any (fun p => (c :: l).take 2 == p) then 2 else bif oneS.any (fun p => c == p) then 1 else 0
def gS6 : List AV → Option (Bool × AV)
  | [.lit (.string s), .lit (.int .i64 i)] => some (decide (0 ≤ i ∧ i < s.size ∧ s.size ≤ 1000000000), .int (sg6 ((bl s).drop i.toNat) : Nat))
  | _ => none
theorem sg6_eq {l r : List UInt8} {c : UInt8} (h : l = c :: r) : sg6 l = bif twoL.any (fun p => l.take 2 == p) then 2 else bif oneS.any (fun p => c == p) then 1 else 0 := by subst h; rfl
theorem brn_or {a b : Bool} {P Q : Prop} : brn a P (brn b P Q) = brn (a || b) P Q := by cases a <;> rfl
theorem ySo (κ : Kp) (s : ByteArray) (i : Int) (K : AV → List Dn.Obj → Prop) : (funA (BU6 κ).E 12 42 [.lit (.string s), .int i] [] K) = (
  cnd (decide ((0 : Int) ≤ i) && decide (i ≤ if IntKind.wrap IntKind.i64 (i + (2 : Int)) < (↑(ByteArray.size s) : Int) then IntKind.wrap IntKind.i64 (i + (2 :
  Int)) else (↑(ByteArray.size s) : Int)) && decide ((if IntKind.wrap IntKind.i64 (i + (2 : Int)) < (↑(ByteArray.size s) : Int) then IntKind.wrap IntKind.i64 (i
  + (2 : Int)) else (↑(ByteArray.size s) : Int)) ≤ (↑(ByteArray.size s) : Int))) (brn (ByteArray.toList (ByteArray.extract s i.toNat (Int.toNat (if IntKind.wrap
  IntKind.i64 (i + (2 : Int)) < (↑(ByteArray.size s) : Int) then IntKind.wrap IntKind.i64 (i + (2 : Int)) else (↑(ByteArray.size s) : Int)))) == ByteArray.toList
  { data := #[OfNat.ofNat 58, OfNat.ofNat 61] }) (K (AV.int 2) []) (brn (ByteArray.toList (ByteArray.extract s i.toNat (Int.toNat (if IntKind.wrap IntKind.i64 (i
  + (2 : Int)) < (↑(ByteArray.size s) : Int) then IntKind.wrap IntKind.i64 (i + (2 : Int)) else (↑(ByteArray.size s) : Int)))) == ByteArray.toList
  { data := #[OfNat.ofNat 61, OfNat.ofNat 61] }) (K (AV.int 2) []) (brn (ByteArray.toList (ByteArray.extract s i.toNat (Int.toNat (if IntKind.wrap IntKind.i64 (i
  + (2 : Int)) < (↑(ByteArray.size s) : Int) then IntKind.wrap IntKind.i64 (i + (2 : Int)) else (↑(ByteArray.size s) : Int)))) == ByteArray.toList
  { data := #[OfNat.ofNat 33, OfNat.ofNat 61] }) (K (AV.int 2) []) (brn (ByteArray.toList (ByteArray.extract s i.toNat (Int.toNat (if IntKind.wrap IntKind.i64 (i
  + (2 : Int)) < (↑(ByteArray.size s) : Int) then IntKind.wrap IntKind.i64 (i + (2 : Int)) else (↑(ByteArray.size s) : Int)))) == ByteArray.toList
  { data := #[OfNat.ofNat 60, OfNat.ofNat 61] }) (K (AV.int 2) []) (brn (ByteArray.toList (ByteArray.extract s i.toNat (Int.toNat (if IntKind.wrap IntKind.i64 (i
  + (2 : Int)) < (↑(ByteArray.size s) : Int) then IntKind.wrap IntKind.i64 (i + (2 : Int)) else (↑(ByteArray.size s) : Int)))) == ByteArray.toList
  { data := #[OfNat.ofNat 62, OfNat.ofNat 61] }) (K (AV.int 2) []) (brn (ByteArray.toList (ByteArray.extract s i.toNat (Int.toNat (if IntKind.wrap IntKind.i64 (i
  + (2 : Int)) < (↑(ByteArray.size s) : Int) then IntKind.wrap IntKind.i64 (i + (2 : Int)) else (↑(ByteArray.size s) : Int)))) == ByteArray.toList
  { data := #[OfNat.ofNat 38, OfNat.ofNat 38] }) (K (AV.int 2) []) (brn (ByteArray.toList (ByteArray.extract s i.toNat (Int.toNat (if IntKind.wrap IntKind.i64 (i
  + (2 : Int)) < (↑(ByteArray.size s) : Int) then IntKind.wrap IntKind.i64 (i + (2 : Int)) else (↑(ByteArray.size s) : Int)))) == ByteArray.toList
  { data := #[OfNat.ofNat 124, OfNat.ofNat 124] }) (K (AV.int 2) []) (cnd (decide ((0 : Int) ≤ i) && decide (i < (↑(ByteArray.size s) : Int))) (brn ((↑(byteAt s
  i.toNat) : Int) == (40 : Int)) (K (AV.int 1) []) (brn ((↑(byteAt s i.toNat) : Int) == (41 : Int)) (K (AV.int 1) []) (brn ((↑(byteAt s i.toNat) : Int) == (123 :
  Int)) (K (AV.int 1) []) (brn ((↑(byteAt s i.toNat) : Int) == (125 : Int)) (K (AV.int 1) []) (brn ((↑(byteAt s i.toNat) : Int) == (91 : Int)) (K (AV.int 1) [])
  (brn ((↑(byteAt s i.toNat) : Int) == (93 : Int)) (K (AV.int 1) []) (brn ((↑(byteAt s i.toNat) : Int) == (44 : Int)) (K (AV.int 1) []) (brn ((↑(byteAt s
  i.toNat) : Int) == (59 : Int)) (K (AV.int 1) []) (brn ((↑(byteAt s i.toNat) : Int) == (58 : Int)) (K (AV.int 1) []) (brn ((↑(byteAt s i.toNat) : Int) == (46 :
  Int)) (K (AV.int 1) []) (brn ((↑(byteAt s i.toNat) : Int) == (61 : Int)) (K (AV.int 1) []) (brn ((↑(byteAt s i.toNat) : Int) == (60 : Int)) (K (AV.int 1) [])
  (brn ((↑(byteAt s i.toNat) : Int) == (62 : Int)) (K (AV.int 1) []) (brn ((↑(byteAt s i.toNat) : Int) == (43 : Int)) (K (AV.int 1) []) (brn ((↑(byteAt s
  i.toNat) : Int) == (45 : Int)) (K (AV.int 1) []) (brn ((↑(byteAt s i.toNat) : Int) == (42 : Int)) (K (AV.int 1) []) (brn ((↑(byteAt s i.toNat) : Int) == (47 :
  Int)) (K (AV.int 1) []) (brn ((↑(byteAt s i.toNat) : Int) == (37 : Int)) (K (AV.int 1) []) (brn ((↑(byteAt s i.toNat) : Int) == (33 : Int)) (K (AV.int 1) [])
  (K (AV.int 0) []))))))))))))))))))))))))))))) := by kernel_rfl
theorem pS6 (κ : Kp) : PureOk (BU6 κ).E 12 42 gS6 := by
  intro args x hh
  unfold gS6 at hh
  split at hh
  · rename_i s i
    simp only [Option.some.injEq, Prod.mk.injEq, decide_eq_true_eq] at hh
    obtain ⟨⟨h0, h1, h2⟩, rfl⟩ := hh
    obtain ⟨k, rfl⟩ : ∃ k : Nat, i = k := ⟨i.toNat, by omega⟩
    have hi : k < s.size := by omega
    obtain ⟨c, hd, hb⟩ := bl_at hi
    refine ⟨_, rfl, rfl, Eq.mpr (ySo κ s k _) ?_⟩
    have w5 : IntKind.wrap .i64 ((k : Int) + 2) = ((k + 2 : Nat) : Int) := by rw [wrap_ok (by omega) (by omega)]; rfl
    have hm : (if ((k + 2 : Nat) : Int) < (s.size : Int) then ((k + 2 : Nat) : Int) else (s.size : Int)) = ((min (k + 2) s.size : Nat) : Int) := by split <;> omega
    have ht : (s.extract k (min (k + 2) s.size)).toList = ((bl s).drop k).take 2 := by
      rw [bl_toList, bl_ext]
      have : ((bl s).drop k).length = s.size - k := by rw [List.length_drop, bl_len]
      rcases Nat.lt_or_ge s.size (k + 2) with h | h
      · rw [List.take_of_length_le (by omega), List.take_of_length_le (by omega)]
      · rw [Nat.min_eq_left h, show k + 2 - k = 2 by omega]
    have hc : (decide ((0 : Int) ≤ (k : Int)) && decide ((k : Int) < (s.size : Int))) = true := by simp; omega
    have hv : ∀ (z : Int) (b : UInt8), z = ((b.toNat : Nat) : Int) → (((c.toNat : Nat) : Int) == z) = (c == b) := fun z b hz => by rw [hz]; exact u8_eq c b
    have t2 : ∀ x y : UInt8, (ByteArray.mk #[x, y]).toList = [x, y] := fun x y => bl_toList _
    rw [w5, hm, Int.toNat_natCast, Int.toNat_natCast, ht, hb]
    rw [hv 40 40 rfl, hv 41 41 rfl, hv 123 123 rfl, hv 125 125 rfl, hv 91 91 rfl, hv 93 93 rfl, hv 44 44 rfl, hv 59 59 rfl, hv 58 58 rfl, hv 46 46 rfl, hv 61 61 rfl, hv 60 60 rfl, hv 62 62 rfl, hv 43 43 rfl, hv 45 45 rfl, hv 42 42 rfl, hv 47 47 rfl, hv 37 37 rfl, hv 33 33 rfl]
    simp only [brn_or, t2]
    refine cnd_iff.2 ⟨by simp; omega, brn_iff.2 ⟨fun e => ?_, fun e => cnd_iff.2 ⟨hc, brn_iff.2 ⟨fun e2 => ?_, fun e2 => ?_⟩⟩⟩⟩
    all_goals have h1 : twoL.any (fun p => ((bl s).drop k).take 2 == p) = _ := (by simp only [twoL, List.any_cons, List.any_nil, Bool.or_false]; exact e)
    · rw [sg6_eq hd, h1]; rfl
    all_goals have h2 : oneS.any (fun p => c == p) = _ := (by simp only [oneS, List.any_cons, List.any_nil, Bool.or_false]; exact e2)
    · rw [sg6_eq hd, h1, h2]; rfl
    · rw [sg6_eq hd, h1, h2]; rfl
  · cases hh
noncomputable def BS6 (κ : Kp) : EB := (BU6 κ).pure (pS6 κ)
theorem yO6 (κ : Kp) (s : ByteArray) (i : Int) (K : AV → List Dn.Obj → Prop) : (funA (BS6 κ).E 12 22 [.lit (.string s), .int i] [] K) = (
  cnd (decide ((0 : Int) ≤ i) && decide (i < (↑(ByteArray.size s) : Int))) (cnd (decide ((0 : Int) ≤ i) && decide (i < (↑(ByteArray.size s) : Int))) (cnd (decide
  ((0 : Int) ≤ i ∧ i ≤ (↑(ByteArray.size s) : Int) ∧ ByteArray.size s ≤ 1000000000)) (brn (isLe (↑(byteAt s i.toNat) : Int)) (brn (decide (IntKind.wrap
  IntKind.i64 ((↑(i.toNat + wrdL (List.drop i.toNat (bl s))) : Int) - i) > (40 : Int))) (K (AV.tup [AV.agg [AV.int 0, AV.str { data := #[] }, AV.int 0], AV.int
  0]) []) (cnd (decide ((0 : Int) ≤ i) && decide (i ≤ (↑(i.toNat + wrdL (List.drop i.toNat (bl s))) : Int)) && decide ((↑(i.toNat + wrdL (List.drop i.toNat (bl
  s))) : Int) ≤ (↑(ByteArray.size s) : Int))) (K (AV.tup [AV.agg [AV.int 1, AV.lit (Value.string (ByteArray.extract s i.toNat (Int.toNat (↑(i.toNat + wrdL
  (List.drop i.toNat (bl s))) : Int)))), AV.int 0], AV.int (↑(i.toNat + wrdL (List.drop i.toNat (bl s))) : Int)]) []))) (brn (isDi (↑(byteAt s i.toNat) : Int))
  (cnd (decide ((0 : Int) ≤ i) && decide (i ≤ (↑(i.toNat + wrdL (List.drop i.toNat (bl s))) : Int)) && decide ((↑(i.toNat + wrdL (List.drop i.toNat (bl s))) :
  Int) ≤ (↑(ByteArray.size s) : Int))) (∃ (a : ByteArray), ([AV.lit (Value.string (ByteArray.extract s i.toNat (Int.toNat (↑(i.toNat + wrdL (List.drop i.toNat
  (bl s))) : Int))))], []) = stRp a ∧ sideRp a ∧ brn (rnB a) (brn (decide ((↑(i.toNat + wrdL (List.drop i.toNat (bl s))) : Int) < (↑(ByteArray.size s) : Int)))
  (cnd (true && decide ((↑(i.toNat + wrdL (List.drop i.toNat (bl s))) : Int) < (↑(ByteArray.size s) : Int))) (brn ((↑(byteAt s (Int.toNat (↑(i.toNat + wrdL
  (List.drop i.toNat (bl s))) : Int))) : Int) == (46 : Int)) (K (AV.tup [AV.agg [AV.int 0, AV.str { data := #[] }, AV.int 0], AV.int 0]) []) (cnd (decide ((0 :
  Int) ≤ i) && decide (i ≤ (↑(i.toNat + wrdL (List.drop i.toNat (bl s))) : Int)) && decide ((↑(i.toNat + wrdL (List.drop i.toNat (bl s))) : Int) ≤
  (↑(ByteArray.size s) : Int))) (K (AV.tup [AV.agg [AV.int 2, AV.lit (Value.string (ByteArray.extract s i.toNat (Int.toNat (↑(i.toNat + wrdL (List.drop i.toNat
  (bl s))) : Int)))), AV.int 0], AV.lit (Value.int IntKind.i64 (↑(i.toNat + wrdL (List.drop i.toNat (bl s))) : Int))]) [])))) (cnd (decide ((0 : Int) ≤ i) &&
  decide (i ≤ (↑(i.toNat + wrdL (List.drop i.toNat (bl s))) : Int)) && decide ((↑(i.toNat + wrdL (List.drop i.toNat (bl s))) : Int) ≤ (↑(ByteArray.size s) :
  Int))) (K (AV.tup [AV.agg [AV.int 2, AV.lit (Value.string (ByteArray.extract s i.toNat (Int.toNat (↑(i.toNat + wrdL (List.drop i.toNat (bl s))) : Int)))),
  AV.int 0], AV.lit (Value.int IntKind.i64 (↑(i.toNat + wrdL (List.drop i.toNat (bl s))) : Int))]) []))) (K (AV.tup [AV.agg [AV.int 0, AV.str { data := #[] },
  AV.int 0], AV.int 0]) []))) (cnd (decide ((0 : Int) ≤ i) && decide (i < (↑(ByteArray.size s) : Int))) (brn ((↑(byteAt s i.toNat) : Int) == (34 : Int)) (cnd
  (decide ((0 : Int) ≤ i ∧ i < (↑(ByteArray.size s) : Int) ∧ ByteArray.size s ≤ 1000000000)) (brn ((↑(symV s i.toNat) : Int) == (0 : Int)) (K (AV.tup [AV.agg
  [AV.int 0, AV.str { data := #[] }, AV.int 0], AV.int 0]) []) (cnd (decide ((0 : Int) ≤ i) && decide (i ≤ (↑(symV s i.toNat) : Int)) && decide ((↑(symV s
  i.toNat) : Int) ≤ (↑(ByteArray.size s) : Int))) (∃ (a : ByteArray), ([AV.lit (Value.string (ByteArray.extract s i.toNat (Int.toNat (↑(symV s i.toNat) :
  Int))))], []) = stU6 a ∧ sideU6 a ∧ K (AV.tup [AV.agg [AV.int 3, AV.str (mkB (Option.getD (uq6 a) [])), AV.int 0], AV.int (↑(symV s i.toNat) : Int)]) []))))
  (cnd (decide ((0 : Int) ≤ i ∧ i < (↑(ByteArray.size s) : Int) ∧ ByteArray.size s ≤ 1000000000)) (brn ((↑(sg6 (List.drop i.toNat (bl s))) : Int) == (0 : Int))
  (K (AV.tup [AV.agg [AV.int 0, AV.str { data := #[] }, AV.int 0], AV.int 0]) []) (cnd (decide ((0 : Int) ≤ i) && decide (i ≤ IntKind.wrap IntKind.i64 (i +
  (↑(sg6 (List.drop i.toNat (bl s))) : Int))) && decide (IntKind.wrap IntKind.i64 (i + (↑(sg6 (List.drop i.toNat (bl s))) : Int)) ≤ (↑(ByteArray.size s) : Int)))
  (K (AV.tup [AV.agg [AV.int 4, AV.lit (Value.string (ByteArray.extract s i.toNat (Int.toNat (IntKind.wrap IntKind.i64 (i + (↑(sg6 (List.drop i.toNat (bl s))) :
  Int)))))), AV.int 0], AV.lit (Value.int IntKind.i64 (IntKind.wrap IntKind.i64 (i + (↑(sg6 (List.drop i.toNat (bl s))) : Int))))]) []))))))))))) := by kernel_rfl
end Go.Proofs.YtbppdpbagmbmpaaGreatDoor
namespace Go.Proofs.YtbppdpbagmbmpaaGreatDoor
open Go Go.Dn Go.Proofs
attribute [local irreducible] funA vc
set_option maxRecDepth 20000
theorem decL_pre {l : List UInt8} {c : UInt8} {n : Nat} (h : decL l = some (c, n)) (r : List UInt8) : decL (l.take n ++ r) = some (c, n) := by
  match l, h with
  | [], h => cases h
  | b :: l, h =>
    rw [decL_cons] at h
    cases e : plB b with
    | true =>
      rw [e] at h; cases h
      rw [List.take_succ_cons, List.take_zero, List.cons_append, decL_cons, e]; rfl
    | false =>
    rw [e] at h
    cases e2 : b == 92 with
    | false => rw [e2] at h; cases h
    | true =>
    rw [e2] at h
    match l, h with
    | [], h => cases h
    | d :: l, h =>
      simp only [cond_true, cond_false] at h
      cases e3 : dec2 d with
      | some v =>
        rw [e3] at h; cases h
        rw [List.take_succ_cons, List.take_succ_cons, List.take_zero, List.cons_append, List.cons_append, decL_cons, e, e2]
        simp only [cond_true, cond_false]
        rw [e3]
      | none =>
        rw [e3] at h
        cases e4 : d == 120 with
        | false => rw [e4] at h; cases h
        | true =>
          rw [e4] at h
          match l, h with
          | [], h => cases h
          | [_], h => cases h
          | x :: y :: l, h =>
            obtain ⟨v, h1, h2⟩ := Option.map_eq_some_iff.1 h
            cases h2
            simp only [List.take_succ_cons, List.take_zero, List.cons_append]
            rw [decL_cons, e, e2]
            simp only [cond_true, cond_false]
            rw [e3, e4]
            simp only [cond_true]
            rw [h1]; rfl
theorem decL_take {l : List UInt8} {c : UInt8} {n q : Nat} (h : decL l = some (c, n)) (hq : n ≤ q) : decL (l.take q) = some (c, n) := by
  have h1 := decL_pre h ((l.drop n).take (q - n))
  have h2 : l.take n ++ (l.drop n).take (q - n) = l.take q := by
    rw [← List.take_add, show n + (q - n) = q by omega]
  rwa [h2] at h1
theorem symD_str : ∀ (k : Nat) (l t : List UInt8) (m : Nat), symD k l = some (t, m) → 1 ≤ m ∧ m ≤ l.length ∧ l[m - 1]? = some 34 ∧ ∀ k', (l.take (m - 1)).length < k' → strD k' (l.take (m - 1)) = some t
  | 0, _, _, _, h => by cases h
  | k + 1, l, t, m, h => by
    rw [symD] at h
    cases e : l.head? == some 34 with
    | true =>
      rw [e] at h
      cases h
      rw [beq_iff_eq] at e
      match l, e with
      | b :: l, e =>
        cases e
        refine ⟨Nat.le_refl _, by simp, rfl, fun k' hk => ?_⟩
        obtain ⟨k'', rfl⟩ : ∃ k'', k' = k'' + 1 := ⟨k' - 1, by omega⟩
        rfl
    | false =>
      rw [e] at h
      simp only [cond_false] at h
      cases e2 : decL l with
      | none => rw [e2] at h; cases h
      | some x =>
        obtain ⟨c, n⟩ := x
        rw [e2] at h
        obtain ⟨h1, h2⟩ := decL_rng e2
        obtain ⟨y, h3, h4⟩ := Option.map_eq_some_iff.1 h
        cases h4
        obtain ⟨t', m'⟩ := y
        obtain ⟨i1, i2, i3, i4⟩ := symD_str k (l.drop n) t' m' h3
        rw [List.length_drop] at i2
        simp only
        refine ⟨by omega, by omega, ?_, fun k' hk => ?_⟩
        · rw [List.getElem?_drop] at i3
          rw [show n + m' - 1 = n + (m' - 1) by omega]; exact i3
        · obtain ⟨k'', rfl⟩ : ∃ k'', k' = k'' + 1 := ⟨k' - 1, by omega⟩
          have hne : (l.take (n + m' - 1)).isEmpty = false := by
            rw [List.isEmpty_eq_false_iff]
            intro e9
            have := congrArg List.length e9
            rw [List.length_take, List.length_nil] at this
            omega
          rw [strD, hne, decL_take e2 (by omega), cond_false]
          simp only
          have hd : (l.take (n + m' - 1)).drop n = (l.drop n).take (m' - 1) := by
            rw [List.drop_take, show n + m' - 1 - n = m' - 1 by omega]
          have hlt : (l.take (n + m' - 1)).length = n + m' - 1 := by rw [List.length_take]; omega
          have hlt2 : ((l.drop n).take (m' - 1)).length = m' - 1 := by rw [List.length_take, List.length_drop]; omega
          rw [hd, i4 k'' (by omega)]; rfl
def o6 : List UInt8 → Option (Int × List UInt8 × Nat)
  | [] => none
  | c :: r =>
    bif isLe (c.toNat : Nat) then (bif decide (wrdL (c :: r) > 40) then none else some (1, (c :: r).take (wrdL (c :: r)), wrdL (c :: r)))
    else bif isDi (c.toNat : Nat) then (bif rnB (mkB ((c :: r).take (wrdL (c :: r)))) then (bif ((c :: r).drop (wrdL (c :: r))).head? == some 46 then none else some (2, (c :: r).take (wrdL (c :: r)), wrdL (c :: r))) else none)
    else bif c == 34 then (symD (r.length + 1) r).map fun x => (3, x.1, x.2 + 1)
    else bif sg6 (c :: r) == 0 then none else some (4, (c :: r).take (sg6 (c :: r)), sg6 (c :: r))
def o6A (s : ByteArray) (i : Nat) : Option (Int × List UInt8 × Nat) := o6 ((bl s).drop i)
def oK : Option (Int × List UInt8 × Nat) → Int
  | none => 0
  | some x => x.1
def oS : Option (Int × List UInt8 × Nat) → ByteArray
  | none => ⟨#[]⟩
  | some x => mkB x.2.1
def oE (i : Nat) : Option (Int × List UInt8 × Nat) → Int
  | none => 0
  | some x => (i + x.2.2 : Nat)
abbrev o6V (i : Nat) (r : Option (Int × List UInt8 × Nat)) : AV := .tup [tkA (oK r) (oS r) 0, .int (oE i r)]
theorem sg6_le (l : List UInt8) (h : l ≠ []) : sg6 l ≤ l.length := by
  match l, h with
  | c :: r, _ =>
    rw [sg6_eq rfl]
    cases e : twoL.any (fun p => (c :: r).take 2 == p) with
    | true =>
      obtain ⟨p, hp, h2⟩ := List.any_eq_true.1 e
      have h3 : (twoL.all fun p => p.length == 2) = true := by decide
      have h4 := beq_iff_eq.1 (List.all_eq_true.1 h3 p hp)
      rw [beq_iff_eq] at h2
      have h5 := congrArg List.length h2
      rw [List.length_take, h4] at h5
      simp only [cond_true]; omega
    | false => cases oneS.any (fun p => c == p) <;> simp
def stO6 (x : ByteArray × Nat) : List AV × List Dn.Obj := ([.lit (.string x.1), .int x.2], [])
def sideO6 (x : ByteArray × Nat) : Prop := x.1.size ≤ 1000000000 ∧ x.2 < x.1.size
def outO6 (x : ByteArray × Nat) : Out (AV × List Dn.Obj) := .one (o6V x.2 (o6A x.1 x.2), [])
theorem cO6 (κ : Kp) : CallOk (BS6 κ).E 12 22 (callE stO6 sideO6 outO6) := by
  refine callE_ok ?_
  rintro ⟨s, i⟩ K ⟨h1, h2⟩ ho
  simp only at h1 h2
  have ho : K (o6V i (o6 ((bl s).drop i))) [] := ho
  refine Eq.mpr (yO6 κ s i K) ?_
  obtain ⟨c, hd, hb⟩ := bl_at h2
  have hll : ((bl s).drop i).length = s.size - i := by rw [List.length_drop, bl_len]
  have hwl := wrdL_le ((bl s).drop i)
  have hgl := sg6_le ((bl s).drop i) (by rw [hd]; simp)
  have hwp : (isLe (c.toNat : Nat) || isDi (c.toNat : Nat)) = true → 1 ≤ wrdL ((bl s).drop i) := fun e => by rw [hd]; exact wrd_pos e
  have hex : ∀ n, s.extract i (i + n) = mkB (((bl s).drop i).take n) := fun n => by
    apply bl_inj
    rw [bl_ext, bl_mkB, show i + n - i = n by omega]
  have q : ∀ r, o6 ((bl s).drop i) = r → K (o6V i r) [] := fun r e => e ▸ ho
  rw [show o6 ((bl s).drop i) = bif isLe (c.toNat : Nat) then (bif decide (wrdL ((bl s).drop i) > 40) then none else some (1, ((bl s).drop i).take (wrdL ((bl s).drop i)), wrdL ((bl s).drop i)))
    else bif isDi (c.toNat : Nat) then (bif rnB (mkB (((bl s).drop i).take (wrdL ((bl s).drop i)))) then (bif (((bl s).drop i).drop (wrdL ((bl s).drop i))).head? == some 46 then none else some (2, ((bl s).drop i).take (wrdL ((bl s).drop i)), wrdL ((bl s).drop i))) else none)
    else bif c == 34 then (symD (((bl s).drop (i + 1)).length + 1) ((bl s).drop (i + 1))).map fun x => (3, x.1, x.2 + 1)
    else bif sg6 ((bl s).drop i) == 0 then none else some (4, ((bl s).drop i).take (sg6 ((bl s).drop i)), sg6 ((bl s).drop i)) by rw [hd]; rfl] at q
  have hc : (decide ((0 : Int) ≤ (i : Int)) && decide ((i : Int) < (s.size : Int))) = true := by simp; omega
  have hc2 : decide ((0 : Int) ≤ (i : Int) ∧ (i : Int) ≤ (s.size : Int) ∧ s.size ≤ 1000000000) = true := decide_eq_true (by omega)
  have hc3 : decide ((0 : Int) ≤ (i : Int) ∧ (i : Int) < (s.size : Int) ∧ s.size ≤ 1000000000) = true := decide_eq_true (by omega)
  have w1 : IntKind.wrap .i64 (((i + wrdL ((bl s).drop i) : Nat) : Int) - (i : Int)) = ((wrdL ((bl s).drop i) : Nat) : Int) := by rw [wrap_ok (by omega) (by omega)]; omega
  have w2 : IntKind.wrap .i64 ((i : Int) + ((sg6 ((bl s).drop i) : Nat) : Int)) = ((i + sg6 ((bl s).drop i) : Nat) : Int) := by rw [wrap_ok (by omega) (by omega)]; rfl
  rw [Int.toNat_natCast, w1, w2, Int.toNat_natCast, hb]
  have hx : ∀ n, n ≤ s.size - i → (decide ((0 : Int) ≤ (i : Int)) && decide ((i : Int) ≤ ((i + n : Nat) : Int)) && decide (((i + n : Nat) : Int) ≤ (s.size : Int))) = true := fun n hn => by simp; omega
  have hW : wrdL ((bl s).drop i) ≤ s.size - i := by omega
  refine cnd_iff.2 ⟨hc, cnd_iff.2 ⟨hc, cnd_iff.2 ⟨hc2, brn_iff.2 ⟨fun e1 => brn_iff.2 ⟨fun e2 => ?_, fun e2 => cnd_iff.2 ⟨hx _ hW, ?_⟩⟩, fun e1 => brn_iff.2 ⟨fun e2 => cnd_iff.2 ⟨hx _ hW, ?_⟩, fun e2 => cnd_iff.2 ⟨hc, brn_iff.2 ⟨fun e3 => cnd_iff.2 ⟨hc3, ?_⟩, fun e3 => cnd_iff.2 ⟨hc3, ?_⟩⟩⟩⟩⟩⟩⟩⟩
  · have := of_decide_eq_true e2
    exact q none (by rw [e1, decide_eq_true (by omega)]; rfl)
  · have := of_decide_eq_false e2
    rw [hex]
    exact q (some (1, _, _)) (by rw [e1, decide_eq_false (by omega)]; rfl)
  · have hwp := hwp (by rw [e2, Bool.or_true])
    rw [e1, e2] at q
    rw [hex]
    have hz : (mkB (((bl s).drop i).take (wrdL ((bl s).drop i)))).size = wrdL ((bl s).drop i) := by rw [← bl_len, bl_mkB, List.length_take]; omega
    have hz0 : bl (mkB (((bl s).drop i).take (wrdL ((bl s).drop i)))) = c :: ((bl s).drop (i + 1)).take (wrdL ((bl s).drop i) - 1) := by
      rw [bl_mkB]
      generalize wrdL ((bl s).drop i) = W at hwp ⊢
      obtain ⟨W', rfl⟩ : ∃ W', W = W' + 1 := ⟨W - 1, by omega⟩
      rw [hd, List.take_succ_cons]; rfl
    have hne : byteAt (mkB (((bl s).drop i).take (wrdL ((bl s).drop i)))) 0 ≠ 45 := by
      rw [(byte_hd hz0).1]
      unfold isDi at e2
      rw [Bool.and_eq_true, decide_eq_true_eq, decide_eq_true_eq] at e2
      omega
    refine ⟨_, rfl, ⟨by omega, by omega, hne⟩, brn_iff.2 ⟨fun e3 => ?_, fun e3 => q none (by rw [e3]; rfl)⟩⟩
    rw [e3] at q
    refine brn_iff.2 ⟨fun e4 => cnd_iff.2 ⟨?_, ?_⟩, fun e4 => cnd_iff.2 ⟨hx _ hW, ?_⟩⟩
    · have := of_decide_eq_true e4
      simp; omega
    · have h4 := of_decide_eq_true e4
      obtain ⟨d, hd2, hb2⟩ := bl_at (s := s) (n := i + wrdL ((bl s).drop i)) (by omega)
      have hh : (((bl s).drop i).drop (wrdL ((bl s).drop i))).head? = some d := by rw [List.drop_drop, hd2]; rfl
      rw [hh] at q
      rw [hb2, show (46 : Int) = ((46 : UInt8).toNat : Nat) from rfl, u8_eq]
      refine brn_iff.2 ⟨fun e5 => ?_, fun e5 => cnd_iff.2 ⟨hx _ hW, ?_⟩⟩
      · rw [beq_iff_eq] at e5
        exact q none (by rw [e5]; rfl)
      · have : (some d == some (46 : UInt8)) = false := by rw [← e5]; rfl
        exact q (some (2, _, _)) (by rw [this]; rfl)
    · have h4 := of_decide_eq_false e4
      have hh : (((bl s).drop i).drop (wrdL ((bl s).drop i))).head? = none := by rw [List.drop_eq_nil_of_le (by omega)]; rfl
      rw [hh] at q
      exact q (some (2, _, _)) rfl
  · rw [show (34 : Int) = ((34 : UInt8).toNat : Nat) from rfl, u8_eq] at e3
    rw [e1, e2, e3] at q
    simp only [cond_true, cond_false] at q
    have hl1 : ((bl s).drop (i + 1)).length = s.size - (i + 1) := by rw [List.length_drop, bl_len]
    rw [symD_fuel _ (s.size + 1) _ (by omega) (by omega)] at q
    unfold symV
    cases e4 : symD (s.size + 1) ((bl s).drop (i + 1)) with
    | none => exact brn_iff.2 ⟨fun _ => q none (by rw [e4]; rfl), fun e => (by cases e)⟩
    | some x =>
      obtain ⟨t, m⟩ := x
      rw [e4] at q
      obtain ⟨k1, k2, k3, k4⟩ := symD_str _ _ _ _ e4
      rw [hl1] at k2
      simp only
      refine brn_iff.2 ⟨fun e => absurd (beq_iff_eq.1 e) (by omega), fun _ => cnd_iff.2 ⟨?_, ?_⟩⟩
      · have := hx (1 + m) (by omega)
        rw [show i + (1 + m) = i + 1 + m by omega] at this
        exact this
      · have hba : bl (s.extract i (i + 1 + m)) = c :: ((bl s).drop (i + 1)).take m := by
          rw [bl_ext, hd, show i + 1 + m - i = m + 1 by omega, List.take_succ_cons]
        have hsz : (s.extract i (i + 1 + m)).size = m + 1 := by rw [ByteArray.size_extract]; omega
        have hc34 : c = 34 := beq_iff_eq.1 e3
        have hlast : byteAt (s.extract i (i + 1 + m)) m = 34 := by
          obtain ⟨b, hb3, hb4⟩ := bl_at (s := s.extract i (i + 1 + m)) (n := m) (by omega)
          rw [hb4]
          have : (bl (s.extract i (i + 1 + m)))[m]? = some b := by
            have := congrArg (·[0]?) hb3
            simpa using this
          have h9 : (c :: ((bl s).drop (i + 1)).take m)[m - 1 + 1]? = some b := by rw [← hba, show m - 1 + 1 = m by omega]; exact this
          rw [List.getElem?_cons_succ, List.getElem?_take_of_lt (by omega), k3] at h9
          have this := h9
          cases this; rfl
        have hu : uq6 (s.extract i (i + 1 + m)) = some t := by
          unfold uq6
          rw [hsz, decide_eq_false (by omega), (byte_hd hba).1, hc34, Nat.add_sub_cancel, hlast, hba, List.drop_succ_cons, List.drop_zero, show m + 1 - 2 = m - 1 by omega, List.take_take, Nat.min_eq_left (by omega)]
          exact k4 _ (by rw [List.length_take]; omega)
        rw [Int.toNat_natCast]
        refine ⟨_, rfl, by show ByteArray.size _ ≤ 1000000000; omega, ?_⟩
        rw [hu]
        have := q (some (3, t, m + 1)) rfl
        simp only [o6V, oK, oS, oE] at this
        rw [show i + (m + 1) = i + 1 + m by omega] at this
        exact this
  · rw [show (34 : Int) = ((34 : UInt8).toNat : Nat) from rfl, u8_eq] at e3
    rw [e1, e2, e3] at q
    simp only [cond_false] at q
    refine brn_iff.2 ⟨fun e => ?_, fun e => cnd_iff.2 ⟨hx _ (by omega), ?_⟩⟩
    · have h5 : sg6 ((bl s).drop i) = 0 := by have := beq_iff_eq.1 e; omega
      exact q none (by rw [h5]; rfl)
    · have h5 : (sg6 ((bl s).drop i) == 0) = false := beq_eq_false_iff_ne.2 fun h => by rw [h] at e; cases e
      rw [Int.toNat_natCast, hex]
      exact q (some (4, _, _)) (by rw [h5]; rfl)
noncomputable def BO6 (κ : Kp) : EB := (BS6 κ).call (cO6 κ)
def EB.lends (b : EB) (l : List Nat) : EB := ⟨{ b.E with own := fun f => memN f l || b.E.own f, fresh := fun f => memN f l || b.E.fresh f }, ⟨b.ok.prog, b.ok.pcall, b.ok.call, b.ok.rng, b.ok.loop⟩, ⟨b.mono.call, b.mono.loop, b.mono.rng⟩⟩
noncomputable def BLe (κ : Kp) : EB := EB.lends (BO6 κ) [21]
theorem yEd (κ : Kp) (l : List AV) (n : Int) (K : AV → List Dn.Obj → Prop) : (funA (BLe κ).E 12 21 [.slc 0 0 l.length, .int n] [.row 31 l] K) = (
  brn ((↑(l.length) : Int) == (0 : Int)) (K (AV.slc 0 0 l.length) [Obj.row 31 l]) (cnd (decide ((0 : Int) ≤ IntKind.wrap IntKind.i64 ((↑(l.length) : Int) - (1 :
  Int))) && decide (IntKind.wrap IntKind.i64 ((↑(l.length) : Int) - (1 : Int)) < (↑(l.length) : Int))) (brn (toInt (fld (nth l (0 + Int.toNat (IntKind.wrap
  IntKind.i64 ((↑(l.length) : Int) - (1 : Int))))) 2) != n) (K (AV.slc 0 0 l.length) [Obj.row 31 l]) (cnd (decide ((0 : Int) ≤ IntKind.wrap IntKind.i64
  ((↑(l.length) : Int) - (1 : Int))) && decide (IntKind.wrap IntKind.i64 ((↑(l.length) : Int) - (1 : Int)) < (↑(l.length) : Int))) (brn (endT (toInt (fld (nth l
  (0 + Int.toNat (IntKind.wrap IntKind.i64 ((↑(l.length) : Int) - (1 : Int))))) 0)) (toStr (fld (nth l (0 + Int.toNat (IntKind.wrap IntKind.i64 ((↑(l.length) :
  Int) - (1 : Int))))) 1))) (cnd (decide ((l.length + 1 + 1) * 33 ≤ 70368744177664)) (K (AV.slc 1 0 (l.length + 1)) [Obj.dead, Obj.row 31 (List.take l.length l
  ++ [AV.agg [AV.int 4, AV.str { data := #[OfNat.ofNat 59] }, AV.int n]])])) (K (AV.slc 0 0 l.length) [Obj.row 31 l])))))) := by kernel_rfl
def endB (l : List TK) (ln : Int) : Bool := match l.getLast? with
  | none => false
  | some x => (x.2.2 == ln) && endT x.1 x.2.1
def stEd (x : List TK × Int) : List AV × List Dn.Obj := ([.slc 0 0 (x.1.map avT).length, .int x.2], [.row 31 (x.1.map avT)])
def sideEd (x : List TK × Int) : Prop := x.1.length ≤ 1000000000
def outEd (x : List TK × Int) : Out (AV × List Dn.Obj) := .brn (endB x.1 x.2)
  (.one (.slc 1 0 ((x.1 ++ [(4, semB, x.2)]).map avT).length, [.dead, .row 31 ((x.1 ++ [(4, semB, x.2)]).map avT)]))
  (.one (.slc 0 0 (x.1.map avT).length, [.row 31 (x.1.map avT)]))
theorem cEd (κ : Kp) : CallOk (BLe κ).E 12 21 (callE stEd sideEd outEd) := by
  refine callE_ok ?_
  rintro ⟨l, ln⟩ K h1 ho
  have h1 : l.length ≤ 1000000000 := h1
  have ho : brn (endB l ln) (K (.slc 1 0 ((l ++ [(4, semB, ln)]).map avT).length) [.dead, .row 31 ((l ++ [(4, semB, ln)]).map avT)]) (K (.slc 0 0 (l.map avT).length) [.row 31 (l.map avT)]) := ho
  refine Eq.mpr (yEd κ (l.map avT) ln K) ?_
  have hll : (l.map avT).length = l.length := List.length_map ..
  cases hl : l.getLast? with
  | none =>
    have h0 : l = [] := List.getLast?_eq_none_iff.1 hl
    unfold endB at ho
    rw [hl] at ho
    exact brn_iff.2 ⟨fun _ => (brn_iff.1 ho).2 rfl, fun e => absurd (beq_eq_false_iff_ne.1 e) (by rw [hll, h0]; simp)⟩
  | some x =>
    have hne : l ≠ [] := fun e => by rw [e] at hl; cases hl
    have hpos := List.length_pos_iff.2 hne
    have hx : l[l.length - 1]? = some x := by rw [← List.getLast?_eq_getElem?]; exact hl
    have w1 : IntKind.wrap .i64 (((l.map avT).length : Int) - 1) = ((l.length - 1 : Nat) : Int) := by rw [hll, wrap_ok (by omega) (by omega)]; omega
    have hn : nth (l.map avT) (0 + (l.length - 1)) = avT x := by rw [Nat.zero_add]; exact nth_avT l _ x hx
    have hc : (decide ((0 : Int) ≤ ((l.length - 1 : Nat) : Int)) && decide (((l.length - 1 : Nat) : Int) < ((l.map avT).length : Int))) = true := by rw [hll]; simp; omega
    unfold endB at ho
    rw [hl] at ho
    rw [w1, Int.toNat_natCast, hn]
    obtain ⟨kd, s, n⟩ := x
    refine brn_iff.2 ⟨fun e => absurd (beq_iff_eq.1 e) (by rw [hll]; omega), fun _ => cnd_iff.2 ⟨hc, brn_iff.2 ⟨fun e2 => ?_, fun e2 => cnd_iff.2 ⟨hc, brn_iff.2 ⟨fun e3 => cnd_iff.2 ⟨by rw [hll]; simp; omega, ?_⟩, fun e3 => ?_⟩⟩⟩⟩⟩
    · have : (n == ln) = false := by rw [beq_eq_false_iff_ne]; rw [bne_iff_ne] at e2; exact e2
      simp only [this, Bool.false_and] at ho
      exact (brn_iff.1 ho).2 rfl
    · have e2 : (n == ln) = true := by rw [beq_iff_eq]; rw [bne_eq_false_iff_eq] at e2; exact e2
      have e3 : endT kd s = true := e3
      simp only [e2, e3, Bool.true_and] at ho
      have := (brn_iff.1 ho).1 rfl
      simp only [List.map_append, List.map_cons, List.map_nil, List.length_append, List.length_singleton] at this
      rw [List.take_length]
      exact this
    · have e3 : endT kd s = false := e3
      simp only [e3, Bool.and_false] at ho
      exact (brn_iff.1 ho).2 rfl
noncomputable def BEd (κ : Kp) : EB := (BLe κ).call (cEd κ)
abbrev stL6 (s : ByteArray) (toks : List AV) (ln i : Int) : S := sp 100 [(0, .lit (.string s)), (5, .slc 0 0 toks.length), (6, .int ln), (7, .int i)] [.row 31 toks]
end Go.Proofs.YtbppdpbagmbmpaaGreatDoor
