import Derived.Test.YtbppdpbagmbmpaaGreatDoorDxGA
import Derived.Shelf.Small.Strs
import Derived.Shelf.Strings.Search3
import Derived.Shelf.Strings.SlTrimAscii
import Derived.Shelf.Strconv.Itoa4
import Derived.Shelf.Strconv.ParseIntPublic10
namespace Go.Proofs.YtbppdpbagmbmpaaGreatDoor
open Go Go.Dn Go.Proofs Go.Shelf
attribute [local irreducible] funA vc
set_option maxRecDepth 20000
def lays137_ren : Go.Shelf.Ren := ⟨fun | 137 => 82 | 217 => 86 | 266 => 101 | n => n, fun | 9 => 9 | 5 => 5 | 3 => 3 | n => n, fun n => n⟩
theorem lays137 : Lays.n137 Tryz.prog lays137_ren := { mixed := by kernel_rfl, f137 := Tryz.func82.trans (congrArg some (by kernel_rfl)), f217 := Tryz.func86.trans (congrArg some (by kernel_rfl)), f266 := Tryz.func101.trans (congrArg some (by kernel_rfl)), t3 := Tryz.underlying3, a3 := Tryz.isAgg3, z3 := Tryz.sizeOf3, v3 := Tryz.zeroValue3, t5 := Tryz.underlying5, a5 := Tryz.isAgg5, z5 := Tryz.sizeOf5, v5 := Tryz.zeroValue5, t9 := Tryz.underlying9, a9 := Tryz.isAgg9, z9 := Tryz.sizeOf9, v9 := Tryz.zeroValue9 }
def gIx : List AV → Option (Bool × AV)
  | [.lit (.string s), .lit (.int .u8 c)] => some (true, .int (Lib.indexByte (bl s) c.toNat.toUInt8))
  | _ => none
theorem pIx (κ : Kp) : PureSim (BSg κ).E.P 82 gIx := by
  refine pure_kit ⟨_, Tryz.func82, rfl⟩ fun args x hh => ?_
  unfold gIx at hh
  split at hh
  · rename_i s c
    simp only [Option.some.injEq, Prod.mk.injEq, true_and] at hh
    subst hh
    refine ⟨[.string s, .int .u8 c], _, rfl, rfl, rfl, fun C _ _ => ?_⟩
    refine (Any.strings_IndexByte lays137 s c C.w).mono ?_
    rintro e w' ⟨rfl, rfl⟩
    exact ⟨rfl, Grows.refl _⟩
  · cases hh
noncomputable def BIx (κ : Kp) : EB := (BSg κ).puresim (pIx κ)
abbrev tkA (k : Int) (s : ByteArray) (l : Int) : AV := .agg [.int k, .lit (.string s), .int l]
theorem yEn (κ : Kp) (k l : Int) (s : ByteArray) (K : AV → List Dn.Obj → Prop) : (funA (BIx κ).E 12 13 [tkA k s l] [] K) = (
  brn (k == (1 : Int)) (K (AV.lit (Value.bool !Dn.toBool (getK [(Value.string (ByteArray.extract wiB 0 7), AV.bool true), (Value.string (ByteArray.extract wiB 8
  12), AV.bool true), (Value.string (ByteArray.extract wiB 13 19), AV.bool true), (Value.string (ByteArray.extract wiB 20 24), AV.bool true), (Value.string
  (ByteArray.extract wiB 25 28), AV.bool true), (Value.string (ByteArray.extract wiB 29 31), AV.bool true), (Value.string (ByteArray.extract wiB 32 36), AV.bool
  true), (Value.string (ByteArray.extract wiB 37 40), AV.bool true), (Value.string (ByteArray.extract wiB 41 45), AV.bool true), (Value.string (ByteArray.extract
  wiB 46 50), AV.bool true), (Value.string (ByteArray.extract wiB 51 56), AV.bool true), (Value.string (ByteArray.extract wiB 57 64), AV.bool true),
  (Value.string (ByteArray.extract wiB 65 70), AV.bool true), (Value.string (ByteArray.extract wiB 71 73), AV.bool true), (Value.string (ByteArray.extract wiB 74
  78), AV.bool true), (Value.string (ByteArray.extract wiB 79 85), AV.bool true), (Value.string (ByteArray.extract wiB 86 95), AV.bool true), (Value.string
  (ByteArray.extract wiB 96 99), AV.bool true), (Value.string (ByteArray.extract wiB 100 105), AV.bool true), (Value.string (ByteArray.extract wiB 106 112),
  AV.bool true), (Value.string (ByteArray.extract wiB 113 119), AV.bool true)] (Value.string s) (AV.bool false)))) []) (brn (k == (2 : Int)) (K (AV.bool true)
  []) (brn (k == (3 : Int)) (K (AV.bool true) []) (brn (k == (4 : Int)) (brn (ByteArray.toList s == ByteArray.toList { data := #[OfNat.ofNat 41] }) (K (AV.bool
  true) []) (brn (ByteArray.toList s == ByteArray.toList { data := #[OfNat.ofNat 93] }) (K (AV.bool true) []) (K (AV.bool (ByteArray.toList s == ByteArray.toList
  { data := #[OfNat.ofNat 125] })) []))) (K (AV.bool false) []))))) := by kernel_rfl
theorem ySi (κ : Kp) (s : ByteArray) (K : AV → List Dn.Obj → Prop) : (funA (BIx κ).E 12 63 [.lit (.string s)] [] K) = (
  ∃ (B : ByteArray), ∃ (s_1 : ByteArray), ([AV.ptr 2 0 [] 0], [Obj.box 9 (AV.str s), Obj.box 3 (AV.int 0), Obj.box 9 (AV.lit (Value.string
  { data := #[OfNat.ofNat 58, OfNat.ofNat 61, OfNat.ofNat 32, OfNat.ofNat 61, OfNat.ofNat 61, OfNat.ofNat 32, OfNat.ofNat 33, OfNat.ofNat 61, OfNat.ofNat 32, OfNat.ofNat 60, OfNat.ofNat 61, OfNat.ofNat 32, OfNat.ofNat 62, OfNat.ofNat 61, OfNat.ofNat 32, OfNat.ofNat 38, OfNat.ofNat 38, OfNat.ofNat 32, OfNat.ofNat 124, OfNat.ofNat 124] })),
  Dn.Obj.loop (lpA Tryz.prog 63 2 LoopState.ready none (spR (junks 13) [(0, AV.str s), (1, AV.ptr 0 0 [] 0), (2, AV.ptr 1 0 [] 0), (4, AV.clo 69 [AV.ptr 2 0 []
  0])]))]) = ([AV.ptr 2 0 [] 0], [Obj.box 9 (AV.str s_1), Obj.box 3 (AV.int 0), Obj.box 9 (AV.str B), Dn.Obj.loop (lpA Tryz.prog 63 2 LoopState.ready none (spR
  (junks 13) [(0, AV.str s_1), (1, AV.ptr 0 0 [] 0), (2, AV.ptr 1 0 [] 0), (4, AV.clo 69 [AV.ptr 2 0 [] 0])]))]) ∧ sideFc B ∧ brn (List.any (fldA B) (hasP s_1))
  (K (AV.int 2) []) (cnd (true && decide ((0 : Int) < (↑(ByteArray.size s_1) : Int))) (brn (decide (Lib.indexByte (bl
  { data := #[OfNat.ofNat 40, OfNat.ofNat 41, OfNat.ofNat 123, OfNat.ofNat 125, OfNat.ofNat 91, OfNat.ofNat 93, OfNat.ofNat 44, OfNat.ofNat 59, OfNat.ofNat 58, OfNat.ofNat 46, OfNat.ofNat 61, OfNat.ofNat 60, OfNat.ofNat 62, OfNat.ofNat 43, OfNat.ofNat 45, OfNat.ofNat 42, OfNat.ofNat 47, OfNat.ofNat 37, OfNat.ofNat 33] })
  (Nat.toUInt8 (Int.toNat (↑(byteAt s_1 0) : Int))) < (0 : Int))) (K (AV.int 0) []) (K (AV.int 1) [])))) := by kernel_rfl
def wiX : List (Value × AV) := [(.string (ByteArray.extract wiB 0 7), .lit (.bool true)), (.string (ByteArray.extract wiB 8 12), .lit (.bool true)), (.string (ByteArray.extract wiB 13 19), .lit (.bool true)), (.string (ByteArray.extract wiB 20 24), .lit (.bool true)), (.string (ByteArray.extract wiB 25 28), .lit (.bool true)), (.string (ByteArray.extract wiB 29 31), .lit (.bool true)), (.string (ByteArray.extract wiB 32 36), .lit (.bool true)), (.string (ByteArray.extract wiB 37 40), .lit (.bool true)), (.string (ByteArray.extract wiB 41 45), .lit (.bool true)), (.string (ByteArray.extract wiB 46 50), .lit (.bool true)), (.string (ByteArray.extract wiB 51 56), .lit (.bool true)), (.string (ByteArray.extract wiB 57 64), .lit (.bool true)), (.string (ByteArray.extract wiB 65 70), .lit (.bool true)), (.string (ByteArray.extract wiB 71 73), .lit (.bool true)), (.string (ByteArray.extract wiB 74 78), .lit (.bool true)), (.string (ByteArray.extract wiB 79 85), .lit (.bool true)), (.string (ByteArray.extract wiB 86 95), .lit (.bool true)), (.string (ByteArray.extract wiB 96 99), .lit (.bool true)), (.string (ByteArray.extract wiB 100 105), .lit (.bool true)), (.string (ByteArray.extract wiB 106 112), .lit (.bool true)), (.string (ByteArray.extract wiB 113 119), .lit (.bool true))]
def onesB : ByteArray := ⟨#[40, 41, 123, 125, 91, 93, 44, 59, 58, 46, 61, 60, 62, 43, 45, 42, 47, 37, 33]⟩
def isKw (s : ByteArray) : Bool := Dn.toBool (getK wiX (.string s) (.bool false))
def endT (k : Int) (s : ByteArray) : Bool :=
  bif k == 1 then !isKw s else bif k == 2 then true else bif k == 3 then true
  else bif k == 4 then (bif s.toList == (ByteArray.mk #[41]).toList then true else bif s.toList == (ByteArray.mk #[93]).toList then true else s.toList == (ByteArray.mk #[125]).toList) else false
def sgnN (s : ByteArray) : Int := bif (fldA siB).any (hasP s) then 2 else bif decide (Lib.indexByte (bl onesB) (byteAt s 0).toUInt8 < 0) then 0 else 1
def gEn : List AV → Option (Bool × AV)
  | [.agg [.lit (.int .i64 k), .lit (.string s), .lit (.int .i64 _)]] => some (true, .bool (endT k s))
  | _ => none
theorem pEn (κ : Kp) : PureOk (BIx κ).E 12 13 gEn := by
  intro args x hh
  unfold gEn at hh
  split at hh
  · rename_i k s l
    simp only [Option.some.injEq, Prod.mk.injEq, true_and] at hh
    subst hh
    refine ⟨_, rfl, rfl, Eq.mpr (yEn κ k l s _) ?_⟩
    unfold endT
    cases k == 1 with
    | true => exact rfl
    | false =>
    cases k == 2 with
    | true => exact rfl
    | false =>
    cases k == 3 with
    | true => exact rfl
    | false =>
    cases k == 4 with
    | true =>
      show brn (s.toList == (ByteArray.mk #[41]).toList) (AV.bool true = AV.bool (bif s.toList == (ByteArray.mk #[41]).toList then true else bif s.toList == (ByteArray.mk #[93]).toList then true else s.toList == (ByteArray.mk #[125]).toList)) (brn (s.toList == (ByteArray.mk #[93]).toList) (AV.bool true = AV.bool (bif s.toList == (ByteArray.mk #[41]).toList then true else bif s.toList == (ByteArray.mk #[93]).toList then true else s.toList == (ByteArray.mk #[125]).toList)) (AV.bool (s.toList == (ByteArray.mk #[125]).toList) = AV.bool (bif s.toList == (ByteArray.mk #[41]).toList then true else bif s.toList == (ByteArray.mk #[93]).toList then true else s.toList == (ByteArray.mk #[125]).toList)))
      generalize (s.toList == (ByteArray.mk #[41]).toList) = b1
      generalize (s.toList == (ByteArray.mk #[93]).toList) = b2
      cases b1 <;> cases b2 <;> exact rfl
    | false => exact rfl
  · cases hh
noncomputable def BEn (κ : Kp) : EB := (BIx κ).pure (pEn κ)
def gSg : List AV → Option (Bool × AV)
  | [.lit (.string s)] => some (decide (0 < s.size), .int (sgnN s))
  | _ => none
theorem pSg (κ : Kp) : PureOk (BIx κ).E 12 63 gSg := by
  intro args x hh
  unfold gSg at hh
  split at hh
  · rename_i s
    simp only [Option.some.injEq, Prod.mk.injEq, decide_eq_true_eq] at hh
    obtain ⟨h1, rfl⟩ := hh
    refine ⟨_, rfl, rfl, Eq.mpr (ySi κ s _) ⟨siB, s, rfl, side_si, ?_⟩⟩
    unfold sgnN
    cases (fldA siB).any (hasP s) with
    | true => exact rfl
    | false =>
      refine cnd_iff.2 ⟨by simp; omega, ?_⟩
      rw [Int.toNat_natCast, show (Nat.toUInt8 (byteAt s 0)) = (byteAt s 0).toUInt8 from rfl]
      cases e : decide (Lib.indexByte (bl onesB) (byteAt s 0).toUInt8 < 0) with
      | true => exact brn_iff.2 ⟨fun _ => rfl, fun e2 => absurd (e.symm.trans e2) (by decide)⟩
      | false => exact brn_iff.2 ⟨fun e2 => absurd (e.symm.trans e2) (by decide), fun _ => rfl⟩
  · cases hh
noncomputable def BSi (κ : Kp) : EB := (BEn κ).puresim (pure_sim (BIx κ).ok (BIx κ).mono (pSg κ))
end Go.Proofs.YtbppdpbagmbmpaaGreatDoor
namespace Go.Proofs.YtbppdpbagmbmpaaGreatDoor
open Go Go.Dn Go.Proofs Go.Shelf Go.RowKit
attribute [local irreducible] funA vc
set_option maxRecDepth 20000
def lays143_ren : Go.Shelf.Ren := ⟨fun | 143 => 51 | 219 => 73 | 217 => 86 | 225 => 87 | 224 => 88 | 267 => 89 | 266 => 101 | 314 => 102 | n => n, fun | 9 => 9 | 3 => 3 | 4 => 4 | 5 => 5 | 46 => 131 | 146 => 155 | 51 => 128 | n => n, fun | 1 => 6 | n => n⟩
def lays161_ren : Go.Shelf.Ren := ⟨fun | 161 => 29 | 231 => 52 | 227 => 53 | 233 => 54 | 235 => 55 | 228 => 74 | 197 => 50 | 151 => 75 | 260 => 72 | 152 => 90 | 137 => 82 | 119 => 103 | 224 => 88 | 225 => 87 | 217 => 86 | 266 => 101 | n => n, fun | 9 => 9 | 4 => 4 | 3 => 3 | 5 => 5 | 117 => 88 | 116 => 87 | 0 => 0 | 124 => 91 | 105 => 82 | 21 => 21 | 119 => 111 | 46 => 131 | 139 => 134 | 138 => 133 | n => n, fun | 3 => 4 | 4 => 5 | n => n⟩
def lays174_ren : Go.Shelf.Ren := ⟨fun | 174 => 76 | 247 => 91 | 245 => 92 | 287 => 104 | 279 => 105 | 280 => 106 | 281 => 107 | 282 => 108 | 321 => 111 | 322 => 112 | 316 => 113 | 171 => 115 | 205 => 114 | 243 => 120 | 246 => 109 | 283 => 116 | 284 => 117 | 285 => 118 | 286 => 119 | 129 => 122 | 317 => 121 | 318 => 123 | 319 => 124 | 320 => 125 | 337 => 126 | 338 => 127 | n => n, fun | 9 => 9 | 3 => 3 | 2 => 2 | 75 => 35 | 85 => 114 | 4 => 4 | 167 => 157 | 5 => 5 | 53 => 106 | 175 => 158 | 46 => 131 | 168 => 160 | 37 => 110 | 0 => 0 | 210 => 171 | 21 => 21 | 127 => 143 | 145 => 181 | 143 => 179 | 171 => 174 | 173 => 177 | 212 => 183 | 51 => 128 | 20 => 20 | 213 => 184 | 232 => 188 | 233 => 189 | 80 => 124 | n => n, fun | 15 => 7 | 16 => 8 | 17 => 9 | 18 => 10 | 19 => 11 | n => n⟩
def lays173_ren : Go.Shelf.Ren := ⟨fun | 173 => 93 | 246 => 109 | 283 => 116 | 284 => 117 | 285 => 118 | 286 => 119 | 129 => 122 | 317 => 121 | 318 => 123 | 319 => 124 | 320 => 125 | 337 => 126 | 338 => 127 | n => n, fun | 2 => 2 | 3 => 3 | 9 => 9 | 4 => 4 | 171 => 174 | 0 => 0 | 53 => 106 | 37 => 110 | 5 => 5 | 173 => 177 | 212 => 183 | 51 => 128 | 20 => 20 | 213 => 184 | 46 => 131 | 232 => 188 | 233 => 189 | n => n, fun | 17 => 9 | 18 => 10 | 19 => 11 | n => n⟩
theorem lays143 : Lays.n143 Tryz.prog lays143_ren := { mixed := by kernel_rfl, f143 := Tryz.func51.trans (congrArg some (by kernel_rfl)), f217 := Tryz.func86.trans (congrArg some (by kernel_rfl)), f219 := Tryz.func73.trans (congrArg some (by kernel_rfl)), f224 := Tryz.func88.trans (congrArg some (by kernel_rfl)), f225 := Tryz.func87.trans (congrArg some (by kernel_rfl)), f266 := Tryz.func101.trans (congrArg some (by kernel_rfl)), f267 := Tryz.func89.trans (congrArg some (by kernel_rfl)), f314 := Tryz.func102.trans (congrArg some (by kernel_rfl)), t3 := Tryz.underlying3, a3 := Tryz.isAgg3, z3 := Tryz.sizeOf3, v3 := Tryz.zeroValue3, t4 := Tryz.underlying4, a4 := Tryz.isAgg4, z4 := Tryz.sizeOf4, v4 := Tryz.zeroValue4, t5 := Tryz.underlying5, a5 := Tryz.isAgg5, z5 := Tryz.sizeOf5, v5 := Tryz.zeroValue5, t9 := Tryz.underlying9, a9 := Tryz.isAgg9, z9 := Tryz.sizeOf9, v9 := Tryz.zeroValue9, t46 := Tryz.underlying131, a46 := Tryz.isAgg131, z46 := Tryz.sizeOf131, v46 := Tryz.zeroValue131, t51 := Tryz.underlying128, a51 := Tryz.isAgg128, z51 := Tryz.sizeOf128, v51 := Tryz.zeroValue128, t146 := Tryz.underlying155, a146 := Tryz.isAgg155, z146 := Tryz.sizeOf155, v146 := Tryz.zeroValue155, g1 := by kernel_rfl }
theorem lays161 : Lays.n161 Tryz.prog lays161_ren := { mixed := by kernel_rfl, f119 := Tryz.func103.trans (congrArg some (by kernel_rfl)), f137 := Tryz.func82.trans (congrArg some (by kernel_rfl)), f151 := Tryz.func75.trans (congrArg some (by kernel_rfl)), f152 := Tryz.func90.trans (congrArg some (by kernel_rfl)), f161 := Tryz.func29.trans (congrArg some (by kernel_rfl)), f197 := Tryz.func50.trans (congrArg some (by kernel_rfl)), f217 := Tryz.func86.trans (congrArg some (by kernel_rfl)), f224 := Tryz.func88.trans (congrArg some (by kernel_rfl)), f225 := Tryz.func87.trans (congrArg some (by kernel_rfl)), f227 := Tryz.func53.trans (congrArg some (by kernel_rfl)), f228 := Tryz.func74.trans (congrArg some (by kernel_rfl)), f231 := Tryz.func52.trans (congrArg some (by kernel_rfl)), f233 := Tryz.func54.trans (congrArg some (by kernel_rfl)), f235 := Tryz.func55.trans (congrArg some (by kernel_rfl)), f260 := Tryz.func72.trans (congrArg some (by kernel_rfl)), f266 := Tryz.func101.trans (congrArg some (by kernel_rfl)), t0 := Tryz.underlying0, a0 := Tryz.isAgg0, z0 := Tryz.sizeOf0, v0 := Tryz.zeroValue0, t3 := Tryz.underlying3, a3 := Tryz.isAgg3, z3 := Tryz.sizeOf3, v3 := Tryz.zeroValue3, t4 := Tryz.underlying4, a4 := Tryz.isAgg4, z4 := Tryz.sizeOf4, v4 := Tryz.zeroValue4, t5 := Tryz.underlying5, a5 := Tryz.isAgg5, z5 := Tryz.sizeOf5, v5 := Tryz.zeroValue5, t9 := Tryz.underlying9, a9 := Tryz.isAgg9, z9 := Tryz.sizeOf9, v9 := Tryz.zeroValue9, t21 := Tryz.underlying21, a21 := Tryz.isAgg21, z21 := Tryz.sizeOf21, v21 := Tryz.zeroValue21, t46 := Tryz.underlying131, a46 := Tryz.isAgg131, z46 := Tryz.sizeOf131, v46 := Tryz.zeroValue131, t105 := Tryz.underlying82, a105 := Tryz.isAgg82, z105 := Tryz.sizeOf82, v105 := Tryz.zeroValue82, t116 := Tryz.underlying87, a116 := Tryz.isAgg87, z116 := Tryz.sizeOf87, t117 := Tryz.underlying88, a117 := Tryz.isAgg88, z117 := Tryz.sizeOf88, v117 := Tryz.zeroValue88, t119 := Tryz.underlying111, a119 := Tryz.isAgg111, z119 := Tryz.sizeOf111, t124 := Tryz.underlying91, a124 := Tryz.isAgg91, z124 := Tryz.sizeOf91, v124 := Tryz.zeroValue91, t138 := Tryz.underlying133, a138 := Tryz.isAgg133, z138 := Tryz.sizeOf133, v138 := Tryz.zeroValue133, t139 := Tryz.underlying134, a139 := Tryz.isAgg134, z139 := Tryz.sizeOf134, v139 := Tryz.zeroValue134, g3 := by kernel_rfl, g4 := by kernel_rfl }
theorem lays174 : LaysC.n174 Tryz.prog lays174_ren := { mixed := by kernel_rfl, f129 := Tryz.func122.trans (congrArg some (by kernel_rfl)), f171 := Tryz.func115.trans (congrArg some (by kernel_rfl)), f174 := Tryz.func76.trans (congrArg some (by kernel_rfl)), f205 := Tryz.func114.trans (congrArg some (by kernel_rfl)), f243 := Tryz.func120.trans (congrArg some (by kernel_rfl)), f245 := Tryz.func92.trans (congrArg some (by kernel_rfl)), f246 := Tryz.func109.trans (congrArg some (by kernel_rfl)), f247 := Tryz.func91.trans (congrArg some (by kernel_rfl)), f279 := Tryz.func105.trans (congrArg some (by kernel_rfl)), f280 := Tryz.func106.trans (congrArg some (by kernel_rfl)), f281 := Tryz.func107.trans (congrArg some (by kernel_rfl)), f282 := Tryz.func108.trans (congrArg some (by kernel_rfl)), f283 := Tryz.func116.trans (congrArg some (by kernel_rfl)), f284 := Tryz.func117.trans (congrArg some (by kernel_rfl)), f285 := Tryz.func118.trans (congrArg some (by kernel_rfl)), f286 := Tryz.func119.trans (congrArg some (by kernel_rfl)), f287 := Tryz.func104.trans (congrArg some (by kernel_rfl)), f316 := Tryz.func113.trans (congrArg some (by kernel_rfl)), f317 := Tryz.func121.trans (congrArg some (by kernel_rfl)), f318 := Tryz.func123.trans (congrArg some (by kernel_rfl)), f319 := Tryz.func124.trans (congrArg some (by kernel_rfl)), f320 := Tryz.func125.trans (congrArg some (by kernel_rfl)), f321 := Tryz.func111.trans (congrArg some (by kernel_rfl)), f322 := Tryz.func112.trans (congrArg some (by kernel_rfl)), f337 := Tryz.func126.trans (congrArg some (by kernel_rfl)), f338 := Tryz.func127.trans (congrArg some (by kernel_rfl)), t0 := Tryz.underlying0, a0 := Tryz.isAgg0, z0 := Tryz.sizeOf0, v0 := Tryz.zeroValue0, t2 := Tryz.underlying2, a2 := Tryz.isAgg2, z2 := Tryz.sizeOf2, v2 := Tryz.zeroValue2, t3 := Tryz.underlying3, a3 := Tryz.isAgg3, z3 := Tryz.sizeOf3, v3 := Tryz.zeroValue3, t4 := Tryz.underlying4, a4 := Tryz.isAgg4, z4 := Tryz.sizeOf4, v4 := Tryz.zeroValue4, t5 := Tryz.underlying5, a5 := Tryz.isAgg5, z5 := Tryz.sizeOf5, v5 := Tryz.zeroValue5, t9 := Tryz.underlying9, a9 := Tryz.isAgg9, z9 := Tryz.sizeOf9, v9 := Tryz.zeroValue9, t20 := Tryz.underlying20, a20 := Tryz.isAgg20, z20 := Tryz.sizeOf20, v20 := Tryz.zeroValue20, t21 := Tryz.underlying21, a21 := Tryz.isAgg21, z21 := Tryz.sizeOf21, v21 := Tryz.zeroValue21, t37 := Tryz.underlying110, a37 := Tryz.isAgg110, z37 := Tryz.sizeOf110, v37 := Tryz.zeroValue110, t46 := Tryz.underlying131, a46 := Tryz.isAgg131, z46 := Tryz.sizeOf131, v46 := Tryz.zeroValue131, t51 := Tryz.underlying128, a51 := Tryz.isAgg128, z51 := Tryz.sizeOf128, v51 := Tryz.zeroValue128, t53 := Tryz.underlying106, a53 := Tryz.isAgg106, z53 := Tryz.sizeOf106, v53 := Tryz.zeroValue106, t75 := Tryz.underlying35, a75 := Tryz.isAgg35, z75 := Tryz.sizeOf35, v75 := Tryz.zeroValue35, t85 := Tryz.underlying114, a85 := Tryz.isAgg114, z85 := Tryz.sizeOf114, v85 := Tryz.zeroValue114, t127 := Tryz.underlying143, a127 := Tryz.isAgg143, z127 := Tryz.sizeOf143, v127 := Tryz.zeroValue143, t143 := Tryz.underlying179, a143 := Tryz.isAgg179, z143 := Tryz.sizeOf179, v143 := Tryz.zeroValue179, t145 := Tryz.underlying181, a145 := Tryz.isAgg181, z145 := Tryz.sizeOf181, v145 := Tryz.zeroValue181, t167 := Tryz.underlying157, a167 := Tryz.isAgg157, z167 := Tryz.sizeOf157, v167 := Tryz.zeroValue157, t168 := Tryz.underlying160, a168 := Tryz.isAgg160, z168 := Tryz.sizeOf160, v168 := Tryz.zeroValue160, t171 := Tryz.underlying174, a171 := Tryz.isAgg174, z171 := Tryz.sizeOf174, v171 := Tryz.zeroValue174, t173 := Tryz.underlying177, a173 := Tryz.isAgg177, z173 := Tryz.sizeOf177, v173 := Tryz.zeroValue177, t175 := Tryz.underlying158, a175 := Tryz.isAgg158, z175 := Tryz.sizeOf158, v175 := Tryz.zeroValue158, t210 := Tryz.underlying171, a210 := Tryz.isAgg171, z210 := Tryz.sizeOf171, v210 := Tryz.zeroValue171, t212 := Tryz.underlying183, a212 := Tryz.isAgg183, z212 := Tryz.sizeOf183, v212 := Tryz.zeroValue183, t213 := Tryz.underlying184, a213 := Tryz.isAgg184, z213 := Tryz.sizeOf184, t232 := Tryz.underlying188, a232 := Tryz.isAgg188, z232 := Tryz.sizeOf188, v232 := Tryz.zeroValue188, t233 := Tryz.underlying189, a233 := Tryz.isAgg189, z233 := Tryz.sizeOf189, v233 := Tryz.zeroValue189, g15 := by kernel_rfl, g16 := by kernel_rfl, g17 := by kernel_rfl, g18 := by kernel_rfl, g19 := by kernel_rfl, t80 := Tryz.underlying124, a80 := Tryz.isAgg124, z80 := Tryz.sizeOf124, v80 := Tryz.zeroValue124, i0 := by kernel_rfl, i2 := by kernel_rfl, i3 := by kernel_rfl, i4 := by kernel_rfl, i5 := by kernel_rfl, i9 := by kernel_rfl, i20 := by kernel_rfl, i21 := by kernel_rfl, i37 := by kernel_rfl, i46 := by kernel_rfl, i51 := by kernel_rfl, i53 := by kernel_rfl, i75 := by kernel_rfl, i80 := by kernel_rfl, i85 := by kernel_rfl, i127 := by kernel_rfl, i143 := by kernel_rfl, i145 := by kernel_rfl, i167 := by kernel_rfl, i168 := by kernel_rfl, i171 := by kernel_rfl, i173 := by kernel_rfl, i175 := by kernel_rfl, i210 := by kernel_rfl, i212 := by kernel_rfl, i232 := by kernel_rfl, i233 := by kernel_rfl, m15 := by kernel_rfl, m16 := by kernel_rfl, m17 := by kernel_rfl, m18 := by kernel_rfl, m19 := by kernel_rfl, c0 := by kernel_rfl, c2 := by kernel_rfl, c3 := by kernel_rfl, c4 := by kernel_rfl, c5 := by kernel_rfl, c9 := by kernel_rfl, c20 := by kernel_rfl, c21 := by kernel_rfl, c37 := by kernel_rfl, c46 := by kernel_rfl, c51 := by kernel_rfl, c53 := by kernel_rfl, c75 := by kernel_rfl, c80 := by kernel_rfl, c85 := by kernel_rfl, c127 := by kernel_rfl, c143 := by kernel_rfl, c145 := by kernel_rfl, c167 := by kernel_rfl, c168 := by kernel_rfl, c171 := by kernel_rfl, c173 := by kernel_rfl, c175 := by kernel_rfl, c210 := by kernel_rfl, c212 := by kernel_rfl, c213 := by kernel_rfl, c232 := by kernel_rfl, c233 := by kernel_rfl }
theorem lays173 : LaysM.n173 Tryz.prog lays173_ren := { mixed := by kernel_rfl, f129 := Tryz.func122.trans (congrArg some (by kernel_rfl)), f173 := Tryz.func93.trans (congrArg some (by kernel_rfl)), f246 := Tryz.func109.trans (congrArg some (by kernel_rfl)), f283 := Tryz.func116.trans (congrArg some (by kernel_rfl)), f284 := Tryz.func117.trans (congrArg some (by kernel_rfl)), f285 := Tryz.func118.trans (congrArg some (by kernel_rfl)), f286 := Tryz.func119.trans (congrArg some (by kernel_rfl)), f317 := Tryz.func121.trans (congrArg some (by kernel_rfl)), f318 := Tryz.func123.trans (congrArg some (by kernel_rfl)), f319 := Tryz.func124.trans (congrArg some (by kernel_rfl)), f320 := Tryz.func125.trans (congrArg some (by kernel_rfl)), f337 := Tryz.func126.trans (congrArg some (by kernel_rfl)), f338 := Tryz.func127.trans (congrArg some (by kernel_rfl)), t0 := Tryz.underlying0, a0 := Tryz.isAgg0, z0 := Tryz.sizeOf0, v0 := Tryz.zeroValue0, t2 := Tryz.underlying2, a2 := Tryz.isAgg2, z2 := Tryz.sizeOf2, v2 := Tryz.zeroValue2, t3 := Tryz.underlying3, a3 := Tryz.isAgg3, z3 := Tryz.sizeOf3, v3 := Tryz.zeroValue3, t4 := Tryz.underlying4, a4 := Tryz.isAgg4, z4 := Tryz.sizeOf4, v4 := Tryz.zeroValue4, t5 := Tryz.underlying5, a5 := Tryz.isAgg5, z5 := Tryz.sizeOf5, v5 := Tryz.zeroValue5, t9 := Tryz.underlying9, a9 := Tryz.isAgg9, z9 := Tryz.sizeOf9, v9 := Tryz.zeroValue9, t20 := Tryz.underlying20, a20 := Tryz.isAgg20, z20 := Tryz.sizeOf20, v20 := Tryz.zeroValue20, t37 := Tryz.underlying110, a37 := Tryz.isAgg110, z37 := Tryz.sizeOf110, v37 := Tryz.zeroValue110, t46 := Tryz.underlying131, a46 := Tryz.isAgg131, z46 := Tryz.sizeOf131, v46 := Tryz.zeroValue131, t51 := Tryz.underlying128, a51 := Tryz.isAgg128, z51 := Tryz.sizeOf128, v51 := Tryz.zeroValue128, t53 := Tryz.underlying106, a53 := Tryz.isAgg106, z53 := Tryz.sizeOf106, v53 := Tryz.zeroValue106, t171 := Tryz.underlying174, a171 := Tryz.isAgg174, z171 := Tryz.sizeOf174, v171 := Tryz.zeroValue174, t173 := Tryz.underlying177, a173 := Tryz.isAgg177, z173 := Tryz.sizeOf177, v173 := Tryz.zeroValue177, t212 := Tryz.underlying183, a212 := Tryz.isAgg183, z212 := Tryz.sizeOf183, v212 := Tryz.zeroValue183, t213 := Tryz.underlying184, a213 := Tryz.isAgg184, z213 := Tryz.sizeOf184, t232 := Tryz.underlying188, a232 := Tryz.isAgg188, z232 := Tryz.sizeOf188, v232 := Tryz.zeroValue188, t233 := Tryz.underlying189, a233 := Tryz.isAgg189, z233 := Tryz.sizeOf189, v233 := Tryz.zeroValue189, g17 := by kernel_rfl, g18 := by kernel_rfl, g19 := by kernel_rfl, i0 := by kernel_rfl, i2 := by kernel_rfl, i3 := by kernel_rfl, i4 := by kernel_rfl, i5 := by kernel_rfl, i9 := by kernel_rfl, i20 := by kernel_rfl, i37 := by kernel_rfl, i46 := by kernel_rfl, i51 := by kernel_rfl, i53 := by kernel_rfl, i171 := by kernel_rfl, i173 := by kernel_rfl, i212 := by kernel_rfl, i232 := by kernel_rfl, i233 := by kernel_rfl, m17 := by kernel_rfl, m18 := by kernel_rfl, m19 := by kernel_rfl }
def gIn : List AV → Option (Bool × AV)
  | [.lit (.string s), .lit (.string t)] => some (decide (t.size = 1), .int (Lib.indexByte (bl s) ((bl t).headD 0)))
  | _ => none
theorem one_byte {t : ByteArray} (h : t.size = 1) : t = ⟨#[(bl t).headD 0]⟩ := by
  obtain ⟨⟨l⟩⟩ := t
  have h : l.length = 1 := h
  match l, h with
  | [c], _ => rfl
theorem pIn (κ : Kp) : PureSim (BSi κ).E.P 51 gIn := by
  refine pure_kit ⟨_, Tryz.func51, rfl⟩ fun args x hh => ?_
  unfold gIn at hh
  split at hh
  · rename_i s t
    simp only [Option.some.injEq, Prod.mk.injEq, decide_eq_true_eq] at hh
    obtain ⟨h1, rfl⟩ := hh
    refine ⟨[.string s, .string t], _, rfl, rfl, rfl, fun C _ _ => ?_⟩
    have ht := one_byte h1
    generalize (bl t).headD 0 = c at ht
    subst ht
    refine (Any.strings_Index_one lays143 s c C.w).mono ?_
    rintro e w' ⟨rfl, rfl⟩
    exact ⟨rfl, Grows.refl _⟩
  · cases hh
def gTl : List AV → Option (Bool × AV)
  | [.lit (.string s), .lit (.string t)] => some (decide (t.size ≤ 100) && (bl t).all fun b => decide (b.toNat < 128), .lit (.string ⟨(Lib.trimLeftS (bl s) (bl t)).toArray⟩))
  | _ => none
theorem pTl (κ : Kp) : PureSim (BSi κ).E.P 29 gTl := by
  refine pure_kit ⟨_, Tryz.func29, rfl⟩ fun args x hh => ?_
  unfold gTl at hh
  split at hh
  · rename_i s t
    simp only [Option.some.injEq, Prod.mk.injEq, Bool.and_eq_true, decide_eq_true_eq, List.all_eq_true] at hh
    obtain ⟨⟨h1, h2⟩, rfl⟩ := hh
    refine ⟨[.string s, .string t], _, rfl, rfl, rfl, fun C _ _ => ?_⟩
    refine (Any.strings_TrimLeft_laid lays161 (by kernel_rfl) s t C.w (by omega) fun j b hb => h2 b (List.mem_of_getElem? hb)).mono ?_
    rintro e w' ⟨rfl, hw⟩
    exact ⟨rfl, .of_below hw⟩
  · cases hh
theorem tab_pow {C : Ctx} {κ : Kp} (hC : C.P = Pr κ) (hI : Inv C) : Lib.TabIs Tryz.prog C.w "internal/strconv.uint64pow10" .u64 Lib.pow10Tab := by
  have := (hI.kept 9 (.cells powV κ.T3 κ.z3) (by rw [hC]; rfl)).2
  unfold Lib.TabIs World.var?
  rw [show Tryz.prog.globalNamed "internal/strconv.uint64pow10" = some 9 by kernel_rfl]
  simp only [Option.bind_some, this]
  rfl
def gFi : List AV → Option (Bool × AV)
  | [.lit (.int .i64 n), .lit (.int .i64 b)] => some (decide (b = 10) && (decide (-9223372036854775808 ≤ n) && decide (n ≤ 9223372036854775807)), .lit (.string ⟨(Lib.itoa n).toArray⟩))
  | _ => none
theorem pFi (κ : Kp) : PureSim (BSi κ).E.P 93 gFi := by
  refine pure_kit ⟨_, Tryz.func93, rfl⟩ fun args x hh => ?_
  unfold gFi at hh
  split at hh
  · rename_i n b
    simp only [Option.some.injEq, Prod.mk.injEq, Bool.and_eq_true, decide_eq_true_eq] at hh
    obtain ⟨⟨rfl, h1, h2⟩, rfl⟩ := hh
    refine ⟨[.int .i64 n, .int .i64 10], _, rfl, rfl, rfl, fun C hC hI => ?_⟩
    refine (Any.strconv_FormatInt_10 lays173 n h1 h2 C.w (tab_pow hC hI)).mono ?_
    rintro e w' ⟨rfl, k, os, rfl⟩
    exact ⟨rfl, Grows.trans (⟨Nat.le_refl _, rfl, rfl, rfl, fun _ _ => rfl⟩ : Grows C.w (C.w.drewN k)) (grows_grow _ os)⟩
  · cases hh
noncomputable def BG1 (κ : Kp) : EB := (((BSi κ).puresim (pIn κ)).puresim (pTl κ)).puresim (pFi κ)
def isOkE : Lib.NumEnd Int → Bool
  | .ok _ => true
  | _ => false
def piV (s : ByteArray) : Int := match Lib.parseIntB 64 (bl s) with | .ok v => v | .range => Lib.intSat 64 (bl s) | _ => 0
def piO (s : ByteArray) : Bool := isOkE (Lib.parseIntB 64 (bl s))
def stPi (s : ByteArray) : List AV × List Dn.Obj := ([.lit (.string s), .int 10, .int 64], [])
def sidePi (s : ByteArray) : Prop := s.size ≤ 1000000000
def outPi (s : ByteArray) : Out (AV × List Dn.Obj) := .brn (piO s) (.one (.tup [.int (piV s), .lit .nilIface], [])) (.all (fun _ : Nat => True) fun N => .one (.tup [.int (piV s), .lit (.iface 160 (.pointer (some ⟨N, 0, none⟩)))], []))
theorem cell_kept {C : Ctx} {κ : Kp} (hC : C.P = Pr κ) (hI : Inv C) {g : Nat} {v : Value} {T : TypeId} {z : Nat × Nat} (h : keptO κ g = some (.cells #[v] T z)) : C.w.cell? ⟨g, 0, none⟩ = some v := by
  have := (hI.kept g _ (by rw [hC]; exact h)).2
  simp only [World.cell?, this]
  rfl
theorem simPi (κ : Kp) : ∀ args st K, callE stPi sidePi outPi args st K → SimCall (BG1 κ).E.P 76 args st K := by
  rintro args st K ⟨s, ha, hs, hK⟩
  simp only [stPi, Prod.mk.injEq] at ha
  obtain ⟨rfl, rfl⟩ := ha
  have hs : s.size ≤ 1000000000 := hs
  refine sim_kit (us := [.string s, .int .i64 10, .int .i64 64]) ⟨_, Tryz.func76, rfl⟩ fun C hC hI => ?_
  have hC : C.P = Pr κ := hC
  simp only [outPi, Out.run, brn_iff, piO, piV] at hK
  cases e : Lib.parseIntB 64 (bl s) with
  | ok v =>
    rw [e] at hK
    refine (Any.strconv_ParseInt_10_at64_ok lays174 s (by omega) v e C.w).mono ?_
    rintro e' w' ⟨rfl, hw⟩
    refine ⟨_, .tup [.int v, .lit .nilIface], rfl, ?_, fun C' => rel_tup_lits (us := [.int .i64 v, .nilIface]) (fun u hu => ?_), hK.1 rfl⟩
    · rcases hw with rfl | ⟨t, rfl⟩
      · exact Grows.refl _
      · exact .of_below (Lib.bytesWorld_below _ _ _)
    · rcases List.mem_cons.1 hu with rfl | hu
      · rfl
      · obtain rfl := List.mem_singleton.1 hu; rfl
  | range =>
    rw [e] at hK
    obtain ⟨te, pe, hse⟩ := κ.hrng
    refine (Any.strconv_ParseInt_10_at64_range lays174 s (by omega) e κ.rng C.w (cell_kept hC hI rfl) (.inr ⟨te, pe, hse⟩)).mono ?_
    rintro e' w' ⟨N, rfl, _, _, hw⟩
    refine ⟨_, .tup [.int (Lib.intSat 64 (bl s)), .lit (.iface 160 (.pointer (some ⟨N, 0, none⟩)))], rfl, .of_below hw, fun C' => rel_tup_lits (us := [.int .i64 (Lib.intSat 64 (bl s)), .iface 160 (.pointer (some ⟨N, 0, none⟩))]) (fun u hu => ?_), hK.2 rfl N trivial⟩
    rcases List.mem_cons.1 hu with rfl | hu
    · rfl
    · obtain rfl := List.mem_singleton.1 hu; rfl
  | _ =>
    rw [e] at hK
    obtain ⟨te, pe, hse⟩ := κ.hsyn
    refine (Any.strconv_ParseInt_10_at64_syntax lays174 s (by omega) e κ.syn C.w (cell_kept hC hI rfl) (.inr ⟨te, pe, hse⟩)).mono ?_
    rintro e' w' ⟨N, rfl, _, _, hw⟩
    refine ⟨_, .tup [.int 0, .lit (.iface 160 (.pointer (some ⟨N, 0, none⟩)))], rfl, .of_below hw, fun C' => rel_tup_lits (us := [.int .i64 0, .iface 160 (.pointer (some ⟨N, 0, none⟩))]) (fun u hu => ?_), hK.2 rfl N trivial⟩
    rcases List.mem_cons.1 hu with rfl | hu
    · rfl
    · obtain rfl := List.mem_singleton.1 hu; rfl
noncomputable def BPi (κ : Kp) : EB := (BG1 κ).sim callE_mono (simPi κ)
theorem yPn (κ : Kp) (s : ByteArray) (K : AV → List Dn.Obj → Prop) : (funA (BPi κ).E 12 60 [.lit (.string s)] [] K) = (
  ∃ (a : ByteArray), ([AV.str s, AV.int 10, AV.int 64], []) = stPi a ∧ sidePi a ∧ brn (piO a) (cnd (true && (decide ((-9223372036854775808 : Int) ≤ piV a) &&
  decide (piV a ≤ (9223372036854775807 : Int)))) (brn (!ByteArray.toList { data := List.toArray (Lib.itoa (piV a)) } == ByteArray.toList s) (K (AV.tup [AV.int 0,
  AV.int 10]) []) (K (AV.tup [AV.int (piV a), AV.int 0]) []))) (∀ (y : Nat), True → K (AV.tup [AV.int 0, AV.int 10]) [])) := by kernel_rfl
theorem piV_rng {s : ByteArray} (h : piO s = true) : -9223372036854775808 ≤ piV s ∧ piV s ≤ 9223372036854775807 := by
  unfold piO isOkE at h
  unfold piV
  split at h
  · rename_i v e
    rw [e]
    simp only
    unfold Lib.parseIntB at e
    split at e
    · cases e
    · rename_i c r hl
      simp only at e
      split at e
      · cases e
      · cases e
      · rename_i u hu
        split at e
        · cases e
        · rename_i h1
          split at e
          · cases e
          · rename_i h2
            simp only [Lib.NumEnd.ok.injEq] at e
            by_cases hn : c.toNat = 45
            · rw [if_pos hn] at e
              have : ¬ (2 ^ 63 < u) := fun k => h2 ⟨hn, k⟩
              omega
            · rw [if_neg hn] at e
              have : ¬ (2 ^ 63 ≤ u) := fun k => h1 ⟨hn, k⟩
              omega
  · cases h
def numB (s : ByteArray) : Bool := piO s && ((ByteArray.mk (Lib.itoa (piV s)).toArray).toList == s.toList)
def stPn (s : ByteArray) : List AV × List Dn.Obj := ([.lit (.string s)], [])
def outPn (s : ByteArray) : Out (AV × List Dn.Obj) := .brn (numB s) (.one (.tup [.int (piV s), .int 0], [])) (.one (.tup [.int 0, .int 10], []))
theorem cPn (κ : Kp) : CallOk (BPi κ).E 12 60 (callE stPn sidePi outPn) := by
  refine callE_ok ?_
  rintro s K hs ho
  refine Eq.mpr (yPn κ s K) ⟨s, rfl, hs, ?_⟩
  simp only [outPn, Out.run, numB, brn_iff] at ho
  rw [brn_iff]
  refine ⟨fun e => ?_, fun e => ?_⟩
  · have hr := piV_rng e
    rw [e, Bool.true_and] at ho
    refine cnd_iff.2 ⟨by rw [decide_eq_true hr.1, decide_eq_true hr.2]; rfl, ?_⟩
    rw [brn_iff]
    refine ⟨fun e2 => ho.2 (by simpa using e2), fun e2 => ho.1 (by simpa using e2)⟩
  · rw [e, Bool.false_and] at ho
    exact fun _ _ => ho.2 rfl
noncomputable def BPn (κ : Kp) : EB := (BPi κ).call (cPn κ)
end Go.Proofs.YtbppdpbagmbmpaaGreatDoor
namespace Go.Proofs.YtbppdpbagmbmpaaGreatDoor
open Go Go.Dn Go.Proofs
attribute [local irreducible] funA vc
set_option maxRecDepth 20000
theorem yEs (κ : Kp) (s : ByteArray) (K : AV → List Dn.Obj → Prop) : (funA (BPn κ).E 12 95 [.lit (.string s)] [] K) = (
  brn (ByteArray.toList s == ByteArray.toList { data := #[] }) (K (AV.tup [AV.lit (Value.int IntKind.u8 (0 : Int)), AV.int 0, AV.lit (Value.iface 179
  (Value.pointer (some (Kp.form κ))))]) []) (cnd (true && decide ((0 : Int) < (↑(ByteArray.size s) : Int))) (brn ((↑(byteAt s 0) : Int) == (92 : Int)) (K (AV.tup
  [AV.lit (Value.int IntKind.u8 (↑(byteAt s 0) : Int)), AV.int 1, AV.lit Value.nilIface]) []) (brn ((↑(byteAt s 0) : Int) == (34 : Int)) (K (AV.tup [AV.lit
  (Value.int IntKind.u8 (↑(byteAt s 0) : Int)), AV.int 1, AV.lit Value.nilIface]) []) (brn ((↑(byteAt s 0) : Int) == (110 : Int)) (K (AV.tup [AV.lit (Value.int
  IntKind.u8 (10 : Int)), AV.int 1, AV.lit Value.nilIface]) []) (brn ((↑(byteAt s 0) : Int) == (120 : Int)) (brn (decide ((↑(ByteArray.size s) : Int) < (3 :
  Int))) (K (AV.tup [AV.lit (Value.int IntKind.u8 (0 : Int)), AV.int 0, AV.lit (Value.iface 179 (Value.pointer (some (Kp.form κ))))]) []) (cnd (true && decide
  ((1 : Int) < (↑(ByteArray.size s) : Int))) (cnd (true && decide ((2 : Int) < (↑(ByteArray.size s) : Int))) (brn (decide (Lib.indexByte (bl
  { data := #[OfNat.ofNat 48, OfNat.ofNat 49, OfNat.ofNat 50, OfNat.ofNat 51, OfNat.ofNat 52, OfNat.ofNat 53, OfNat.ofNat 54, OfNat.ofNat 55, OfNat.ofNat 56, OfNat.ofNat 57, OfNat.ofNat 97, OfNat.ofNat 98, OfNat.ofNat 99, OfNat.ofNat 100, OfNat.ofNat 101, OfNat.ofNat 102] })
  (Nat.toUInt8 (Int.toNat (↑(byteAt s 1) : Int))) < (0 : Int))) (K (AV.tup [AV.lit (Value.int IntKind.u8 (0 : Int)), AV.int 0, AV.lit (Value.iface 179
  (Value.pointer (some (Kp.form κ))))]) []) (brn (decide (Lib.indexByte (bl
  { data := #[OfNat.ofNat 48, OfNat.ofNat 49, OfNat.ofNat 50, OfNat.ofNat 51, OfNat.ofNat 52, OfNat.ofNat 53, OfNat.ofNat 54, OfNat.ofNat 55, OfNat.ofNat 56, OfNat.ofNat 57, OfNat.ofNat 97, OfNat.ofNat 98, OfNat.ofNat 99, OfNat.ofNat 100, OfNat.ofNat 101, OfNat.ofNat 102] })
  (Nat.toUInt8 (Int.toNat (↑(byteAt s 2) : Int))) < (0 : Int))) (K (AV.tup [AV.lit (Value.int IntKind.u8 (0 : Int)), AV.int 0, AV.lit (Value.iface 179
  (Value.pointer (some (Kp.form κ))))]) []) (brn (isPl (IntKind.wrap IntKind.u8 (IntKind.wrap IntKind.i64 (↑(BitVec.toNat (BitVec.ofInt 64 (IntKind.wrap
  IntKind.i64 (Lib.indexByte (bl
  { data := #[OfNat.ofNat 48, OfNat.ofNat 49, OfNat.ofNat 50, OfNat.ofNat 51, OfNat.ofNat 52, OfNat.ofNat 53, OfNat.ofNat 54, OfNat.ofNat 55, OfNat.ofNat 56, OfNat.ofNat 57, OfNat.ofNat 97, OfNat.ofNat 98, OfNat.ofNat 99, OfNat.ofNat 100, OfNat.ofNat 101, OfNat.ofNat 102] })
  (Nat.toUInt8 (Int.toNat (↑(byteAt s 1) : Int))) * (16 : Int))) ||| BitVec.ofInt 64 (Lib.indexByte (bl
  { data := #[OfNat.ofNat 48, OfNat.ofNat 49, OfNat.ofNat 50, OfNat.ofNat 51, OfNat.ofNat 52, OfNat.ofNat 53, OfNat.ofNat 54, OfNat.ofNat 55, OfNat.ofNat 56, OfNat.ofNat 57, OfNat.ofNat 97, OfNat.ofNat 98, OfNat.ofNat 99, OfNat.ofNat 100, OfNat.ofNat 101, OfNat.ofNat 102] })
  (Nat.toUInt8 (Int.toNat (↑(byteAt s 2) : Int)))))) : Int)))) (K (AV.tup [AV.lit (Value.int IntKind.u8 (0 : Int)), AV.int 0, AV.lit (Value.iface 179
  (Value.pointer (some (Kp.form κ))))]) []) (brn (IntKind.wrap IntKind.u8 (IntKind.wrap IntKind.i64 (↑(BitVec.toNat (BitVec.ofInt 64 (IntKind.wrap IntKind.i64
  (Lib.indexByte (bl
  { data := #[OfNat.ofNat 48, OfNat.ofNat 49, OfNat.ofNat 50, OfNat.ofNat 51, OfNat.ofNat 52, OfNat.ofNat 53, OfNat.ofNat 54, OfNat.ofNat 55, OfNat.ofNat 56, OfNat.ofNat 57, OfNat.ofNat 97, OfNat.ofNat 98, OfNat.ofNat 99, OfNat.ofNat 100, OfNat.ofNat 101, OfNat.ofNat 102] })
  (Nat.toUInt8 (Int.toNat (↑(byteAt s 1) : Int))) * (16 : Int))) ||| BitVec.ofInt 64 (Lib.indexByte (bl
  { data := #[OfNat.ofNat 48, OfNat.ofNat 49, OfNat.ofNat 50, OfNat.ofNat 51, OfNat.ofNat 52, OfNat.ofNat 53, OfNat.ofNat 54, OfNat.ofNat 55, OfNat.ofNat 56, OfNat.ofNat 57, OfNat.ofNat 97, OfNat.ofNat 98, OfNat.ofNat 99, OfNat.ofNat 100, OfNat.ofNat 101, OfNat.ofNat 102] })
  (Nat.toUInt8 (Int.toNat (↑(byteAt s 2) : Int)))))) : Int)) == (10 : Int)) (K (AV.tup [AV.lit (Value.int IntKind.u8 (0 : Int)), AV.int 0, AV.lit (Value.iface
  179 (Value.pointer (some (Kp.form κ))))]) []) (brn (IntKind.wrap IntKind.u8 (IntKind.wrap IntKind.i64 (↑(BitVec.toNat (BitVec.ofInt 64 (IntKind.wrap
  IntKind.i64 (Lib.indexByte (bl
  { data := #[OfNat.ofNat 48, OfNat.ofNat 49, OfNat.ofNat 50, OfNat.ofNat 51, OfNat.ofNat 52, OfNat.ofNat 53, OfNat.ofNat 54, OfNat.ofNat 55, OfNat.ofNat 56, OfNat.ofNat 57, OfNat.ofNat 97, OfNat.ofNat 98, OfNat.ofNat 99, OfNat.ofNat 100, OfNat.ofNat 101, OfNat.ofNat 102] })
  (Nat.toUInt8 (Int.toNat (↑(byteAt s 1) : Int))) * (16 : Int))) ||| BitVec.ofInt 64 (Lib.indexByte (bl
  { data := #[OfNat.ofNat 48, OfNat.ofNat 49, OfNat.ofNat 50, OfNat.ofNat 51, OfNat.ofNat 52, OfNat.ofNat 53, OfNat.ofNat 54, OfNat.ofNat 55, OfNat.ofNat 56, OfNat.ofNat 57, OfNat.ofNat 97, OfNat.ofNat 98, OfNat.ofNat 99, OfNat.ofNat 100, OfNat.ofNat 101, OfNat.ofNat 102] })
  (Nat.toUInt8 (Int.toNat (↑(byteAt s 2) : Int)))))) : Int)) == (34 : Int)) (K (AV.tup [AV.lit (Value.int IntKind.u8 (0 : Int)), AV.int 0, AV.lit (Value.iface
  179 (Value.pointer (some (Kp.form κ))))]) []) (brn (IntKind.wrap IntKind.u8 (IntKind.wrap IntKind.i64 (↑(BitVec.toNat (BitVec.ofInt 64 (IntKind.wrap
  IntKind.i64 (Lib.indexByte (bl
  { data := #[OfNat.ofNat 48, OfNat.ofNat 49, OfNat.ofNat 50, OfNat.ofNat 51, OfNat.ofNat 52, OfNat.ofNat 53, OfNat.ofNat 54, OfNat.ofNat 55, OfNat.ofNat 56, OfNat.ofNat 57, OfNat.ofNat 97, OfNat.ofNat 98, OfNat.ofNat 99, OfNat.ofNat 100, OfNat.ofNat 101, OfNat.ofNat 102] })
  (Nat.toUInt8 (Int.toNat (↑(byteAt s 1) : Int))) * (16 : Int))) ||| BitVec.ofInt 64 (Lib.indexByte (bl
  { data := #[OfNat.ofNat 48, OfNat.ofNat 49, OfNat.ofNat 50, OfNat.ofNat 51, OfNat.ofNat 52, OfNat.ofNat 53, OfNat.ofNat 54, OfNat.ofNat 55, OfNat.ofNat 56, OfNat.ofNat 57, OfNat.ofNat 97, OfNat.ofNat 98, OfNat.ofNat 99, OfNat.ofNat 100, OfNat.ofNat 101, OfNat.ofNat 102] })
  (Nat.toUInt8 (Int.toNat (↑(byteAt s 2) : Int)))))) : Int)) == (92 : Int)) (K (AV.tup [AV.lit (Value.int IntKind.u8 (0 : Int)), AV.int 0, AV.lit (Value.iface
  179 (Value.pointer (some (Kp.form κ))))]) []) (K (AV.tup [AV.lit (Value.int IntKind.u8 (IntKind.wrap IntKind.u8 (IntKind.wrap IntKind.i64 (↑(BitVec.toNat
  (BitVec.ofInt 64 (IntKind.wrap IntKind.i64 (Lib.indexByte (bl
  { data := #[OfNat.ofNat 48, OfNat.ofNat 49, OfNat.ofNat 50, OfNat.ofNat 51, OfNat.ofNat 52, OfNat.ofNat 53, OfNat.ofNat 54, OfNat.ofNat 55, OfNat.ofNat 56, OfNat.ofNat 57, OfNat.ofNat 97, OfNat.ofNat 98, OfNat.ofNat 99, OfNat.ofNat 100, OfNat.ofNat 101, OfNat.ofNat 102] })
  (Nat.toUInt8 (Int.toNat (↑(byteAt s 1) : Int))) * (16 : Int))) ||| BitVec.ofInt 64 (Lib.indexByte (bl
  { data := #[OfNat.ofNat 48, OfNat.ofNat 49, OfNat.ofNat 50, OfNat.ofNat 51, OfNat.ofNat 52, OfNat.ofNat 53, OfNat.ofNat 54, OfNat.ofNat 55, OfNat.ofNat 56, OfNat.ofNat 57, OfNat.ofNat 97, OfNat.ofNat 98, OfNat.ofNat 99, OfNat.ofNat 100, OfNat.ofNat 101, OfNat.ofNat 102] })
  (Nat.toUInt8 (Int.toNat (↑(byteAt s 2) : Int)))))) : Int)))), AV.int 3, AV.lit Value.nilIface]) [])))))))))) (K (AV.tup [AV.lit (Value.int IntKind.u8 (0 :
  Int)), AV.int 0, AV.lit (Value.iface 179 (Value.pointer (some (Kp.form κ))))]) []))))))) := by kernel_rfl
def hexB : ByteArray := ⟨#[48, 49, 50, 51, 52, 53, 54, 55, 56, 57, 97, 98, 99, 100, 101, 102]⟩
def hxI (c : Nat) : Int := Lib.indexByte (bl hexB) c.toUInt8
def hxV (x y : Int) : Int := IntKind.wrap .u8 (IntKind.wrap .i64 ((BitVec.ofInt 64 (IntKind.wrap .i64 (x * 16)) ||| BitVec.ofInt 64 y).toNat : Int))
def esX (s : ByteArray) : Int := hxV (hxI (byteAt s 1)) (hxI (byteAt s 2))
def esO (s : ByteArray) : Bool :=
  bif s.toList == (ByteArray.mk #[]).toList then false else bif ((byteAt s 0 : Nat) : Int) == 92 then true else bif ((byteAt s 0 : Nat) : Int) == 34 then true else bif ((byteAt s 0 : Nat) : Int) == 110 then true
  else bif ((byteAt s 0 : Nat) : Int) == 120 then (bif decide ((s.size : Int) < 3) then false else bif decide (hxI (byteAt s 1) < 0) then false else bif decide (hxI (byteAt s 2) < 0) then false
    else bif isPl (esX s) then false else bif esX s == 10 then false else bif esX s == 34 then false else !(esX s == 92)) else false
def esC (s : ByteArray) : Int := bif ((byteAt s 0 : Nat) : Int) == 92 then (byteAt s 0 : Nat) else bif ((byteAt s 0 : Nat) : Int) == 34 then (byteAt s 0 : Nat) else bif ((byteAt s 0 : Nat) : Int) == 110 then 10 else esX s
def esN (s : ByteArray) : Int := bif ((byteAt s 0 : Nat) : Int) == 92 then 1 else bif ((byteAt s 0 : Nat) : Int) == 34 then 1 else bif ((byteAt s 0 : Nat) : Int) == 110 then 1 else 3
def stEs (s : ByteArray) : List AV × List Dn.Obj := ([.lit (.string s)], [])
def sideEs (s : ByteArray) : Prop := s.size ≤ 1000000000
def outEs (κ : Kp) (s : ByteArray) : Out (AV × List Dn.Obj) := .brn (esO s) (.one (.tup [.lit (.int .u8 (esC s)), .int (esN s), .lit .nilIface], [])) (.one (.tup [.lit (.int .u8 0), .int 0, .lit (errForm κ)], []))
theorem empty_iff (s : ByteArray) : (s.toList == (ByteArray.mk #[]).toList) = decide (s.size = 0) := by
  rw [Bool.eq_iff_iff, beq_iff_eq, decide_eq_true_eq, ByteArray.toList_eq, ByteArray.toList_eq]
  show s.data.toList = [] ↔ s.data.size = 0
  rw [← Array.length_toList, List.length_eq_zero_iff]
theorem cEs (κ : Kp) : CallOk (BPn κ).E 12 95 (callE stEs sideEs (outEs κ)) := by
  refine callE_ok ?_
  rintro s K hs ho
  simp only [outEs, Out.run, brn_iff] at ho
  refine Eq.mpr (yEs κ s K) ?_
  show brn (s.toList == (ByteArray.mk #[]).toList) (K (.tup [.lit (.int .u8 0), .int 0, .lit (errForm κ)]) []) (cnd (true && decide ((0 : Int) < (s.size : Int))) (brn (((byteAt s 0 : Nat) : Int) == 92) (K (.tup [.lit (.int .u8 (byteAt s 0 : Nat)), .int 1, .lit .nilIface]) []) (brn (((byteAt s 0 : Nat) : Int) == 34) (K (.tup [.lit (.int .u8 (byteAt s 0 : Nat)), .int 1, .lit .nilIface]) []) (brn (((byteAt s 0 : Nat) : Int) == 110) (K (.tup [.lit (.int .u8 10), .int 1, .lit .nilIface]) []) (brn (((byteAt s 0 : Nat) : Int) == 120) (brn (decide ((s.size : Int) < 3)) (K (.tup [.lit (.int .u8 0), .int 0, .lit (errForm κ)]) []) (cnd (true && decide ((1 : Int) < (s.size : Int))) (cnd (true && decide ((2 : Int) < (s.size : Int))) (brn (decide (hxI (byteAt s 1) < 0)) (K (.tup [.lit (.int .u8 0), .int 0, .lit (errForm κ)]) []) (brn (decide (hxI (byteAt s 2) < 0)) (K (.tup [.lit (.int .u8 0), .int 0, .lit (errForm κ)]) []) (brn (isPl (esX s)) (K (.tup [.lit (.int .u8 0), .int 0, .lit (errForm κ)]) []) (brn (esX s == 10) (K (.tup [.lit (.int .u8 0), .int 0, .lit (errForm κ)]) []) (brn (esX s == 34) (K (.tup [.lit (.int .u8 0), .int 0, .lit (errForm κ)]) []) (brn (esX s == 92) (K (.tup [.lit (.int .u8 0), .int 0, .lit (errForm κ)]) []) (K (.tup [.lit (.int .u8 (esX s)), .int 3, .lit .nilIface]) [])))))))))) (K (.tup [.lit (.int .u8 0), .int 0, .lit (errForm κ)]) []))))))
  have h0 := empty_iff s
  unfold esO esC esN at ho
  generalize hx : esX s = X at ho ⊢
  generalize h1 : (s.toList == (ByteArray.mk #[]).toList) = b1 at ho h0 ⊢
  cases b1 with
  | true => exact ho.2 rfl
  | false =>
  have hs0 : s.size ≠ 0 := fun e => by rw [decide_eq_true e] at h0; cases h0
  refine cnd_iff.2 ⟨by simp; omega, ?_⟩
  generalize (((byteAt s 0 : Nat) : Int) == 92) = b2 at ho ⊢
  cases b2 with
  | true => exact ho.1 rfl
  | false =>
  generalize (((byteAt s 0 : Nat) : Int) == 34) = b3 at ho ⊢
  cases b3 with
  | true => exact ho.1 rfl
  | false =>
  generalize (((byteAt s 0 : Nat) : Int) == 110) = b4 at ho ⊢
  cases b4 with
  | true => exact ho.1 rfl
  | false =>
  generalize (((byteAt s 0 : Nat) : Int) == 120) = b5 at ho ⊢
  cases b5 with
  | false => exact ho.2 rfl
  | true =>
  cases h6 : decide ((s.size : Int) < 3) with
  | true => rw [h6] at ho; exact ho.2 rfl
  | false =>
  rw [h6] at ho
  rw [decide_eq_false_iff_not] at h6
  refine cnd_iff.2 ⟨by simp; omega, cnd_iff.2 ⟨by simp; omega, ?_⟩⟩
  generalize decide (hxI (byteAt s 1) < 0) = b7 at ho ⊢
  cases b7 with
  | true => exact ho.2 rfl
  | false =>
  generalize decide (hxI (byteAt s 2) < 0) = b8 at ho ⊢
  cases b8 with
  | true => exact ho.2 rfl
  | false =>
  generalize isPl X = b9 at ho ⊢
  cases b9 with
  | true => exact ho.2 rfl
  | false =>
  generalize (X == 10) = b10 at ho ⊢
  cases b10 with
  | true => exact ho.2 rfl
  | false =>
  generalize (X == 34) = b11 at ho ⊢
  cases b11 with
  | true => exact ho.2 rfl
  | false =>
  generalize (X == 92) = b12 at ho ⊢
  cases b12 with
  | true => exact ho.2 rfl
  | false => exact ho.1 rfl
noncomputable def BEs (κ : Kp) : EB := (BPn κ).call (cEs κ)
abbrev stBy0 (s : ByteArray) (xs : List AV) : S := sp 38 [(0, .yld 0), (1, .ptr 1 0 [] 0)] [.ext (some xs), .box 9 (.lit (.string s))]
end Go.Proofs.YtbppdpbagmbmpaaGreatDoor
