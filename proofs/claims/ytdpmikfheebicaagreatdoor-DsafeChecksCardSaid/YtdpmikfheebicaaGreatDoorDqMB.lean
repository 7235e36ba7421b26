import Derived.Test.YtdpmikfheebicaaGreatDoorDqMA
import Derived.Test.YtdpmikfheebicaaGreatDoorDqM2
import Derived.Test.YtdpmikfheebicaaGreatDoorDoG
import Derived.Test.YtdpmikfheebicaaGreatDoorRows
import Derived.ProofKit
import Derived.Deep.DeepHandedRow
import Derived.Stop.LaidTwo
import Derived.LaidHandle
namespace Go.Rl
open Go Go.Dn
section
variable {V : List ByteArray} (ds : List Dc) {r : Rl} (hV : ∀ s, s ∈ cQ r → s ∈ V)
include hV
theorem nF {τ : List Int} (hl : τ.length = V.length) (hm : (bV (bk V) (eh V) ds r τ).1 = true) : gD qb V (bk V (bV (bk V) (eh V) ds r τ).2) < gD qb V (bk V τ) := by
 have al := Alike.bV j3 (fun st s k t h1 h2 h3 => lr V st s k t h1 h2 h3) mZ ds r (Pn hl) hV
 have e : gD qb V (bk V (bV (bk V) (eh V) ds r τ).2) = gD qb V (bV qb MG ds r (bk V τ)).2 := by
  unfold gD
  rw [List.filter_congr fun s hs => by
   rw [show qb (bk V (bV (bk V) (eh V) ds r τ).2) s = qb (bV qb MG ds r (bk V τ)).2 s from (al.2.2 s hs).symm]]
 rw [e]
 exact n8 (kg j3 ds r _) V ((pn j3 ds r _ (al.1.trans hm)).left (Ext.refl _ _) hV)
theorem l3 : ∀ (n m : Nat) (τ : List Int), τ.length = V.length → gD qb V (bk V τ) < n → gD qb V (bk V τ) < m → ck (bk V) (eh V) ds r n τ = ck (bk V) (eh V) ds r m τ
 | 0, _, _, _, h, _ => by omega
 | _ + 1, 0, _, _, _, h => by omega
 | n + 1, m + 1, τ, hl, h1, h2 => by
  rw [ck, ck]
  cases hm : (bV (bk V) (eh V) ds r τ).1 with
  | false => rfl
  | true =>
   rw [aa7, aa7]
   have := nF ds hV hl hm
   exact l3 n m _ (px ds r hl hV) (by omega) (by omega)
theorem nQ : ∀ (n : Nat) (τ : List Int), τ.length = V.length → (ck (bk V) (eh V) ds r n τ).length = V.length
 | 0, _, h => h
 | n + 1, τ, h => by
  rw [ck]
  have h1 := px ds r h hV
  cases (bV (bk V) (eh V) ds r τ).1
  ·exact h1
  ·exact nQ n _ h1
end
end Go.Rl
namespace Go.Proofs.YtdpmikfheebicaaGreatDoor
open Go Go.Dn Go.Rl Go.Proofs
attribute [local irreducible] a9 vc
set_option maxRecDepth 20000
structure NY where
 ds : List AV
 r : b5
 e : Int
 i : Int
abbrev J3 (a : NY) : S := sp 116 [(0, .ae 62 a.ds), (3, .ptr 0 0 [] 0), (7, .int a.e), (8, .int a.i)] [.box 41 (aF a.r)]
theorem Z8 (κ : Kp) (a : NY) (I : Nat → S → Prop) (n : Nat) (K : Exit → S → Prop) : (vc (zl κ) 12 64 none 0 (ag (Pr κ).toProgram 64 6) (J3 a) (bC (zl κ) 64 6 0 I n K)) = (
 letI z1 := AV.agg [AV.agg [AV.str a.r.rel, AV.ae 52 a.r.hl], AV.ae 55 a.r.bl, AV.int a.r.line]
 letI z2 := decide ((0 : Int) ≤ a.i) && decide (a.i < (↑(List.length a.r.bl) : Int))
 letI z3 := K (Exit.exit 0) (sp 116 [(0, AV.ae 62 a.ds), (3, AV.ptr 0 0 [] 0), (7, AV.int a.e)] [Obj.box 41 z1])
 letI z4 := nth a.r.bl a.i.toNat
 letI z5 := IntKind.wrap IntKind.i64 (a.i + (1 : Int))
 letI z6 := decide (a.ds.length ≤ 9223372036854775807)
 ax (decide (a.i < (↑(List.length a.r.bl) : Int))) (ax (a.e == (0 : Int)) (aZ z2 (ax (decide (toInt (ad z4 0) < (3 : Int))) (aZ z2 (aZ z6 (∃ (m : Nat), m < n ∧ I m (sp 116 [(0, AV.ae 62 a.ds), (3, AV.ptr 0 0 [] 0), (7, AV.lit (Value.int IntKind.i64 (known (aQ a.ds) { rel := toStr (ad (ad z4 1) 0), l := aa (ah (ad (ad z4 1) 1)) }))), (8, AV.int z5)] [Obj.box 41 z1])))) (aZ z2 (ax (decide (toInt (ad z4 0) > (6 : Int))) (aZ z2 (aZ z6 (∃ (m : Nat), m < n ∧ I m (sp 116 [(0, AV.ae 62 a.ds), (3, AV.ptr 0 0 [] 0), (7, AV.lit (Value.int IntKind.i64 (known (aQ a.ds) {rel := toStr (ad (ad z4 1) 0), l := aa (ah (ad (ad z4 1) 1)) }))), (8, AV.int z5)] [Obj.box 41 z1])))) (∃ (m : Nat), m < n ∧ I m (sp 116 [(0, AV.ae 62 a.ds), (3, AV.ptr 0 0 [] 0), (7, AV.int a.e), (8, AV.int z5)] [Obj.box 41 z1])))))) z3) z3) := by kernel_rfl
def JO (a : NY) : Int := bif decide (a.e = 0) then dt (aQ a.ds) (bn (a.r.bl.drop a.i.toNat)) else a.e
def Cj (a : NY) : Prop := a.ds.length ≤ aI ∧ a.r.bl.length ≤ aI ∧ 0 ≤ a.i ∧ a.i ≤ a.r.bl.length
def DL (a : NY) : Out (Exit × S) := .one (.exit 0, sp 116 [(0, .ae 62 a.ds), (3, .ptr 0 0 [] 0), (7, .int (JO a))] [.box 41 (aF a.r)])
theorem ZZ (κ : Kp) : bg (zl κ) 12 64 6 (aK 0 J3 Cj DL) := by
 refine aO (fun a => a.r.bl.length - a.i.toNat) ?_
 rintro ⟨ds, r, e, i⟩ K ⟨q1, h1, h2, h3⟩ ho
 simp only at q1 h1 h2 h3
 rw [show (zl κ).P = Pr κ from rfl]
 refine Eq.mpr (Z8 κ ⟨ds, r, e, i⟩ _ _ K) ?_
 simp only [aI] at h1
 simp only [DL, Out.run] at ho
 rw [af, aa0, aa2]
 refine ⟨fun hi => ?_, fun hi => ?_⟩
 ·simp only at hi
  have hk : i.toNat < r.bl.length := by omega
  have el := rk r.bl i.toNat hk
  have hr : JO ⟨ds, r, e, i⟩ = bif decide (e = 0) then JO ⟨ds, r, bif dw (bz (nth r.bl i.toNat)) then known (aQ ds) (bz (nth r.bl i.toNat)).a else 0, i + 1⟩ else e := by
   unfold JO
   simp only [show (i + 1).toNat = i.toNat + 1 by omega]
   rw [el, dt]
   cases decide (e = 0) with
   | false => rfl
   | true =>
    rw [aa7, aa7]
    cases dw (bz (nth r.bl i.toNat)) with
    | false => rfl
    | true =>
     rw [ac0, aa7]
     cases decide (known (aQ ds) (bz (nth r.bl i.toNat)).a = 0) <;> rfl
  rw [hr] at ho
  cases e0 : decide (e = 0) with
  | false =>
   rw [e0] at ho
   have : (e == 0) = false := e0
   simp only
   rw [this]; exact ho
  | true =>
   rw [e0, aa7] at ho
   have hee : e = 0 := by simpa using e0
   subst hee
   have next : ∀ k : Int, k = (bif dw (bz (nth r.bl i.toNat)) then known (aQ ds) (bz (nth r.bl i.toNat)).a else 0) → ∃ m, m < r.bl.length - i.toNat ∧ fp J3 Cj DL (fun a => a.r.bl.length - a.i.toNat) K m (sp 116 [(0, .ae 62 ds), (3, .ptr 0 0 [] 0), (7, .int k), (8, .int (IntKind.wrap .i64 (i + 1)))] [.box 41 (aF r)]) := fun k hkk => by
    rw [aU (n := i + 1) (by omega) (by omega)]
    refine ⟨_, ?_, ⟨ds, r, k, i + 1⟩, rfl, ⟨q1, by simpa [aI] using h1, by simp only; omega, by simp only; omega⟩, rfl, ?_⟩
    ·simp only; omega
    ·rw [hkk]; exact ho
   have hh : dw (bz (nth r.bl i.toNat)) = (decide (toInt (ad (nth r.bl i.toNat) 0) < 3) || decide (6 < toInt (ad (nth r.bl i.toNat) 0))) := rfl
   have hb : (decide (0 ≤ i) && decide (i < (r.bl.length : Int))) = true := by rw [aa6 h2, aa6 hi]; rfl
   have hd : decide (ds.length ≤ 9223372036854775807) = true := aa6 q1
   simp only [hb, hd]
   refine aq.2 ⟨rfl, af.2 ⟨fun e1 => ?_, fun e1 => aq.2 ⟨rfl, af.2 ⟨fun e2 => ?_, fun e2 => ?_⟩⟩⟩⟩
   ·rw [e1, Bool.true_or] at hh
    exact aq.2 ⟨rfl, aq.2 ⟨rfl, next _ (by rw [hh]; rfl)⟩⟩
   ·rw [show decide (6 < toInt (ad (nth r.bl i.toNat) 0)) = true from e2, Bool.or_true] at hh
    exact aq.2 ⟨rfl, aq.2 ⟨rfl, next _ (by rw [hh]; rfl)⟩⟩
   ·rw [e1, show decide (6 < toInt (ad (nth r.bl i.toNat) 0)) = false from e2] at hh
    exact next _ (by rw [hh]; rfl)
 ·simp only at hi
  have hd : JO ⟨ds, r, e, i⟩ = e := by
   unfold JO
   simp only
   rw [aa8 (show r.bl.length ≤ i.toNat by omega)]
   show (bif decide (e = 0) then (0 : Int) else e) = e
   cases e0 : decide (e = 0) with
   | false => rfl
   | true => rw [aa0] at e0; exact e0.symm
  rw [hd] at ho
  exact ho
noncomputable def Le (κ : Kp) : Env := (zl κ).aj 64 6 (aK 0 J3 Cj DL)
theorem eKb (κ : Kp) : aw (Le κ) := (Sf κ).aj (Qp κ) (ZZ κ)
theorem Vg (κ : Kp) : ai (Le κ) := (Qp κ).aj aE
structure Po where
 ds : List AV
 r : b5
 x : lJ
 more : Bool
 i : Int
abbrev Ms (a : Po) : S := sp 116 [(0, .ae 62 a.ds), (3, .ptr 0 0 [] 0), (9, GB a.x), (10, .a7 1 0 (iA a.x.τ).length), (11, .bool a.more), (12, .int a.i)] [.box 41 (aF a.r), .row 3 (iA a.x.τ)]
theorem VE (κ : Kp) (ds : List AV) (r : b5) (vs bB : List AV) (more : Bool) (i : Int) (I : Nat → S → Prop) (n : Nat) (K : Exit → S → Prop) : (vc (Le κ) 12 64 none 0 (ag (Pr κ).toProgram 64 18) (sp 116 [(0, .ae 62 ds), (3, .ptr 0 0 [] 0), (9, .ae 9 vs), (10, .a7 1 0 bB.length), (11, .bool more), (12, .int i)] [.box 41 (aF r), .row 3 bB]) (bC (Le κ) 64 18 0 I n K)) = (
 letI z1 := nth r.bl i.toNat
 letI z2 := AV.agg [AV.agg [AV.str r.rel, AV.ae 52 r.hl], AV.ae 55 r.bl, AV.int r.line]
 letI z3 := IntKind.wrap IntKind.i64 (i + (1 : Int))
 ax (decide (i < (↑(r.bl.length) : Int))) (aZ (decide ((0 : Int) ≤ i) && decide (i < (↑(r.bl.length) : Int))) (∃ (a : Ai), ([AV.ae 62 ds, AV.agg [AV.int (toInt (ad z1 0)), AV.agg [AV.str (toStr (ad (ad z1 1) 0)), AV.ae 52 (ah (ad (ad z1 1) 1))], AV.agg [AV.lit (Value.int IntKind.i64 (toInt (ad (ad z1 2) 0))), AV.str (toStr (ad (ad z1 2) 1)), AV.lit (Value.int IntKind.i64 (toInt (ad (ad z1 2) 2))), AV.ae 52 (ah (ad (ad z1 2) 3))], AV.agg [AV.lit (Value.int IntKind.i64 (toInt (ad (ad z1 3) 0))), AV.str (toStr (ad (ad z1 3) 1)), AV.lit (Value.int IntKind.i64 (toInt (ad (ad z1 3) 2))), AV.ae 52 (ah (ad (ad z1 3) 3))]], AV.ae 9 vs, AV.a7 0 0 bB.length], [Obj.row 3 bB]) = ([AV.ae 62 a.ds, AV.agg [AV.int a.op, AV.agg [AV.str a.rel, AV.ae 52 a.l], AV.agg [AV.int a.u.op, AV.str a.u.s, AV.int a.u.n, AV.ae 52 a.u.l], AV.agg [AV.int a.v.op, AV.str a.v.s, AV.int a.v.n, AV.ae 52 a.v.l]], AV.ae 9 (strs a.x.V), AV.a7 0 0 (List.length (iA a.x.τ))], [Obj.row 3 (iA a.x.τ)]) ∧ (a.ds.length ≤ 9223372036854775807 ∧ (dw (Ai.lt a) = true → known (aQ a.ds) { rel := a.rel, l := aa a.l } = (0 : Int)) ∧ (List.length a.x.V ≤ 1000000 ∧ List.length a.x.τ = List.length a.x.V) ∧ dC (Ai.lt a) ≤ 100000 ∧ ∀ (s : ByteArray), List.Mem s (cx (Ai.lt a)) → List.Mem s a.x.V) ∧ ax more (∃ (m : Nat), m < n ∧ I m (sp 116 [(0, AV.ae 62 ds), (3, AV.ptr 0 0 [] 0), (9, AV.ae 9 vs), (10, AV.a7 1 0 bB.length), (11, AV.bool true), (12, AV.int z3)] [Obj.box 41 z2, Obj.row 3 (iA (lJ.τ { V := a.x.V, τ := Prod.snd (sB a) }))])) (∃ (m : Nat), m < n ∧ I m (sp 116 [(0, AV.ae 62 ds), (3, AV.ptr 0 0 [] 0), (9, AV.ae 9 vs), (10, AV.a7 1 0 bB.length), (11, AV.bool (Prod.fst (sB a))), (12, AV.int z3)] [Obj.box 41 z2, Obj.row 3 (iA (lJ.τ {V := a.x.V, τ := Prod.snd (sB a) }))])))) (K (Exit.exit 4) (sp 116 [(0, AV.ae 62 ds), (3, AV.ptr 0 0 [] 0), (9, AV.ae 9 vs), (10, AV.a7 1 0 bB.length), (11, AV.bool more)] [Obj.box 41 z2, Obj.row 3 bB]))) := by kernel_rfl
def CK (ds : List AV) (V : List ByteArray) (l : Lt) : Prop := (dw l = true → known (aQ ds) l.a = 0) ∧ dC l ≤ 100000 ∧ ∀ s, s ∈ cx l → s ∈ V
def zy (a : Po) : Bool × List Int := cK (bk a.x.V) (eh a.x.V) (aQ a.ds) (bn (a.r.bl.drop a.i.toNat)) a.x.τ
def CE (a : Po) : Prop := a.ds.length ≤ aI ∧ a.r.bl.length ≤ aI ∧ JL a.x ∧ 0 ≤ a.i ∧ a.i ≤ a.r.bl.length ∧ ∀ l, l ∈ bn (a.r.bl.drop a.i.toNat) → CK a.ds a.x.V l
def Af (a : Po) : Out (Exit × S) := .one (.exit 4, sp 116 [(0, .ae 62 a.ds), (3, .ptr 0 0 [] 0), (9, GB a.x), (10, .a7 1 0 (iA (zy a).2).length), (11, .bool (a.more || (zy a).1))] [.box 41 (aF a.r), .row 3 (iA (zy a).2)])
theorem Nb (ds : List AV) (y : AV) (x : lJ) : Ai.lt ⟨ds, toInt (ad y 0), toStr (ad (ad y 1) 0), ah (ad (ad y 1) 1), kp (ad y 2), kp (ad y 3), x⟩ = bz y := by
 unfold Ai.lt
 simp only [fm]
 rfl
theorem lLb (κ : Kp) : bg (Le κ) 12 64 18 (aK 0 Ms CE Af) := by
 refine aO (fun a => a.r.bl.length - a.i.toNat) ?_
 rintro ⟨ds, r, x, more, i⟩ K ⟨q1, h1, h0, h2, h3, h5⟩ ho
 simp only at q1 h1 h0 h2 h3 h5
 rw [show (Le κ).P = Pr κ from rfl]
 refine Eq.mpr (VE κ ds r (strs x.V) (iA x.τ) more i _ _ K) ?_
 simp only [aI] at h1
 simp only [Af, Out.run] at ho
 rw [af, aa0, aa2]
 refine ⟨fun hi => ?_, fun hi => ?_⟩
 ·have hk : i.toNat < r.bl.length := by omega
  have e := rk r.bl i.toNat hk
  rw [e] at h5
  obtain ⟨k1, k2, k3⟩ := h5 _ ab3
  have hlt := Nb ds (nth r.bl i.toNat) x
  generalize ha : (⟨ds, toInt (ad (nth r.bl i.toNat) 0), toStr (ad (ad (nth r.bl i.toNat) 1) 0), ah (ad (ad (nth r.bl i.toNat) 1) 1), kp (ad (nth r.bl i.toNat) 2), kp (ad (nth r.bl i.toNat) 3), x⟩ : Ai) = a at hlt
  have hax : a.x = x := by rw [← ha]
  have had : a.ds = ds := by rw [← ha]
  have hll : sB a = b6 (bk x.V) (eh x.V) (aQ ds) (bz (nth r.bl i.toNat)) x.τ := by
   unfold sB; rw [hlt, hax, had]
  have hlen : (sB a).2.length = x.V.length := by rw [hll]; exact z8 _ _ h0.2 k3
  have hd : zy ⟨ds, r, x, more, i⟩ = ((sB a).1 || (zy ⟨ds, r, ⟨x.V, (sB a).2⟩, more, i + 1⟩).1, (zy ⟨ds, r, ⟨x.V, (sB a).2⟩, more, i + 1⟩).2) := by
   rw [hll]
   unfold zy
   simp only [show (i + 1).toNat = i.toNat + 1 by omega]
   rw [e, cK]
  have next : ∀ b : Bool, b = (more || (sB a).1) → ∃ m, m < r.bl.length - i.toNat ∧ fp Ms CE Af (fun a => a.r.bl.length - a.i.toNat) K m (sp 116 [(0, .ae 62 ds), (3, .ptr 0 0 [] 0), (9, .ae 9 (strs x.V)), (10, .a7 1 0 (iA x.τ).length), (11, .bool b), (12, .int (IntKind.wrap .i64 (i + 1)))] [.box 41 (aF r), .row 3 (iA (sB a).2)]) := fun b hb => by
   rw [aU (n := i + 1) (by omega) (by omega)]
   refine ⟨_, ?_, ⟨ds, r, ⟨x.V, (sB a).2⟩, b, i + 1⟩, ?_, ⟨q1, by simpa [aI] using h1, ⟨h0.1, hlen⟩, by simp only; omega, by simp only; omega, ?_⟩, rfl, ?_⟩
   ·simp only; omega
   ·rw [show (iA x.τ).length = (iA (sB a).2).length by rw [ff, ff, hlen, h0.2]]
   ·simp only [show (i + 1).toNat = i.toNat + 1 by omega]
    exact fun l hl => h5 l (List.mem_cons_of_mem _ hl)
   ·rw [hd] at ho
    simp only [Af, Out.run]
    have e3 : zy ⟨ds, r, ⟨x.V, (sB a).2⟩, b, i + 1⟩ = zy ⟨ds, r, ⟨x.V, (sB a).2⟩, more, i + 1⟩ := rfl
    rw [e3, hb, Bool.or_assoc]
    exact ho
  rw [aq, aa1, aa0, aa0]
  refine ⟨⟨h2, hi⟩, a, ?_, ⟨?_, ?_, ?_, ?_, ?_⟩, ?_⟩
  ·rw [← ha]; rfl
  ·rw [had]; exact q1
  ·rw [hlt, had]
   intro hh
   have := k1 hh
   rw [← ha]; exact this
  ·rw [hax]; exact h0
  ·rw [hlt]; exact k2
  ·rw [hlt, hax]; exact k3
  ·rw [hax]
   exact af.2 ⟨fun e1 => next true (by rw [e1]; rfl), fun e1 => next _ (by rw [e1]; rfl)⟩
 ·have hd : zy ⟨ds, r, x, more, i⟩ = (false, x.τ) := by
   unfold zy
   simp only
   rw [aa8 (by omega)]; rfl
  rw [hd, Bool.or_false] at ho
  exact ho
noncomputable def Kw (κ : Kp) : Env := (Le κ).aj 64 18 (aK 0 Ms CE Af)
theorem Z5 (κ : Kp) : aw (Kw κ) := (eKb κ).aj (Vg κ) (lLb κ)
theorem Td (κ : Kp) : ai (Kw κ) := (Vg κ).aj aE
structure NU where
 ds : List AV
 r : b5
 x : lJ
 more : Bool
abbrev Oh (a : NU) : S := sp 116 [(0, .ae 62 a.ds), (3, .ptr 0 0 [] 0), (9, GB a.x), (10, .a7 1 0 (iA a.x.τ).length), (11, .bool a.more)] [.box 41 (aF a.r), .row 3 (iA a.x.τ)]
theorem xMo (κ : Kp) (ds : List AV) (r : b5) (vs bB : List AV) (more : Bool) (I : Nat → S → Prop) (n : Nat) (K : Exit → S → Prop) : (vc (Kw κ) 12 64 none 0 (ag (Pr κ).toProgram 64 15) (sp 116 [(0, .ae 62 ds), (3, .ptr 0 0 [] 0), (9, .ae 9 vs), (10, .a7 1 0 bB.length), (11, .bool more)] [.box 41 (aF r), .row 3 bB]) (bC (Kw κ) 64 15 0 I n K)) = (
 letI z1 := AV.agg [AV.agg [AV.str r.rel, AV.ae 52 r.hl], AV.ae 55 r.bl, AV.int r.line]
 letI z2 := Pg.toProgram (Env.P (Le κ))
 ax more (∃ (a : MN), ([AV.ae 62 ds, AV.agg [AV.str r.rel, AV.ae 52 r.hl], AV.ae 9 vs, AV.a7 0 0 bB.length], [Obj.row 3 bB]) = ([AV.ae 62 a.ds, AV.agg [AV.str a.rel, AV.ae 52 a.l], AV.ae 9 (strs a.x.V), AV.a7 0 0 (List.length (iA a.x.τ))], [Obj.row 3 (iA a.x.τ)]) ∧ (a.ds.length ≤ 9223372036854775807 ∧ known (aQ a.ds) { rel := a.rel, l := aa a.l } = (0 : Int) ∧ (List.length a.x.V ≤ 1000000 ∧ List.length a.x.τ = List.length a.x.V) ∧ aH (aa a.l) ≤ 100000 ∧ ∀ (s : ByteArray), List.Mem s (an (aa a.l)) → List.Mem s a.x.V) ∧ ag z2 64 18 = ag z2 64 18 ∧ ∃ (a_1 : Po), sp 116 [(0, AV.ae 62 ds), (3, AV.ptr 0 0 [] 0), (9, AV.ae 9 vs), (10, AV.a7 1 0 bB.length), (11, AV.bool (Prod.fst (jB a))), (12, AV.int 0)] [Obj.box 41 z1, Obj.row 3 (iA (lJ.τ {V := a.x.V, τ := Prod.snd (jB a) }))] = sp 116 [(0, AV.ae 62 a_1.ds), (3, AV.ptr 0 0 [] 0), (9, AV.ae 9 (strs a_1.x.V)), (10, AV.a7 1 0 (List.length (iA a_1.x.τ))), (11, AV.bool a_1.more), (12, AV.int a_1.i)] [Obj.box 41 (AV.agg [AV.agg [AV.str a_1.r.rel, AV.ae 52 a_1.r.hl], AV.ae 55 a_1.r.bl, AV.int a_1.r.line]), Obj.row 3 (iA a_1.x.τ)] ∧ (a_1.ds.length ≤ 9223372036854775807 ∧ List.length a_1.r.bl ≤ 9223372036854775807 ∧ (List.length a_1.x.V ≤ 1000000 ∧ List.length a_1.x.τ = List.length a_1.x.V) ∧ (0 : Int) ≤ a_1.i ∧ a_1.i ≤ (↑(List.length a_1.r.bl) : Int) ∧ ∀ (l : Lt), List.Mem l (bn (List.drop a_1.i.toNat a_1.r.bl)) → (dw l = true → known (aQ a_1.ds) l.a = (0 : Int)) ∧ dC l ≤ 100000 ∧ ∀ (s : ByteArray), List.Mem s (cx l) → List.Mem s a_1.x.V) ∧ ∃ (m : Nat), m < n ∧ I m (sp 116 [(0, AV.ae 62 a_1.ds), (3, AV.ptr 0 0 [] 0), (9, AV.ae 9 (strs a_1.x.V)), (10, AV.a7 1 0 (List.length (iA (Prod.snd (zy a_1))))), (11, AV.bool (a_1.more || Prod.fst (zy a_1)))] [Obj.box 41 (AV.agg [AV.agg [AV.str a_1.r.rel, AV.ae 52 a_1.r.hl], AV.ae 55 a_1.r.bl, AV.int a_1.r.line]), Obj.row 3 (iA (Prod.snd (zy a_1)))])) (K (Exit.exit 2) (sp 116 [(0, AV.ae 62 ds), (3, AV.ptr 0 0 [] 0), (9, AV.ae 9 vs), (10, AV.a7 1 0 bB.length)] [Obj.box 41 z1, Obj.row 3 bB]))) := by kernel_rfl
def NC (a : NU) : Nat := gD qb a.x.V (bk a.x.V a.x.τ)
def mv (a : NU) : List Int := bif a.more then ck (bk a.x.V) (eh a.x.V) (aQ a.ds) (aL a.r) (NC a + 1) a.x.τ else a.x.τ
def Ie (a : NU) : Prop := a.ds.length ≤ aI ∧ a.r.bl.length ≤ aI ∧ JL a.x ∧ known (aQ a.ds) ⟨a.r.rel, aa a.r.hl⟩ = 0 ∧ aH (aa a.r.hl) ≤ 100000 ∧ (∀ s, s ∈ cQ (aL a.r) → s ∈ a.x.V) ∧ ∀ l, l ∈ bn a.r.bl → CK a.ds a.x.V l
def JJ (a : NU) : Out (Exit × S) := .one (.exit 2, sp 116 [(0, .ae 62 a.ds), (3, .ptr 0 0 [] 0), (9, GB a.x), (10, .a7 1 0 (iA (mv a)).length)] [.box 41 (aF a.r), .row 3 (iA (mv a))])
theorem XF (κ : Kp) : bg (Kw κ) 12 64 15 (aK 0 Oh Ie JJ) := by
 refine aO (fun a => bif a.more then NC a + 1 else 0) ?_
 rintro ⟨ds, r, x, more⟩ K ⟨q1, h1, h0, h2, h3, h4, h5⟩ ho
 simp only at q1 h1 h0 h2 h3 h4 h5
 rw [show (Kw κ).P = Pr κ from rfl]
 refine Eq.mpr (xMo κ ds r (strs x.V) (iA x.τ) more _ _ K) ?_
 simp only [JJ, Out.run] at ho
 cases more with
 | false => exact ho
 | true =>
  have hva : ∀ s, s ∈ an (aa r.hl) → s ∈ x.V := fun s hs => h4 s (by rw [cQ]; exact ab5 _ hs)
  have l1 : (jB ⟨ds, r.rel, r.hl, x⟩).2.length = x.V.length := uZ _ _ h0.2 hva
  have hR : bV (bk x.V) (eh x.V) (aQ ds) (aL r) x.τ = ((jB ⟨ds, r.rel, r.hl, x⟩).1 || (zy ⟨ds, r, ⟨x.V, (jB ⟨ds, r.rel, r.hl, x⟩).2⟩, (jB ⟨ds, r.rel, r.hl, x⟩).1, 0⟩).1, (zy ⟨ds, r, ⟨x.V, (jB ⟨ds, r.rel, r.hl, x⟩).2⟩, (jB ⟨ds, r.rel, r.hl, x⟩).1, 0⟩).2) := by
   unfold zy bV
   simp only [ab8, ab0]
   rfl
  have l2 := px (aQ ds) (aL r) h0.2 h4
  have he : mv ⟨ds, r, x, true⟩ = mv ⟨ds, r, ⟨x.V, (bV (bk x.V) (eh x.V) (aQ ds) (aL r) x.τ).2⟩, (bV (bk x.V) (eh x.V) (aQ ds) (aL r) x.τ).1⟩ := by
   have e0 : mv ⟨ds, r, x, true⟩ = ck (bk x.V) (eh x.V) (aQ ds) (aL r) (NC ⟨ds, r, x, true⟩ + 1) x.τ := rfl
   rw [e0, ck]
   unfold mv
   cases hm : (bV (bk x.V) (eh x.V) (aQ ds) (aL r) x.τ).1 with
   | false => rfl
   | true =>
    rw [aa7, aa7]
    have := nF (aQ ds) h4 h0.2 hm
    exact l3 (aQ ds) h4 _ _ _ l2 this (Nat.lt_succ_self _)
  have hz : (bif (bV (bk x.V) (eh x.V) (aQ ds) (aL r) x.τ).1 then NC ⟨ds, r, ⟨x.V, (bV (bk x.V) (eh x.V) (aQ ds) (aL r) x.τ).2⟩, (bV (bk x.V) (eh x.V) (aQ ds) (aL r) x.τ).1⟩ + 1 else 0) < NC ⟨ds, r, x, true⟩ + 1 := by
   cases hm : (bV (bk x.V) (eh x.V) (aQ ds) (aL r) x.τ).1 with
   | false => exact Nat.succ_pos _
   | true =>
    have := nF (aQ ds) h4 h0.2 hm
    exact Nat.succ_lt_succ this
  rw [he] at ho
  rw [hR] at ho hz l2
  refine ⟨⟨ds, r.rel, r.hl, x⟩, rfl, ⟨q1, h2, h0, h3, hva⟩, rfl, ⟨ds, r, ⟨x.V, (jB ⟨ds, r.rel, r.hl, x⟩).2⟩, (jB ⟨ds, r.rel, r.hl, x⟩).1, 0⟩, ?_, ⟨q1, h1, ⟨h0.1, l1⟩, by simp only; omega, by simp only; omega, h5⟩, ?_⟩
  ·rw [show (iA x.τ).length = (iA (jB ⟨ds, r.rel, r.hl, x⟩).2).length by rw [ff, ff, l1, h0.2]]
  ·exact ⟨_, hz, ⟨ds, r, ⟨x.V, (zy ⟨ds, r, ⟨x.V, (jB ⟨ds, r.rel, r.hl, x⟩).2⟩, (jB ⟨ds, r.rel, r.hl, x⟩).1, 0⟩).2⟩, _⟩, rfl, ⟨q1, h1, ⟨h0.1, l2⟩, h2, h3, h4, h5⟩, rfl, ho⟩
noncomputable def KZ (κ : Kp) : Env := (Kw κ).aj 64 15 (aK 0 Oh Ie JJ)
theorem XY (κ : Kp) : aw (KZ κ) := (Z5 κ).aj (Td κ) (XF κ)
theorem UI (κ : Kp) : ai (KZ κ) := (Td κ).aj aE
structure Pj where
 ds : List AV
 r : b5
 x : lJ
 i : Int
abbrev MP (a : Pj) : S := sp 116 [(0, .ae 62 a.ds), (3, .ptr 0 0 [] 0), (9, GB a.x), (10, .a7 1 0 (iA a.x.τ).length), (14, .int a.i)] [.box 41 (aF a.r), .row 3 (iA a.x.τ)]
theorem VT (κ : Kp) (ds : List AV) (r : b5) (vs bB : List AV) (i : Int) (I : Nat → S → Prop) (n : Nat) (K : Exit → S → Prop) : (vc (KZ κ) 12 64 none 0 (ag (Pr κ).toProgram 64 23) (sp 116 [(0, .ae 62 ds), (3, .ptr 0 0 [] 0), (9, .ae 9 vs), (10, .a7 1 0 bB.length), (14, .int i)] [.box 41 (aF r), .row 3 bB]) (bC (KZ κ) 64 23 0 I n K)) = (
 ax (decide (i < (↑(bB.length) : Int))) (aZ (decide ((0 : Int) ≤ i) && decide (i < (↑(bB.length) : Int))) (ax (toInt (nth bB (0 + i.toNat)) == (0 : Int)) (K
 Exit.ret (sp 116 [(4, AV.nil), (5, AV.int 53)] [])) (∃ (m : Nat), m < n ∧ I m (sp 116 [(0, AV.ae 62 ds), (3, AV.ptr 0 0 [] 0), (9, AV.ae 9 vs), (10, AV.a7 1
 0 bB.length), (14, AV.int (IntKind.wrap IntKind.i64 (i + (1 : Int))))] [Obj.box 41 (aF r), Obj.row 3 bB])))) (K (Exit.exit 6) (sp 116 [(0, AV.ae 62 ds),
 (3, AV.ptr 0 0 [] 0), (9, AV.ae 9 vs), (10, AV.a7 1 0 bB.length)] [Obj.box 41 (aF r), Obj.row 3 bB]))) := by kernel_rfl
def LD (a : Pj) : Bool := (a.x.τ.drop a.i.toNat).all fun k => !decide (k = 0)
def HX (a : Pj) : Prop := a.x.τ.length ≤ 1000000 ∧ 0 ≤ a.i ∧ a.i ≤ a.x.τ.length
def Fc (a : Pj) : Out (Exit × S) := .ax (LD a) (.one (.exit 6, sp 116 [(0, .ae 62 a.ds), (3, .ptr 0 0 [] 0), (9, GB a.x), (10, .a7 1 0 (iA a.x.τ).length)] [.box 41 (aF a.r), .row 3 (iA a.x.τ)])) (.one (.ret, sp 116 [(4, .nil), (5, .int 53)] []))
theorem YK (κ : Kp) : bg (KZ κ) 12 64 23 (aK 0 MP HX Fc) := by
 refine aO (fun a => a.x.τ.length - a.i.toNat) ?_
 rintro ⟨ds, r, x, i⟩ K ⟨h1, h2, h3⟩ ho
 simp only at h1 h2 h3
 rw [show (KZ κ).P = Pr κ from rfl]
 refine Eq.mpr (VT κ ds r (strs x.V) (iA x.τ) i _ _ K) ?_
 simp only [Fc, Out.run, af] at ho
 rw [ff, af, aa0, aa2]
 refine ⟨fun hi => ?_, fun hi => ?_⟩
 ·have hk : i.toNat < x.τ.length := by omega
  have hd : LD ⟨ds, r, x, i⟩ = (!decide (x.τ[i.toNat] = 0) && LD ⟨ds, r, x, i + 1⟩) := by
   unfold LD
   simp only [show (i + 1).toNat = i.toNat + 1 by omega]
   rw [ab1 hk, ac1]
  have hn : toInt (nth (iA x.τ) (0 + i.toNat)) = x.τ[i.toNat] := by
   rw [Nat.zero_add, IE _ _ hk, List.getD_eq_getElem?_getD, ab7 hk]; rfl
  rw [aq, aa1, aa0, aa0, hn, Fo]
  refine ⟨⟨h2, hi⟩, af.2 ⟨fun e => ?_, fun e => ?_⟩⟩
  ·rw [hd, e] at ho
   exact ho.2 rfl
  ·rw [hd, e, Bool.not_false, ac0] at ho
   rw [aU (n := i + 1) (by omega) (by omega)]
   refine ⟨_, ?_, ⟨ds, r, x, i + 1⟩, ?_, ⟨h1, by simp only; omega, by simp only; omega⟩, rfl, ?_⟩
   ·simp only; omega
   ·simp only [MP, ff]
   ·simp only [Fc, Out.run, af]
    exact ho
 ·have hd : LD ⟨ds, r, x, i⟩ = true := by
   unfold LD
   simp only
   rw [aa8 (by omega)]; rfl
  rw [hd] at ho
  have := ho.1 rfl
  rw [ff] at this
  exact this
noncomputable def PJ (κ : Kp) : Env := (KZ κ).aj 64 23 (aK 0 MP HX Fc)
theorem eZr (κ : Kp) : aw (PJ κ) := (XY κ).aj (UI κ) (YK κ)
theorem Uv (κ : Kp) : ai (PJ κ) := (UI κ).aj aE
theorem XL (κ : Kp) (ds : List AV) (r : b5) (K : AV → List Dn.Obj → Prop) : (a9 (PJ κ) 12 64 [.ae 62 ds, aF r] [] K) = (
 letI z1 := K (AV.bR [AV.nil, AV.int 53]) []
 letI z2 := (0 : Int)
 letI z3 := Pg.toProgram (Env.P (zl κ))
 letI z4 := Pg.toProgram (Env.P (Kw κ))
 letI z5 := Pg.toProgram (Env.P (KZ κ))
 aZ (List.all [AV.agg [AV.agg [AV.str r.rel, AV.ae 52 r.hl], AV.ae 55 r.bl, AV.int r.line]] jX) (ax (!dS ds [AV.agg [AV.agg [AV.str r.rel, AV.ae 52 r.hl], AV.ae 55 r.bl, AV.int r.line]]) (K (AV.bR [AV.nil, AV.int 30]) []) (aZ (decide (ds.length ≤ 9223372036854775807)) (ag z3 64 6 = ag z3 64 6 ∧ ∃ (a : NY), sp 116 [(0, AV.ae 62 ds), (3, AV.ptr 0 0 [] 0), (7, AV.int (known (aQ ds) {rel := r.rel, l := aa r.hl })), (8, AV.int 0)] [Obj.box 41 (AV.agg [AV.agg [AV.str r.rel, AV.ae 52 r.hl], AV.ae 55 r.bl, AV.int r.line])] = sp 116 [(0, AV.ae 62 a.ds), (3, AV.ptr 0 0 [] 0), (7, AV.int a.e), (8, AV.int a.i)] [Obj.box 41 (AV.agg [AV.agg [AV.str a.r.rel, AV.ae 52 a.r.hl], AV.ae 55 a.r.bl, AV.int a.r.line])] ∧ (a.ds.length ≤ 9223372036854775807 ∧ List.length a.r.bl ≤ 9223372036854775807 ∧ z2 ≤ a.i ∧ a.i ≤ (↑(List.length a.r.bl) : Int)) ∧ ax (JO a != z2) (K (AV.bR [AV.nil, AV.int (JO a)]) []) (∃ (a_1 : b5), ([AV.agg [AV.agg [AV.str a.r.rel, AV.ae 52 a.r.hl], AV.ae 55 a.r.bl, AV.int a.r.line]], az) = ([AV.agg [AV.agg [AV.str a_1.rel, AV.ae 52 a_1.hl], AV.ae 55 a_1.bl, AV.int a_1.line]], az) ∧ (aH (aa (aX 52 a_1.hl a_1.bl)) ≤ 100000 ∧ a_1.bl.length ≤ 100000) ∧ aZ (true && decide ((↑(List.length (strs (cr (aL a_1)))) : Int) ≤ (↑(List.length (strs (cr (aL a_1)))) : Int)) && decide ((Int.toNat (↑(List.length (strs (cr (aL a_1)))) : Int) + 1) * 9 ≤ 70368744177664) && true) (ag z4 64 15 = ag z4 64 15 ∧ ∃ (a_2 : NU), sp 116 [(0, AV.ae 62 a.ds), (3, AV.ptr 0 0 [] 0), (9, AV.ae 9 (strs (cr (aL a_1)))), (10, AV.a7 1 0 (Int.toNat (↑(List.length (strs (cr (aL a_1)))) : Int))), (11, AV.bool true)] [Obj.box 41 (AV.agg [AV.agg [AV.str a.r.rel, AV.ae 52 a.r.hl], AV.ae 55 a.r.bl, AV.int a.r.line]), Obj.row 3 (eI (AV.int 0) (Int.toNat (↑(List.length (strs (cr (aL a_1)))) : Int)))] = sp 116 [(0, AV.ae 62 a_2.ds), (3, AV.ptr 0 0 [] 0), (9, AV.ae 9 (strs a_2.x.V)), (10, AV.a7 1 0 (List.length (iA a_2.x.τ))), (11, AV.bool a_2.more)] [Obj.box 41 (AV.agg [AV.agg [AV.str a_2.r.rel, AV.ae 52 a_2.r.hl], AV.ae 55 a_2.r.bl, AV.int a_2.r.line]), Obj.row 3 (iA a_2.x.τ)] ∧ (a_2.ds.length ≤ 9223372036854775807 ∧ List.length a_2.r.bl ≤ 9223372036854775807 ∧ (List.length a_2.x.V ≤ 1000000 ∧ List.length a_2.x.τ = List.length a_2.x.V) ∧ known (aQ a_2.ds) {rel := a_2.r.rel, l := aa a_2.r.hl } = z2 ∧ aH (aa a_2.r.hl) ≤ 100000 ∧ (∀ (s : ByteArray), List.Mem s (cQ (aL a_2.r)) → List.Mem s a_2.x.V) ∧ ∀ (l : Lt), List.Mem l (bn a_2.r.bl) → (dw l = true → known (aQ a_2.ds) l.a = z2) ∧ dC l ≤ 100000 ∧ ∀ (s : ByteArray), List.Mem s (cx l) → List.Mem s a_2.x.V) ∧ ag z5 64 23 = ag z5 64 23 ∧ ∃ (a : Pj), sp 116 [(0, AV.ae 62 a_2.ds), (3, AV.ptr 0 0 [] 0), (9, AV.ae 9 (strs a_2.x.V)), (10, AV.a7 1 0 (List.length (iA (mv a_2)))), (14, AV.int 0)] [Obj.box 41 (AV.agg [AV.agg [AV.str a_2.r.rel, AV.ae 52 a_2.r.hl], AV.ae 55 a_2.r.bl, AV.int a_2.r.line]), Obj.row 3 (iA (mv a_2))] = sp 116 [(0, AV.ae 62 a.ds), (3, AV.ptr 0 0 [] 0), (9, AV.ae 9 (strs a.x.V)), (10, AV.a7 1 0 (List.length (iA a.x.τ))), (14, AV.int a.i)] [Obj.box 41 (AV.agg [AV.agg [AV.str a.r.rel, AV.ae 52 a.r.hl], AV.ae 55 a.r.bl, AV.int a.r.line]), Obj.row 3 (iA a.x.τ)] ∧ (List.length a.x.τ ≤ 1000000 ∧ z2 ≤ a.i ∧ a.i ≤ (↑(List.length a.x.τ) : Int)) ∧ ax (LD a) (aZ (decide (a.ds.length ≤ 9223372036854775807) && decide (List.length a.r.hl ≤ 9223372036854775807) && decide (List.length a.r.bl ≤ 9223372036854775807) && decide (known (aQ a.ds) { rel := a.r.rel, l := aa a.r.hl } = z2) && tg (aa a.r.hl) && fH (strs a.x.V) (List.take (List.length (iA a.x.τ)) (List.drop 0 (iA a.x.τ))) (an (aa a.r.hl)) && List.all (bn a.r.bl) (rI a.ds (strs a.x.V) (List.take (List.length (iA a.x.τ)) (List.drop 0 (iA a.x.τ))))) (ax (!iG (bk (List.map toStr (strs a.x.V))) (aQ a.ds) {head := { rel := a.r.rel, l := aa a.r.hl }, body := bn a.r.bl } (dy (List.take (List.length (iA a.x.τ)) (List.drop 0 (iA a.x.τ))))) z1 (K (AV.bR [AV.a7 0 0 (List.length (iA a.x.τ)), AV.int 0]) [Obj.row 3 (iA a.x.τ)]))) z1)))))) := by kernel_rfl
end Go.Proofs.YtdpmikfheebicaaGreatDoor
namespace Go.Rl
open Go Go.Dn
structure SX (l : Lt) : Prop where
 a : tg l.a.l = true
 x : (decide (l.op = 1) || decide (l.op = 2) || l.x.sh) = true
 y : (decide (l.op = 1) || decide (l.op = 2) || decide (l.op = 7) || l.y.sh) = true
theorem Mt {l : Lt} (h : dI l = true) : SX l := by
 unfold dI at h
 have nA : FO l.a = true → tg l.a.l = true := fun h => by
  simp only [FO, aa1, aa0] at h
  rw [List.eq_nil_of_length_eq_zero h.2]; rfl
 cases h1 : decide (l.op = 1) || decide (l.op = 2) with
 | true =>
  rw [h1, aa7] at h; simp only [aa1] at h
  exact ⟨tp h.1, by rw [h1, Bool.true_or], by rw [h1, Bool.true_or, Bool.true_or]⟩
 | false =>
  rw [h1, aa5] at h
  cases h2 : decide (l.op = 3) || decide (l.op = 4) || decide (l.op = 5) || decide (l.op = 6) with
  | true =>
   rw [h2, aa7] at h; simp only [aa1] at h
   exact ⟨nA h.1.1.1.1, by rw [jW _ _ h.1.2, Bool.or_true], by rw [jW _ _ h.2, Bool.or_true]⟩
  | false =>
   rw [h2, aa5] at h
   cases h3 : decide (l.op = 7) with
   | true =>
    rw [h3, aa7] at h; simp only [aa1] at h
    exact ⟨tp h.1.1, by rw [jW _ _ h.2, Bool.or_true], by rw [h3, Bool.or_true, Bool.true_or]⟩
   | false =>
    rw [h3, aa5] at h
    cases h4 : decide (l.op = 8) || decide (l.op = 9) || decide (l.op = 10) with
    | true =>
     rw [h4, aa7] at h; simp only [aa1] at h
     exact ⟨tp h.1.1.1, by rw [jW _ _ h.1.2, Bool.or_true], by rw [jW _ _ h.2, Bool.or_true]⟩
    | false => rw [h4, aa5] at h; cases h
theorem pc (ds : List Dc) : ∀ b : List Lt, dt ds b = 0 → ∀ l, l ∈ b → dw l = true → known ds l.a = 0
 | [], _, _, hl, _ => nomatch hl
 | l :: b, h, m, hm, hh => by
  rw [dt] at h
  cases e : dw l && !decide (known ds l.a = 0) with
  | true =>
   rw [e, aa7] at h
   rw [h] at e
   simp at e
  | false =>
   rw [e, aa5] at h
   rcases List.mem_cons.1 hm with rfl | hm
   ·rw [hh, ac0] at e
    simpa using e
   ·exact pc ds b h m hm hh
theorem Aq {ds : List Dc} {r : Rl} (h : eH ds r = 0) : known ds r.head = 0 ∧ dt ds r.body = 0 := by
 unfold eH at h
 cases e : decide (known ds r.head = 0) with
 | true => rw [e] at h; exact ⟨by simpa using e, h⟩
 | false =>
  rw [e] at h
  rw [aa2] at e
  exact absurd h e
end Go.Rl
namespace Go.Proofs.YtdpmikfheebicaaGreatDoor
open Go Go.Dn Go.Rl Go.Proofs
attribute [local irreducible] a9 vc
set_option maxRecDepth 20000
theorem zH : ∀ (ns ts : List AV), ts.length = ns.length → u9 ns ts = true → ∀ t, t ∈ ts → pL t = true
 | [], [], _, _, _, h => nomatch h
 | n :: ns, t :: ts, hl, h, x, hx => by
  simp only [u9, aa1] at h
  rcases List.mem_cons.1 hx with rfl | hx
  ·exact h.1.2
  ·exact zH ns ts (by simpa using hl) h.2 x hx
theorem RZ {ds : List AV} (h : ds.all sG = true) : ze (aQ ds) := by
 intro s w hw
 unfold aV at hw
 cases hf : ie s (aQ ds) with
 | none => rw [hf] at hw; exact nomatch hw
 | some k =>
  rw [hf] at hw
  simp only [List.getD_eq_getElem?_getD] at hw
  cases hg : (aQ ds)[k]? with
  | none => rw [hg] at hw; exact nomatch hw
  | some d =>
   rw [hg] at hw
   have hm := List.mem_of_getElem? hg
   obtain ⟨x, hx, rfl⟩ := List.mem_map.1 hm
   have h1 := List.all_eq_true.1 h x hx
   have h1 : sl (toStr (ad x 0)) (ah (ad x 1)) (ah (ad x 2)) = true := h1
   simp only [sl, aa1, aa0] at h1
   obtain ⟨t, ht, rfl⟩ := List.mem_map.1 hw
   have h2 := zH _ _ h1.1.2 h1.2 t ht
   simpa [pL] using h2
theorem MA (τ : List Int) : dy (iA τ) = τ := by
 induction τ with
 | nil => rfl
 | cons k τ ih =>
  have : dy (iA (k :: τ)) = k :: dy (iA τ) := rfl
  rw [this, ih]
def TD (x : Nq) : Int × List Int := ui (aQ x.1) (aL x.2)
theorem Ns {ds : List AV} {r : b5} (h : dS ds [aF r] = true) : ph (ds, r) = TD (ds, r) := by
 have hr := ru h
 simp only [dS, aa1] at h
 exact Hc (aQ ds) (RZ h.1.2) hr
theorem Yk (κ : Kp) : bJ (PJ κ) 12 64 (a8 J4 ya wm) := by
 refine bh ?_
 rintro ⟨ds, r⟩ K ⟨h1, h2⟩ ho
 simp only at h1 h2
 refine Eq.mpr (XL κ ds r K) ?_
 simp only [wm, Out.run, af] at ho
 refine aq.2 ⟨Bo (ds := ds) (rs := [aF r]) ⟨h1, by simp [aI], fun x hx => by rw [List.mem_singleton.1 hx]; exact h2⟩, ?_⟩
 refine af.2 ⟨fun e => ho.2 (by simpa using e), fun e => ?_⟩
 have e' : dS ds [aF r] = true := by simpa using e
 have hr := ru e'
 have ho1 := ho.1 e'
 rw [Ns e'] at ho1
 have hbl := h2.2
 have hhl := xt h2
 have hVl := lI h2
 have hvr : cr (aL r) = bq (aL r) := nC _
 have hlit : ∀ l, l ∈ bn r.bl → dC l ≤ 100000 := fun l hl => by
  obtain ⟨y, hy, rfl⟩ := List.mem_map.1 hl
  obtain ⟨k, hk, e⟩ := List.getElem_of_mem hy
  have := fj h2 hk
  rwa [bx _ _ hk, e] at this
 have hrr := hr
 simp only [aG, aa1, List.all_eq_true] at hrr
 have hkb : JO ⟨ds, r, known (aQ ds) ⟨r.rel, aa r.hl⟩, 0⟩ = eH (aQ ds) (aL r) := by
  unfold JO eH
  simp only [ab8, ab0]
  rfl
 refine aq.2 ⟨aa6 h1, rfl, ⟨ds, r, known (aQ ds) ⟨r.rel, aa r.hl⟩, 0⟩, rfl, ⟨h1, by simp only; omega, by simp only; omega, by simp only; omega⟩, ?_⟩
 rw [hkb]
 simp only [sD]
 have htf : TD (ds, r) = ui (aQ ds) (aL r) := rfl
 unfold ui at htf
 refine af.2 ⟨fun e1 => ?_, fun e1 => ?_⟩
 ·have e1 : decide (eH (aQ ds) (aL r) = 0) = false := by simpa using e1
  rw [htf, e1, aa5] at ho1
  exact ho1.2 e1
 ·have e1 : decide (eH (aQ ds) (aL r) = 0) = true := by simpa using e1
  rw [e1, aa7] at htf
  obtain ⟨k1, k2⟩ := Aq (r := aL r) (of_decide_eq_true e1)
  have k2 : dt (aQ ds) (bn r.bl) = 0 := k2
  have hok : ∀ l, l ∈ bn r.bl → CK ds (cr (aL r)) l := fun l hl => ⟨pc _ _ k2 l hl, hlit l hl, fun s hs => by
   rw [hvr]
   exact (iK hr).2 (by rw [cQ]; exact ab4 _ (List.mem_flatMap.2 ⟨l, hl, hs⟩))⟩
  have hV : ∀ s, s ∈ cQ (aL r) → s ∈ cr (aL r) := fun s hs => by rw [hvr]; exact (iK hr).2 hs
  have hz0 : iA ((cr (aL r)).map fun _ => 0) = eI (AV.int 0) (Int.toNat ((strs (cr (aL r))).length : Int)) := by
   rw [Int.toNat_natCast, aM]
   unfold eI iA
   rw [List.map_map, show ((fun k : Int => AV.lit (.int .i64 k)) ∘ fun _ : ByteArray => (0 : Int)) = fun _ => AV.int 0 from rfl, List.map_const']
  have hl0 : ((cr (aL r)).map fun _ => (0 : Int)).length = (cr (aL r)).length := by simp
  have hvl : (an (aa r.hl)) = an (aL r).head.l := rfl
  have hend : mv ⟨ds, r, ⟨cr (aL r), (cr (aL r)).map fun _ => 0⟩, true⟩ = ck (bk (bq (aL r))) (eh (bq (aL r))) (aQ ds) (aL r) ((bq (aL r)).length + 1) ((bq (aL r)).map fun _ => 0) := by
   have := l3 (aQ ds) hV (NC ⟨ds, r, ⟨cr (aL r), (cr (aL r)).map fun _ => 0⟩, true⟩ + 1) ((cr (aL r)).length + 1) ((cr (aL r)).map fun _ => 0) hl0 (Nat.lt_succ_self _) (Nat.lt_succ_of_le (vJ _ _ _))
   rw [← hvr]
   exact this
  have hel : (mv ⟨ds, r, ⟨cr (aL r), (cr (aL r)).map fun _ => 0⟩, true⟩).length = (cr (aL r)).length := by
   rw [hend, ← hvr]
   exact nQ (aQ ds) hV _ _ hl0
  rw [← hend] at htf
  refine ⟨r, rfl, h2, aq.2 ⟨?_, trivial, ⟨ds, r, ⟨cr (aL r), (cr (aL r)).map fun _ => 0⟩, true⟩, ?_, ⟨h1, by simp only; omega, ⟨by simp only; omega, hl0⟩, k1, kG h2, hV, hok⟩, trivial, ⟨ds, r, ⟨cr (aL r), mv ⟨ds, r, ⟨cr (aL r), (cr (aL r)).map fun _ => 0⟩, true⟩⟩, 0⟩, rfl, ⟨?_, by simp only; omega, by simp only; omega⟩, ?_⟩⟩
  ·rw [aM]; simp; omega
  ·simp only [hz0]
   rw [show (eI (AV.int 0) (Int.toNat ((strs (cr (aL r))).length : Int))).length = Int.toNat ((strs (cr (aL r))).length : Int) from List.length_replicate]
  ·simp only [hel]; omega
  ·generalize mv ⟨ds, r, ⟨cr (aL r), (cr (aL r)).map fun _ => 0⟩, true⟩ = τ at htf hel ⊢
   have hzd : LD ⟨ds, r, ⟨cr (aL r), τ⟩, 0⟩ = τ.all fun k => !decide (k = 0) := by
    unfold LD; simp only [ab8, ab0]
   have hoT : ∀ L : List ByteArray, (∀ s, s ∈ L → s ∈ cr (aL r)) → fH (strs (cr (aL r))) (iA τ) L = true := fun L hL => by
    unfold fH
    rw [uA, aM, ff, hel, aa6 rfl, aa6 (by omega), qf.2 hL]; rfl
   rw [hzd]
   simp only [ab0, List.take_length, uA, MA]
   refine af.2 ⟨fun e2 => aq.2 ⟨?_, ?_⟩, fun e2 => ?_⟩
   ·have hkk : known (aQ ds) ⟨r.rel, aa r.hl⟩ = 0 := k1
    rw [show decide (ds.length ≤ 9223372036854775807) = true from aa6 h1, aa6 (show r.hl.length ≤ 9223372036854775807 by omega), aa6 (show r.bl.length ≤ 9223372036854775807 by omega), aa6 hkk, show tg (aa r.hl) = true from tp hrr.1.1.1, hoT _ fun s hs => hV s (by rw [cQ]; exact ab5 _ hs)]
    simp only [ac0, List.all_eq_true]
    intro l hl
    have hs := Mt (hrr.2 l hl)
    have hc := hlit l hl
    have hc : aH [l.x, l.y] + aH l.a.l ≤ 100000 := hc
    have hln := dh l.a.l
    unfold rI
    rw [hs.a, hs.x, hs.y, hoT _ (hok l hl).2.2, aa6 (show l.a.l.length ≤ aI by simp only [aI]; omega)]
    simp only [ac0, Bool.and_true]
    cases hi : cX l.op with
    | true => rfl
    | false =>
     rw [Bool.false_or]
     refine aa6 (pc _ _ k2 l hl ?_)
     have : (decide (3 ≤ l.op) && decide (l.op ≤ 6)) = false := hi
     rw [Bool.and_eq_false_iff, aa2, aa2] at this
     show (decide (l.op < 3) || decide (6 < l.op)) = true
     rw [ab6, aa0, aa0]; omega
   ·rw [e2, ac0, ← hvr] at htf
    have hfe : iG (bk (cr (aL r))) (aQ ds) ⟨⟨r.rel, aa r.hl⟩, bn r.bl⟩ τ = iG (bk (cr (aL r))) (aQ ds) (aL r) τ := rfl
    rw [hfe]
    cases hf : iG (bk (cr (aL r))) (aQ ds) (aL r) τ with
    | true =>
     rw [hf] at htf
     rw [htf] at ho1
     exact ho1.1 rfl
    | false =>
     rw [hf] at htf
     rw [htf] at ho1
     exact ho1.2 rfl
   ·rw [e2, Bool.false_and] at htf
    rw [htf] at ho1
    exact ho1.2 rfl
noncomputable def x5 (κ : Kp) : Env := (PJ κ).ar 64 (a8 J4 ya wm)
theorem Rf (κ : Kp) : aw (x5 κ) := (eZr κ).ar (Uv κ) (Yk κ)
theorem PQ (κ : Kp) : ai (x5 κ) := (Uv κ).ar aJ
abbrev MO (x : lU) : S := sp 70 [(1, .ptr 0 0 [] 0), (5, .int x.i)] [wc x]
theorem xG1 (κ : Kp) (x : lU) (I : Nat → S → Prop) (n : Nat) (K : Exit → S → Prop) : (vc (x5 κ) 12 32 none 0 (ag (Pr κ).toProgram 32 5) (MO x) (bC (x5 κ) 32 5 0 I n K)) = (
 letI z1 := decide ((0 : Int) ≤ x.i) && decide (x.i < (↑(x.ds.length) : Int))
 letI z2 := AV.agg [AV.ae 62 x.ds, AV.ae 41 x.rs]
 ax (decide (x.i < (↑(x.ds.length) : Int))) (aZ z1 (∃ (a : List AV × ByteArray), ([AV.ae 62 x.ds, AV.str (toStr (ad (nth x.ds x.i.toNat) 0))], az) = ([AV.ae 62
 a.1, AV.str a.2], az) ∧ jc a ∧ ax (jw a.2 a.1 != x.i) (aZ z1 (K Exit.ret (sp 70 [(2, AV.int (toInt (ad (nth x.ds x.i.toNat) 5))), (3, AV.int 50)] []))) (∃ (m :
 Nat), m < n ∧ I m (sp 70 [(1, AV.ptr 0 0 [] 0), (5, AV.int (IntKind.wrap IntKind.i64 (x.i + (1 : Int))))] [Obj.box 25 z2])))) (K (Exit.exit 0) (sp 70 [(1,
 AV.ptr 0 0 [] 0)] [Obj.box 25 z2]))) := by kernel_rfl
def Dr (x : lU) : Out (Exit × S) := .ax (decide ((tf x).2 = 0)) (.one (.exit 0, sp 70 [(1, .ptr 0 0 [] 0)] [wc x])) (.one (.ret, sp 70 [(2, .int (tf x).1), (3, .int (tf x).2)] []))
theorem lG1 (κ : Kp) : bg (x5 κ) 12 32 5 (aK 0 MO yh Dr) := by
 refine aO (fun x => x.ds.length - x.i.toNat) ?_
 rintro ⟨ds, rs, i⟩ K ⟨h1, h2, h3⟩ ho
 simp only at h1 h2 h3
 rw [show (x5 κ).P = Pr κ from rfl]
 refine Eq.mpr (xG1 κ ⟨ds, rs, i⟩ _ _ K) ?_
 simp only [aI] at h1
 simp only [Dr, Out.run, af] at ho
 rw [af, aa0, aa2, aq, aa1, aa0, aa0]
 refine ⟨fun hi => ⟨⟨h2, hi⟩, (ds, toStr (ad (nth ds i.toNat) 0)), rfl, h1, ?_⟩, fun hi => ?_⟩
 ·simp only at hi
  have hk : i.toNat < ds.length := by omega
  have hr : tf ⟨ds, rs, i⟩ = bif decide (jw (toStr (ad (nth ds i.toNat) 0)) ds = i) then tf ⟨ds, rs, i + 1⟩ else (toInt (ad (nth ds i.toNat) 5), 50) := by
   unfold tf
   simp only [show (i + 1).toNat = i.toNat + 1 by omega]
   rw [ab1 hk, ← bx ds i.toNat hk, L5]
  rw [hr] at ho
  simp only [sD]
  cases e : decide (jw (toStr (ad (nth ds i.toNat) 0)) ds = i) with
  | false =>
   rw [e] at ho
   exact aq.2 ⟨by rw [aa6 h2, aa6 hi]; rfl, ho.2 rfl⟩
  | true =>
   rw [e] at ho
   rw [aU (n := i + 1) (by omega) (by omega)]
   refine ⟨_, ?_, ⟨ds, rs, i + 1⟩, rfl, ⟨by simpa [aI] using h1, by simp only; omega, by simp only; omega⟩, rfl, ?_⟩
   ·simp only; omega
   ·simp only [Dr, Out.run, af]
    exact ho
 ·simp only at hi
  have hr : tf ⟨ds, rs, i⟩ = (0, 0) := by
   unfold tf
   simp only
   rw [aa8 (by omega)]; rfl
  rw [hr] at ho
  exact ho.1 rfl
noncomputable def LJ (κ : Kp) : Env := (x5 κ).aj 32 5 (aK 0 MO yh Dr)
theorem V0 (κ : Kp) : aw (LJ κ) := (Rf κ).aj (PQ κ) (lG1 κ)
theorem UZ (κ : Kp) : ai (LJ κ) := (PQ κ).aj aE
abbrev I3 (x : lU) : S := sp 70 [(1, .ptr 0 0 [] 0), (8, .int x.i)] [wc x]
theorem Zb (κ : Kp) (x : lU) (I : Nat → S → Prop) (n : Nat) (K : Exit → S → Prop) : (vc (LJ κ) 12 32 none 0 (ag (Pr κ).toProgram 32 11) (I3 x) (bC (LJ κ) 32 11 0 I n K)) = (
 letI z1 := sp 70 [(1, AV.ptr 0 0 [] 0), (8, AV.int (IntKind.wrap IntKind.i64 (x.i + (1 : Int))))] [Obj.box 25 (AV.agg [AV.ae 62 x.ds, AV.ae 41 x.rs])]
 letI z2 := decide ((0 : Int) ≤ x.i) && decide (x.i < (↑(x.rs.length) : Int))
 letI z3 := nth x.rs x.i.toNat
 letI z4 := toInt (ad z3 2)
 ax (decide (x.i < (↑(x.rs.length) : Int))) (aZ z2 (∃ (a : Nq), ([AV.ae 62 x.ds, AV.agg [AV.agg [AV.str (toStr (ad (ad z3 0) 0)), AV.ae 52 (ah (ad (ad z3 0)
 1))], AV.ae 55 (ah (ad z3 1)), AV.int z4]], az) = ([AV.ae 62 a.1, aF a.2], az) ∧ (a.1.length ≤ 9223372036854775807 ∧ aH (aa (aX 52 a.2.hl a.2.bl)) ≤ 100000 ∧
 a.2.bl.length ≤ 100000) ∧ ax (dS a.1 [aF a.2]) (ax (decide (Prod.fst (ph a) = (0 : Int))) (∃ (m : Nat), m < n ∧ I m z1) (ax (Prod.fst (ph a) != (0 : Int)) (aZ
 z2 (K Exit.ret (sp 70 [(2, AV.int z4), (3, AV.int (Prod.fst (ph a)))] []))) (∃ (m : Nat), m < n ∧ I m z1))) (aZ z2 (K Exit.ret (sp 70 [(2, AV.int z4), (3,
 AV.int 30)] []))))) (K (Exit.exit 2) (sp 70 [] []))) := by kernel_rfl
def A0 (x : lU) : Out (Exit × S) := .ax (decide ((oA (gq x.ds) x).2 = 0)) (.one (.exit 2, sp 70 [] [])) (.one (.ret, sp 70 [(2, .int (oA (gq x.ds) x).1), (3, .int (oA (gq x.ds) x).2)] []))
theorem ZM (κ : Kp) : bg (LJ κ) 12 32 11 (aK 0 I3 jt A0) := by
 refine aO (fun x => x.rs.length - x.i.toNat) ?_
 rintro ⟨ds, rs, i⟩ K ⟨h1, h2, h3⟩ ho
 simp only at h1 h2 h3
 rw [show (LJ κ).P = Pr κ from rfl]
 refine Eq.mpr (Zb κ ⟨ds, rs, i⟩ _ _ K) ?_
 have hml := h1.2.1
 simp only [aI] at hml
 simp only [A0, Out.run, af] at ho
 rw [af, aa0, aa2, aq, aa1, aa0, aa0]
 refine ⟨fun hi => ⟨⟨h2, hi⟩, (ds, jF (nth rs i.toNat)), rfl, ⟨h1.1, ?_⟩, ?_⟩, fun hi => ?_⟩
 ·simp only at hi
  exact h1.2.2 _ (by rw [bx _ _ (show i.toNat < rs.length by omega)]; exact List.getElem_mem _)
 ·simp only at hi
  have hk : i.toNat < rs.length := by omega
  rw [tc _ _ _ _ h2 hk] at ho
  have hb : (decide (0 ≤ i) && decide (i < (rs.length : Int))) = true := by rw [aa6 h2, aa6 hi]; rfl
  have next : gq ds (nth rs i.toNat) = 0 → ∃ m, m < rs.length - i.toNat ∧ fp I3 jt A0 (fun x => x.rs.length - x.i.toNat) K m (I3 ⟨ds, rs, i + 1⟩) := fun e => by
   rw [e] at ho
   refine ⟨_, ?_, ⟨ds, rs, i + 1⟩, rfl, ⟨h1, by simp only; omega, by simp only; omega⟩, rfl, ?_⟩
   ·simp only; omega
   ·simp only [A0, Out.run, af]
    exact ho
  have stop : ∀ e : Int, gq ds (nth rs i.toNat) = e → e ≠ 0 → K .ret (sp 70 [(2, .int (toInt (ad (nth rs i.toNat) 2))), (3, .int e)] []) := fun e he h0 => by
   rw [he, aa4 h0] at ho
   exact ho.2 (aa4 h0)
  rw [aU (n := i + 1) (by omega) (by omega)]
  have ht : gq ds (nth rs i.toNat) = bif dS ds [aF (jF (nth rs i.toNat))] then (ph (ds, jF (nth rs i.toNat))).1 else 30 := rfl
  refine af.2 ⟨fun e1 => ?_, fun e1 => ?_⟩
  ·rw [e1, aa7] at ht
   refine af.2 ⟨fun e2 => next (by rw [ht]; simpa using e2), fun e2 => ?_⟩
   rw [aa2] at e2
   have := stop _ ht e2
   simp only [sD]
   refine af.2 ⟨fun _ => aq.2 ⟨hb, this⟩, fun e3 => ?_⟩
   rw [ab2, aa0] at e3
   exact absurd e3 e2
  ·rw [e1, aa5] at ht
   exact aq.2 ⟨hb, stop 30 ht (by decide)⟩
 ·simp only at hi
  rw [tn _ _ _ _ (by omega)] at ho
  exact ho.1 rfl
noncomputable def OL (κ : Kp) : Env := (LJ κ).aj 32 11 (aK 0 I3 jt A0)
theorem V2 (κ : Kp) : aw (OL κ) := (V0 κ).aj (UZ κ) (ZM κ)
theorem UR (κ : Kp) : ai (OL κ) := (UZ κ).aj aE
theorem yGd (κ : Kp) (ds rs : List AV) (K : AV → List Dn.Obj → Prop) : (a9 (OL κ) 12 32 [JK ds rs] [] K) = (
 letI z1 := Pg.toProgram (Env.P (x5 κ))
 letI z2 := Pg.toProgram (Env.P (LJ κ))
 aZ (List.all rs jX) (ax (!dS ds rs) (K (AV.bR [AV.int 0, AV.int 30]) []) (ag z1 32 5 = ag z1 32 5 ∧ ∃ (a : lU), sp 70 [(1, AV.ptr 0 0 [] 0), (5, AV.int 0)]
 [Obj.box 25 (AV.agg [AV.ae 62 ds, AV.ae 41 rs])] = sp 70 [(1, AV.ptr 0 0 [] 0), (5, AV.int a.i)] [Obj.box 25 (AV.agg [AV.ae 62 a.ds, AV.ae 41 a.rs])] ∧
 (a.ds.length ≤ 9223372036854775807 ∧ (0 : Int) ≤ a.i ∧ a.i ≤ (↑(a.ds.length) : Int)) ∧ ax (decide (Prod.snd (tf a) = (0 : Int))) (ag z2 32 11 = ag z2 32 11 ∧ ∃
 (a_1 : lU), sp 70 [(1, AV.ptr 0 0 [] 0), (8, AV.int 0)] [Obj.box 25 (AV.agg [AV.ae 62 a.ds, AV.ae 41 a.rs])] = sp 70 [(1, AV.ptr 0 0 [] 0), (8, AV.int a_1.i)]
 [Obj.box 25 (AV.agg [AV.ae 62 a_1.ds, AV.ae 41 a_1.rs])] ∧ ((a_1.ds.length ≤ 9223372036854775807 ∧ a_1.rs.length ≤ 9223372036854775807 ∧ ∀ (x : AV), List.Mem x
 a_1.rs → aH (aa (aX 52 (b5.hl (jF x)) (b5.bl (jF x)))) ≤ 100000 ∧ List.length (b5.bl (jF x)) ≤ 100000) ∧ (0 : Int) ≤ a_1.i ∧ a_1.i ≤ (↑(a_1.rs.length) : Int)) ∧
 ax (decide (Prod.snd (oA (gq a_1.ds) a_1) = (0 : Int))) (K (AV.bR [AV.int 0, AV.int 0]) []) (K (AV.bR [AV.int (Prod.fst (oA (gq a_1.ds) a_1)), AV.int (Prod.snd
 (oA (gq a_1.ds) a_1))]) [])) (K (AV.bR [AV.int (Prod.fst (tf a)), AV.int (Prod.snd (tf a))]) [])))) := by kernel_rfl
theorem Yu (κ : Kp) : bJ (OL κ) 12 32 (a8 Ba ni xn) := by
 refine bh ?_
 rintro ⟨ds, rs⟩ K h1 ho
 have h1 : qa ds rs := h1
 refine Eq.mpr (yGd κ ds rs K) ?_
 simp only [xn, Out.run, ov] at ho
 refine aq.2 ⟨Bo h1, af.2 ⟨fun e => ?_, fun e => ?_⟩⟩
 ·rw [show dS ds rs = false by simpa using e] at ho
  exact ho
 ·rw [show dS ds rs = true by simpa using e, aa7] at ho
  have e1 : tf ⟨ds, rs, 0⟩ = L5 ds ds 0 := rfl
  have e2 : oA (gq ds) ⟨ds, rs, 0⟩ = Gz (gq ds) rs := rfl
  refine ⟨rfl, ⟨ds, rs, 0⟩, rfl, ⟨h1.1, by simp only; omega, by simp only; omega⟩, ?_⟩
  rw [e1]
  refine af.2 ⟨fun e3 => ⟨rfl, ⟨ds, rs, 0⟩, rfl, ⟨h1, by simp only; omega, by simp only; omega⟩, ?_⟩, fun e3 => ?_⟩
  ·rw [e3, aa7] at ho
   rw [e2]
   refine af.2 ⟨fun e4 => ?_, fun e4 => ho⟩
   rw [aa0] at e4
   rw [vG _ _ e4] at ho
   exact ho
  ·rw [e3, aa5] at ho
   exact ho
noncomputable def Ly (κ : Kp) : Env := (OL κ).ar 32 (a8 Ba ni xn)
theorem VQ (κ : Kp) : aw (Ly κ) := (V2 κ).ar (UR κ) (Yu κ)
theorem UM (κ : Kp) : ai (Ly κ) := (UR κ).ar aJ
abbrev JF (x : lU) : S := sp 43 [(1, .ptr 0 0 [] 0), (6, .int x.i)] [wc x]
theorem Zu (κ : Kp) (x : lU) (I : Nat → S → Prop) (n : Nat) (K : Exit → S → Prop) : (vc (Ly κ) 12 13 none 0 (ag (Pr κ).toProgram 13 5) (JF x) (bC (Ly κ) 13 5 0 I n K)) = (
 letI z1 := decide ((0 : Int) ≤ x.i) && decide (x.i < (↑(x.rs.length) : Int))
 letI z2 := nth x.rs x.i.toNat
 letI z3 := toInt (ad z2 2)
 ax (decide (x.i < (↑(x.rs.length) : Int))) (aZ z1 (∃ (a : b5), ([AV.agg [AV.agg [AV.str (toStr (ad (ad z2 0) 0)), AV.ae 52 (ah (ad (ad z2 0) 1))], AV.ae 55 (ah
 (ad z2 1)), AV.int z3]], az) = ([aF a], az) ∧ (aH (aa (aX 52 a.hl a.bl)) ≤ 100000 ∧ a.bl.length ≤ 100000) ∧ ax (aG (aL a)) (ax (iw (aL a)) (∃ (m : Nat), m < n ∧
 I m (sp 43 [(1, AV.ptr 0 0 [] 0), (6, AV.int (IntKind.wrap IntKind.i64 (x.i + (1 : Int))))] [Obj.box 25 (AV.agg [AV.ae 62 x.ds, AV.ae 41 x.rs])])) (aZ z1 (K
 Exit.ret (sp 43 [(2, AV.int z3), (3, AV.int 60)] [])))) (aZ z1 (K Exit.ret (sp 43 [(2, AV.int z3), (3, AV.int 30)] []))))) (K (Exit.exit 0) (sp 43 [] []))) := by kernel_rfl
def AR (x : lU) : Out (Exit × S) := .ax (decide ((oA gf x).2 = 0)) (.one (.exit 0, sp 43 [] [])) (.one (.ret, sp 43 [(2, .int (oA gf x).1), (3, .int (oA gf x).2)] []))
theorem WU (κ : Kp) : bg (Ly κ) 12 13 5 (aK 0 JF jt AR) := by
 refine aO (fun x => x.rs.length - x.i.toNat) ?_
 rintro ⟨ds, rs, i⟩ K ⟨h1, h2, h3⟩ ho
 simp only at h1 h2 h3
 rw [show (Ly κ).P = Pr κ from rfl]
 refine Eq.mpr (Zu κ ⟨ds, rs, i⟩ _ _ K) ?_
 have hml := h1.2.1
 simp only [aI] at hml
 simp only [AR, Out.run, af] at ho
 rw [af, aa0, aa2, aq, aa1, aa0, aa0]
 refine ⟨fun hi => ⟨⟨h2, hi⟩, jF (nth rs i.toNat), rfl, ?_, ?_⟩, fun hi => ?_⟩
 ·simp only at hi
  exact h1.2.2 _ (by rw [bx _ _ (show i.toNat < rs.length by omega)]; exact List.getElem_mem _)
 ·simp only at hi
  have hk : i.toNat < rs.length := by omega
  rw [tc _ _ _ _ h2 hk] at ho
  have hb : (decide (0 ≤ i) && decide (i < (rs.length : Int))) = true := by rw [aa6 h2, aa6 hi]; rfl
  have next : gf (nth rs i.toNat) = 0 → ∃ m, m < rs.length - i.toNat ∧ fp JF jt AR (fun x => x.rs.length - x.i.toNat) K m (JF ⟨ds, rs, i + 1⟩) := fun e => by
   rw [e] at ho
   refine ⟨_, ?_, ⟨ds, rs, i + 1⟩, rfl, ⟨h1, by simp only; omega, by simp only; omega⟩, rfl, ?_⟩
   ·simp only; omega
   ·simp only [AR, Out.run, af]
    exact ho
  have stop : ∀ e : Int, gf (nth rs i.toNat) = e → e ≠ 0 → K .ret (sp 43 [(2, .int (toInt (ad (nth rs i.toNat) 2))), (3, .int e)] []) := fun e he h0 => by
   rw [he, aa4 h0] at ho
   exact ho.2 (aa4 h0)
  rw [aU (n := i + 1) (by omega) (by omega)]
  have ht : gf (nth rs i.toNat) = bif aG (aL (jF (nth rs i.toNat))) then bif iw (aL (jF (nth rs i.toNat))) then 0 else 60 else 30 := rfl
  refine af.2 ⟨fun e1 => ?_, fun e1 => ?_⟩
  ·rw [e1, aa7] at ht
   refine af.2 ⟨fun e2 => next (by rw [ht, e2]; rfl), fun e2 => aq.2 ⟨hb, stop 60 (by rw [ht, e2]; rfl) (by decide)⟩⟩
  ·rw [e1, aa5] at ht
   exact aq.2 ⟨hb, stop 30 ht (by decide)⟩
 ·simp only at hi
  rw [tn _ _ _ _ (by omega)] at ho
  exact ho.1 rfl
noncomputable def PA (κ : Kp) : Env := (Ly κ).aj 13 5 (aK 0 JF jt AR)
theorem XZ (κ : Kp) : aw (PA κ) := (VQ κ).aj (UM κ) (WU κ)
theorem TL (κ : Kp) : ai (PA κ) := (UM κ).aj aE
theorem Y7 (κ : Kp) (ds rs : List AV) (K : AV → List Dn.Obj → Prop) : (a9 (PA κ) 12 13 [JK ds rs] [] K) = (
 letI z1 := Pg.toProgram (Env.P (Ly κ))
 ∃ (a : LU), ([AV.agg [AV.ae 62 ds, AV.ae 41 rs]], az) = ([AV.agg [AV.ae 62 a.1, AV.ae 41 a.2]], az) ∧ (a.1.length ≤ 9223372036854775807 ∧ a.2.length ≤
 9223372036854775807 ∧ ∀ (x : AV), List.Mem x a.2 → aH (aa (aX 52 (b5.hl (jF x)) (b5.bl (jF x)))) ≤ 100000 ∧ List.length (b5.bl (jF x)) ≤ 100000) ∧ ax (Prod.snd
 (ov a.1 a.2) != (0 : Int)) (K (AV.bR [AV.int (Prod.fst (ov a.1 a.2)), AV.int (Prod.snd (ov a.1 a.2))]) []) (ag z1 13 5 = ag z1 13 5 ∧ ∃ (a : lU), sp 43 [(1,
 AV.ptr 0 0 [] 0), (6, AV.int 0)] [Obj.box 25 (AV.agg [AV.ae 62 ds, AV.ae 41 rs])] = sp 43 [(1, AV.ptr 0 0 [] 0), (6, AV.int a.i)] [Obj.box 25 (AV.agg [AV.ae 62
 a.ds, AV.ae 41 a.rs])] ∧ ((a.ds.length ≤ 9223372036854775807 ∧ a.rs.length ≤ 9223372036854775807 ∧ ∀ (x : AV), List.Mem x a.rs → aH (aa (aX 52 (b5.hl (jF x))
 (b5.bl (jF x)))) ≤ 100000 ∧ List.length (b5.bl (jF x)) ≤ 100000) ∧ (0 : Int) ≤ a.i ∧ a.i ≤ (↑(a.rs.length) : Int)) ∧ ax (decide (Prod.snd (oA gf a) = (0 :
 Int))) (K (AV.bR [AV.int 0, AV.int 0]) []) (K (AV.bR [AV.int (Prod.fst (oA gf a)), AV.int (Prod.snd (oA gf a))]) []))) := by kernel_rfl
theorem Xu (κ : Kp) : bJ (PA κ) 12 13 (a8 Ba ni wV) := by
 refine bh ?_
 rintro ⟨ds, rs⟩ K h1 ho
 have h1 : qa ds rs := h1
 refine Eq.mpr (Y7 κ ds rs K) ?_
 simp only [wV, Out.run, zT] at ho
 refine ⟨(ds, rs), rfl, h1, ?_⟩
 simp only [sD]
 have e2 : oA gf ⟨ds, rs, 0⟩ = Gz gf rs := rfl
 refine af.2 ⟨fun e => ?_, fun e => ?_⟩
 ·rw [show decide ((ov ds rs).2 = 0) = false by simpa using e] at ho
  exact ho
 ·rw [show decide ((ov ds rs).2 = 0) = true by simpa using e] at ho
  refine ⟨trivial, ⟨ds, rs, 0⟩, rfl, ⟨h1, by simp only; omega, by simp only; omega⟩, ?_⟩
  rw [e2]
  refine af.2 ⟨fun e4 => ?_, fun e4 => ho⟩
  rw [aa0] at e4
  rw [aa7, vG _ _ e4] at ho
  exact ho
noncomputable def RB (κ : Kp) : Env := (PA κ).ar 13 (a8 Ba ni wV)
theorem eGs (κ : Kp) : aw (RB κ) := (XZ κ).ar (TL κ) (Xu κ)
theorem Zs (κ : Kp) : ai (RB κ) := (TL κ).ar aJ
theorem W0 (κ : Kp) (ds rs : List AV) (K : AV → List Dn.Obj → Prop) : (a9 (RB κ) 12 3 [JK ds rs] [] K) = (
 aZ (decide (ds.length ≤ 9223372036854775807) && List.all ds fun (d : AV) => decide (List.length (ah (ad d 1)) ≤ 9223372036854775807)) (ax ((bif kL ds
 rs then (1 : Int) else (0 : Int)) == (0 : Int)) (K (AV.bool true) []) (∃ (a : LU), ([AV.agg [AV.ae 62 ds, AV.ae 41 rs]], az) = ([AV.agg [AV.ae 62 a.1,
 AV.ae 41 a.2]], az) ∧ (a.1.length ≤ 9223372036854775807 ∧ a.2.length ≤ 9223372036854775807 ∧ ∀ (x : AV), List.Mem x a.2 → aH (aa (aX 52 (b5.hl
 (jF x)) (b5.bl (jF x)))) ≤ 100000 ∧ List.length (b5.bl (jF x)) ≤ 100000) ∧ ∃ (a_1 : LU), ([AV.agg [AV.ae 62 ds, AV.ae 41 rs]], az) = ([AV.agg [AV.ae
 62 a_1.1, AV.ae 41 a_1.2]], az) ∧ (a_1.1.length ≤ 9223372036854775807 ∧ a_1.2.length ≤ 9223372036854775807 ∧ ∀ (x : AV), List.Mem x a_1.2 → aH (aa
 (aX 52 (b5.hl (jF x)) (b5.bl (jF x)))) ≤ 100000 ∧ List.length (b5.bl (jF x)) ≤ 100000) ∧ ax (Prod.fst (zT a.1 a.2) == Prod.fst (zT a_1.1 a_1.2))
 (K (AV.bool (Prod.snd (zT a.1 a.2) == Prod.snd (zT a_1.1 a_1.2))) []) (K (AV.bool false) [])))) := by kernel_rfl
theorem A5 {ds rs : List AV} (h : kL ds rs = true) : qa ds rs := by
 simp only [kL, aa1, aa0] at h
 obtain ⟨_, h1, h2, h3⟩ := h
 refine ⟨by simp only [aI]; omega, by simp only [aI]; omega, fun x hx => ?_⟩
 have hc := xv (rs.map uM) 2000 (by omega) h1 (uM x) (List.mem_map_of_mem hx)
 have e : uM x = aL (jF x) := rfl
 rw [e, fo] at hc
 have hc : uG (aL (jF x)) + (jF x).bl.length ≤ 2000 := by omega
 refine ⟨?_, by omega⟩
 rw [pG 52 (jF x).rel (jF x).hl (jF x).bl]
 have : uG (aL (jF x)) ≤ 2000 := by omega
 exact Nat.le_trans this (by omega)
theorem Ot (κ : Kp) (ds rs : List AV) (h1 : ds.length ≤ aI) (h2 : ∀ d, d ∈ ds → (ah (ad d 1)).length ≤ aI) : dz (Pr κ) 3 [JK ds rs] [] (fun r _ => r = .bool true) := by
 refine jR (eGs κ) (Zs κ) (N := 12) ?_
 refine Eq.mpr (W0 κ ds rs _) ?_
 refine aq.2 ⟨?_, ?_⟩
 ·rw [aa1, aa0, List.all_eq_true]
  exact ⟨h1, fun d hd => aa6 (h2 d hd)⟩
 ·cases hs : kL ds rs with
  | false => rfl
  | true =>
   have h := A5 hs
   refine ⟨(ds, rs), rfl, h, (ds, rs), rfl, h, ?_⟩
   rw [beq_self_eq_true, beq_self_eq_true]
   rfl
end Go.Proofs.YtdpmikfheebicaaGreatDoor
namespace Go.Proofs.YtdpmikfheebicaaGreatDoor
open Go Go.Dn Go.Rl Go.Proofs Go.ChangeShapes Go.WideShapes Go.ChangeAt Go.RowKit
theorem own : ownKnob Tryz.prog.godebug = none := by kernel_rfl
theorem Jg : laidOutB Tryz.prog = true := by kernel_rfl
abbrev Hk : List (String × DataW Unit) := [("sorites/dtree.errTree", Rows.laid_sorites_dtree_errTree), ("sorites/dtype.errNoRel", Rows.laid_sorites_dtype_errNoRel), ("sorites/dtype.errArity", Rows.laid_sorites_dtype_errArity), ("sorites/dtype.errType", Rows.laid_sorites_dtype_errType), ("sorites/dsafe.errStuck", Rows.laid_sorites_dsafe_errStuck)]
theorem LX : Tryz.prog.globalNamed "sorites/dtree.errTree" = some 1 := by kernel_rfl
theorem Cq : Tryz.prog.globalNamed "sorites/dtype.errNoRel" = some 3 := by kernel_rfl
theorem CO : Tryz.prog.globalNamed "sorites/dtype.errArity" = some 4 := by kernel_rfl
theorem GR : Tryz.prog.globalNamed "sorites/dtype.errType" = some 2 := by kernel_rfl
theorem Ik : Tryz.prog.globalNamed "sorites/dsafe.errStuck" = some 0 := by kernel_rfl
theorem M7 : (Tryz.prog.globals[1]?).map (·.type) = some 88 := by kernel_rfl
theorem Et : (Tryz.prog.globals[3]?).map (·.type) = some 88 := by kernel_rfl
theorem Eh : (Tryz.prog.globals[4]?).map (·.type) = some 88 := by kernel_rfl
theorem Hu : (Tryz.prog.globals[2]?).map (·.type) = some 88 := by kernel_rfl
theorem Lo : (Tryz.prog.globals[0]?).map (·.type) = some 88 := by kernel_rfl
theorem xX : Tryz.prog.cellsOf 215 = 1 := by kernel_rfl
theorem xR : Tryz.prog.cellsOf 9 = 1 := by kernel_rfl
theorem LR : "*" ++ "errors.errorString" = "*errors.errorString" := by decide
theorem K4 (u : TypeId) (h : Tryz.prog.typeName? 3 u = some "*errors.errorString") : u = 189 :=
 typeName_ptr_named (nm := "errors.errorString") (by rw [LR]; kernel_rfl) (by kernel_rfl) (by decide) u (by rw [LR]; exact h)
theorem ll {P : Program} {w : World} {n : String} {g : Nat} {cs : Array Value} (hg : P.globalNamed n = some g) (h : w.var? P n = some cs) : ∃ T z, w.heap[g]? = some (.cells cs T z) := by
 simp only [World.var?, hg, Option.bind_some] at h
 split at h
 ·rename_i cs' T z e
  cases h
  exact ⟨T, z, e⟩
 ·cases h
theorem nP {W : World} {a : Addr} {s : ByteArray} {g : Nat} {v : Value} {T : TypeId} {z : Nat × Nat} (h : W.cell? a = some (.string s)) (hv : ∀ t, v ≠ .string t) (hg : W.heap[g]? = some (.cells #[v] T z)) : a.block ≠ g := by
 intro e
 unfold World.cell? at h
 rw [e, hg] at h
 simp only at h
 split at h
 ·cases h
 ·obtain ⟨h1, h2⟩ := Array.getElem?_eq_some_iff.1 h
  have : a.off = 0 := by simp at h1; omega
  simp only [this] at h2
  exact hv s h2
theorem za {W : World} (h : laidMetH Tryz.prog Hk W) : ∃ κ : Kp, ∀ b o, xz κ b = some o → W.heap[b]? = some o := by
 have h' : laidMet Tryz.prog Hk W := h
 obtain ⟨aT, aN, sT, sN, cT, cN, tT, tN, vT, vN, kT, xT, _, kN, xN, _, dTN, bT, bN⟩ := laid_sentinels2 h' LX M7 Cq Et Tryz.underlying88 K4 Tryz.underlying189 Tryz.underlying215 rfl rfl Tryz.underlying9 xX xR
 obtain ⟨aN', aA, sN', sA, cN', cA, tN', tA, vN', vA, kN', _, _, kA, xA, _, dNA, _, bA⟩ := laid_sentinels2 h'.tail Cq Et CO Eh Tryz.underlying88 K4 Tryz.underlying189 Tryz.underlying215 rfl rfl Tryz.underlying9 xX xR
 obtain ⟨aA', aY, sA', sY, cA', cY, tA', tY, vA', vY, kA', _, _, kY, xY, _, dAY, _, bY⟩ := laid_sentinels2 h'.tail.tail CO Eh GR Hu Tryz.underlying88 K4 Tryz.underlying189 Tryz.underlying215 rfl rfl Tryz.underlying9 xX xR
 obtain ⟨aY', aS, sY', sS, cY', cS, tY', tS, vY', vS, kY', _, _, kS, xS, _, dYS, _, bS⟩ := laid_sentinels2 h'.tail.tail.tail GR Hu Ik Lo Tryz.underlying88 K4 Tryz.underlying189 Tryz.underlying215 rfl rfl Tryz.underlying9 xX xR
 have eN : aN' = aN := by
  rw [vN] at vN'
  simpa using vN'.symm
 have eA : aA' = aA := by
  rw [vA] at vA'
  simpa using vA'.symm
 subst eN
 subst eA
 have dNY : aN' ≠ aY := fun e => by
  subst e
  rw [kN] at kY
  cases kY
  rw [xN] at xY
  revert xY
  decide
 obtain ⟨T1, z1, e1⟩ := ll LX vT
 obtain ⟨T2, z2, e2⟩ := ll Ik vS
 obtain ⟨T3, z3, e3⟩ := ll Cq vN
 obtain ⟨T4, z4, e4⟩ := ll CO vA
 obtain ⟨T5, z5, e5⟩ := ll GR vY
 have nn : ∀ {a : Addr} {s : ByteArray}, W.cell? a = some (.string s) → ∀ g, g ∈ [1, 0, 3, 4, 2] → a.block ≠ g := fun hk g hg => by
  simp only [List.mem_cons, List.not_mem_nil, or_false] at hg
  rcases hg with rfl | rfl | rfl | rfl | rfl
  ·exact nP hk (fun _ => by simp) e1
  ·exact nP hk (fun _ => by simp) e2
  ·exact nP hk (fun _ => by simp) e3
  ·exact nP hk (fun _ => by simp) e4
  ·exact nP hk (fun _ => by simp) e5
 refine ⟨{ tree := aT, stuck := aS, T1 := T1, T2 := T2, z1 := z1, z2 := z2, fw := aN', arity := aA', type := aY, T3 := T3, T4 := T4, T5 := T5, z3 := z3, z4 := z4, z5 := z5, c3 := cN, c4 := cA, c5 := cY, t3 := tN, t4 := tA, t5 := tY, d1 := dNA, d2 := dNY, d3 := dAY, n3 := nn kN, n4 := nn kA, n5 := nn kY }, fun b o hb => ?_⟩
 unfold xz at hb
 cases q0 : Nat.beq b 1 with
 | true =>
  rw [q0, aa7] at hb
  cases hb
  rw [Nat.eq_of_beq_eq_true q0]; exact e1
 | false =>
  rw [q0, aa5] at hb
  cases q1 : Nat.beq b 0 with
  | true =>
   rw [q1, aa7] at hb
   cases hb
   rw [Nat.eq_of_beq_eq_true q1]; exact e2
  | false =>
   rw [q1, aa5] at hb
   cases q2 : Nat.beq b 3 with
   | true =>
    rw [q2, aa7] at hb
    cases hb
    rw [Nat.eq_of_beq_eq_true q2]; exact e3
   | false =>
    rw [q2, aa5] at hb
    cases q3 : Nat.beq b 4 with
    | true =>
     rw [q3, aa7] at hb
     cases hb
     rw [Nat.eq_of_beq_eq_true q3]; exact e4
    | false =>
     rw [q3, aa5] at hb
     cases q4 : Nat.beq b 2 with
     | true =>
      rw [q4, aa7] at hb
      cases hb
      rw [Nat.eq_of_beq_eq_true q4]; exact e5
     | false =>
      rw [q4, aa5] at hb
      cases q5 : Nat.beq b aN'.block with
      | true =>
       rw [q5, aa7] at hb
       cases hb
       rw [Nat.eq_of_beq_eq_true q5]; exact bN
      | false =>
       rw [q5, aa5] at hb
       cases q6 : Nat.beq b aA'.block with
       | true =>
        rw [q6, aa7] at hb
        cases hb
        rw [Nat.eq_of_beq_eq_true q6]; exact bA
       | false =>
        rw [q6, aa5] at hb
        cases q7 : Nat.beq b aY.block with
        | true =>
         rw [q7, aa7] at hb
         cases hb
         rw [Nat.eq_of_beq_eq_true q7]; exact bY
        | false =>
         rw [q7, aa5] at hb
         cases hb
abbrev PC : ByteArray := { data := #[110, 111, 32, 116, 114, 101, 101] }
abbrev MS : ByteArray := { data := #[110, 111, 32, 114, 101, 108, 97, 116, 105, 111, 110] }
abbrev Nz : ByteArray := { data := #[97, 110, 111, 116, 104, 101, 114, 32, 110, 117, 109, 98, 101, 114, 32, 111, 102, 32, 99, 111, 108, 117, 109, 110, 115] }
abbrev O4 : ByteArray := { data := #[97, 110, 111, 116, 104, 101, 114, 32, 116, 121, 112, 101] }
abbrev M5 : ByteArray := { data := #[110, 111, 32, 112, 97, 114, 116, 32, 105, 115, 32, 114, 101, 97, 100, 121] }
noncomputable def low : Nat := (World.holding Tryz.prog default ⟨#[], #[], []⟩).heap.size
def Ig (n : Nat) (h : Array Go.Obj) (g : Nat) : Array Go.Obj := h.modify g fun
 | .cells _ t frozen => .cells #[.iface 189 (.pointer (some ⟨n, 0, none⟩))] t frozen
 | o => o
noncomputable def wB (os : Os) : World :=
 let w0 := World.holding Tryz.prog os ⟨#[.cells #[.string PC] 215, .cells #[.string MS] 215, .cells #[.string Nz] 215, .cells #[.string O4] 215, .cells #[.string M5] 215], #[], []⟩
 {w0 with heap := (Ig (low + 4) (Ig (low + 3) (Ig (low + 2) (Ig (low + 1) (Ig (low + 0) w0.heap 1) 3) 4) 2) 0) }
theorem Hy (os : Os) (args : Array Value) : laidMetH Tryz.prog Hk ((wB os).forCall (fun _ _ => 0) ⟨#[], args, []⟩).memory :=
 laidMetH_of_parts (laidMet_of_run (ps := [.cell 1 0, .cell (low + 0) 0, .cell 3 0, .cell (low + 1) 0, .cell 4 0, .cell (low + 2) 0, .cell 2 0, .cell (low + 3) 0, .cell 0 0, .cell (low + 4) 0]) 8 (by kernel_rfl) (by kernel_rfl) (by kernel_rfl)) (by kernel_rfl)
end Go.Proofs.YtdpmikfheebicaaGreatDoor
