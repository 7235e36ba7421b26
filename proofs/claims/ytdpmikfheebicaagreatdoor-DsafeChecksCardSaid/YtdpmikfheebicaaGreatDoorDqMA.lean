import Derived.Test.YtdpmikfheebicaaGreatDoorDqM9
namespace Go.Rl
open Go Go.Dn
theorem pk (s : ByteArray) : ∀ (V : List ByteArray) (i : Int), s ∈ V → bm s (strs V) i = i + (xb V s : Int)
 | [], _, h => by cases h
 | v :: V, i, h => by
  have e : strs (v :: V) = .lit (.string v) :: strs V := rfl
  rw [e, bm]
  unfold xb
  rw [List.findIdx_cons]
  cases h1 : gC s v with
  | true =>
   rw [show gC s (toStr (.lit (.string v))) = true from h1, aa7, aa7]; simp
  | false =>
   rw [show gC s (toStr (.lit (.string v))) = false from h1, aa5, aa5]
   have hm : s ∈ V := by
    rcases List.mem_cons.1 h with h2 | h2
    ·subst h2
     rw [sO.2 rfl] at h1; cases h1
    ·exact h2
   have := pk s V (i + 1) hm
   rw [this]
   unfold xb
   omega
def qb (f : ByteArray → Int) (s : ByteArray) : Int := f s
def MG (f : ByteArray → Int) (s : ByteArray) (k : Int) : ByteArray → Int := fun t => bif t == s then k else f t
theorem j3 (f : ByteArray → Int) (s : ByteArray) (k : Int) (t : ByteArray) : qb (MG f s k) t = bif t == s then k else qb f t := rfl
abbrev V3 (V : List ByteArray) (f : ByteArray → Int) (τ : List Int) : Prop := Alike qb (bk V) (fun s => s ∈ V) (fun τ => τ.length = V.length) f τ
theorem Pn {V : List ByteArray} {τ : List Int} (h : τ.length = V.length) : V3 V (bk V τ) τ := ⟨h, fun _ _ => rfl⟩
theorem mZ {V : List ByteArray} : ∀ (τ : List Int) (s : ByteArray) (k : Int), τ.length = V.length → s ∈ V → (eh V τ s k).length = V.length := fun τ s k h _ => by simpa [eh] using h
theorem nW {V : List ByteArray} (t : Tm) (w : Int) {τ : List Int} (h : τ.length = V.length) (hv : ∀ s, s ∈ t.vars → s ∈ V) : (t.bU (bk V) (eh V) w τ).2.length = V.length :=
 (Alike.bU j3 (fun st s k t h1 h2 h3 => lr V st s k t h1 h2 h3) mZ t w (Pn h) hv).2.1
theorem uZ {V : List ByteArray} (ws : List Int) (l : List Tm) {τ : List Int} (h : τ.length = V.length) (hv : ∀ s, s ∈ an l → s ∈ V) : (bs (bk V) (eh V) ws l τ).2.length = V.length :=
 (Alike.bs j3 (fun st s k t h1 h2 h3 => lr V st s k t h1 h2 h3) mZ ws l (Pn h) hv).2.1
theorem z8 {V : List ByteArray} (ds : List Dc) (l : Lt) {τ : List Int} (h : τ.length = V.length) (hv : ∀ s, s ∈ cx l → s ∈ V) : (b6 (bk V) (eh V) ds l τ).2.length = V.length :=
 (Alike.b6 j3 (fun st s k t h1 h2 h3 => lr V st s k t h1 h2 h3) mZ ds l (Pn h) hv).2.1
theorem px {V : List ByteArray} (ds : List Dc) (r : Rl) {τ : List Int} (h : τ.length = V.length) (hv : ∀ s, s ∈ cQ r → s ∈ V) : (bV (bk V) (eh V) ds r τ).2.length = V.length :=
 (Alike.bV j3 (fun st s k t h1 h2 h3 => lr V st s k t h1 h2 h3) mZ ds r (Pn h) hv).2.1
end Go.Rl
namespace Go.Proofs.YtdpmikfheebicaaGreatDoor
open Go Go.Dn Go.Rl Go.Proofs
attribute [local irreducible] a9 vc
set_option maxRecDepth 20000
theorem IE (τ : List Int) (k : Nat) (h : k < τ.length) : toInt (nth (iA τ) k) = τ.getD k 0 := by
 rw [bx _ _ (by rw [ff]; exact h), List.getD_eq_getElem?_getD, ab7 h]
 simp [iA, toInt]
theorem Fi (w : Int) : ∀ (τ : List Int) (k : Nat), cC (iA τ) k (.lit (.int .i64 w)) = iA (τ.set k w)
 | [], _ => rfl
 | _ :: _, 0 => rfl
 | a :: τ, k + 1 => by
  have := Fi w τ k
  simp only [iA] at this
  simp only [iA, ac2, cC, List.set_cons_succ, this]
structure lJ where
 V : List ByteArray
 τ : List Int
def JL (x : lJ) : Prop := x.V.length ≤ 1000000 ∧ x.τ.length = x.V.length
abbrev GB (x : lJ) : AV := .ae 9 (strs x.V)
abbrev NV (x : lJ) : AV := .a7 0 0 (iA x.τ).length
abbrev HP (x : lJ) : List Dn.Obj := [.row 3 (iA x.τ)]
theorem xu {x : lJ} (h : JL x) {s : ByteArray} (hs : s ∈ x.V) : bm s (strs x.V) 0 = (xb x.V s : Int) ∧ xb x.V s < x.τ.length ∧ toInt (nth (iA x.τ) (xb x.V s)) = bk x.V x.τ s := by
 have h1 := pk s x.V 0 hs
 have h2 := rA hs
 refine ⟨by rw [h1]; omega, by rw [h.2]; exact h2, ?_⟩
 rw [IE _ _ (by rw [h.2]; exact h2)]; rfl
theorem WA (κ : Kp) (t : AT) (vs bB : List AV) (K : AV → List Dn.Obj → Prop) : (a9 (Qk κ) 12 139 [cI t, .ae 9 vs, .a7 0 0 bB.length] [.row 3 bB] K) = (
 ax (t.op == (1 : Int)) (aZ (decide (vs.length ≤ 9223372036854775807)) (aZ (decide ((0 : Int) ≤ bm t.s vs (0 : Int)) && decide (bm t.s vs (0 : Int) <
 (↑(bB.length) : Int))) (K (AV.int (toInt (nth bB (0 + Int.toNat (bm t.s vs (0 : Int)))))) [Obj.row 3 bB]))) (ax (t.op == (3 : Int)) (K (AV.int 2)
 [Obj.row 3 bB]) (ax (t.op == (4 : Int)) (K (AV.int 0) [Obj.row 3 bB]) (K (AV.int 1) [Obj.row 3 bB])))) := by kernel_rfl
abbrev ON := AT × lJ
def QF (a : ON) : List AV × List Dn.Obj := ([cI a.1, GB a.2, NV a.2], HP a.2)
def HZ (a : ON) : Prop := JL a.2 ∧ (a.1.op = 1 → a.1.s ∈ a.2.V)
def L1 (a : ON) : Out (AV × List Dn.Obj) := .one (.int (a5 (bk a.2.V) a.1.tm a.2.τ), HP a.2)
theorem WY (κ : Kp) : bJ (Qk κ) 12 139 (a8 QF HZ L1) := by
 refine bh ?_
 rintro ⟨t, x⟩ K ⟨h1, h2⟩ ho
 simp only at h1 h2
 refine Eq.mpr (WA κ t (strs x.V) (iA x.τ) K) ?_
 have ho : K (.int (a5 (bk x.V) t.tm x.τ)) (HP x) := ho
 have e : a5 (bk x.V) t.tm x.τ = bif decide (t.op = 1) then bk x.V x.τ t.s else bif decide (t.op = 3) then 2 else bif decide (t.op = 4) then 0 else 1 := rfl
 rw [e] at ho
 simp only [Fo]
 have hml := h1.1
 cases h : decide (t.op = 1) with
 | true =>
  rw [h, aa7] at ho
  obtain ⟨p1, p2, p3⟩ := xu h1 (h2 (by simpa using h))
  rw [p1, Int.toNat_natCast, Nat.zero_add, p3, aM, ff]
  exact aq.2 ⟨by simp; omega, aq.2 ⟨by simp; omega, ho⟩⟩
 | false =>
  rw [h] at ho
  cases h3 : decide (t.op = 3) with
  | true => rw [h3] at ho; exact ho
  | false =>
   rw [h3] at ho
   cases h4 : decide (t.op = 4) with
   | true => rw [h4] at ho; exact ho
   | false => rw [h4] at ho; exact ho
noncomputable def QT (κ : Kp) : Env := (Qk κ).ar 139 (a8 QF HZ L1)
theorem UQ (κ : Kp) : aw (QT κ) := (V9 κ).ar (UH κ) (WY κ)
theorem Vf (κ : Kp) : ai (QT κ) := (UH κ).ar aJ
structure Fv where
 t : AT
 w : Int
 x : lJ
def fV (a : Fv) : Bool × List Int := a.t.tm.bU (bk a.x.V) (eh a.x.V) a.w a.x.τ
def zF (a : Fv) : List AV × List Dn.Obj := ([cI a.t, .int a.w, GB a.x, NV a.x], HP a.x)
def Ml (n : Nat) (a : Fv) : Prop := a.t.tm.gF = n ∧ n ≤ 100000 ∧ JL a.x ∧ ∀ s, s ∈ a.t.tm.vars → s ∈ a.x.V
def Ji (a : Fv) : Out (AV × List Dn.Obj) := .one (.bool (fV a).1, HP ⟨a.x.V, (fV a).2⟩)
def IL (n : Nat) : ez := a8 zF (Ml n) Ji
noncomputable def LC (κ : Kp) (r : Nat) : Env := (QT κ).ar 138 fun args st K => ∃ m, m < r ∧ IL m args st K
theorem Wb (κ : Kp) (r : Nat) (t : AT) (vs bB : List AV) (more : Bool) (i : Int) (I : Nat → S → Prop) (n : Nat) (K : Exit → S → Prop) : (vc (LC κ r) 12 138 none 1 (ag (Pr κ).toProgram 138 9) (sp 53 [(2, .ae 9 vs), (3, .a7 0 0 bB.length), (4, .ptr 1 0 [] 0), (10, .bool more), (11, .int i)] [.row 3 bB, .box 52 (cI t)]) (bC (LC κ r) 138 9 1 I n K)) = (
 letI z1 := nth t.l i.toNat
 letI z2 := IntKind.wrap IntKind.i64 (i + (1 : Int))
 ax (decide (i < (↑(t.l.length) : Int))) (aZ (decide ((0 : Int) ≤ i) && decide (i < (↑(t.l.length) : Int))) (∃ (m : Nat), m < r ∧ ∃ (a : Fv), ([AV.agg [AV.int (toInt (ad z1 0)), AV.str (toStr (ad z1 1)), AV.int (toInt (ad z1 2)), AV.ae 52 (ah (ad z1 3))], AV.int 1, AV.ae 9 vs, AV.a7 0 0 bB.length], [Obj.row 3 bB]) = ([AV.agg [AV.int a.t.op, AV.str a.t.s, AV.int a.t.n, AV.ae 52 a.t.l], AV.int a.w, AV.ae 9 (strs a.x.V), AV.a7 0 0 (List.length (iA a.x.τ))], [Obj.row 3 (iA a.x.τ)]) ∧ (Tm.gF (AT.tm a.t) = m ∧ m ≤ 100000 ∧ (List.length a.x.V ≤ 1000000 ∧ List.length a.x.τ = List.length a.x.V) ∧ ∀ (s : ByteArray), List.Mem s (Tm.vars (AT.tm a.t)) → List.Mem s a.x.V) ∧ ax more (∃ (m : Nat), m < n ∧ I m (sp 53 [(2, AV.ae 9 vs), (3, AV.a7 0 0 bB.length), (4, AV.ptr 1 0 [] 0), (10, AV.bool true), (11, AV.int z2)] [Obj.row 3 (iA (lJ.τ { V := a.x.V, τ := Prod.snd (fV a) })), Obj.box 52 (AV.agg [AV.int t.op, AV.str t.s, AV.int t.n, AV.ae 52 t.l])])) (∃ (m : Nat), m < n ∧ I m (sp 53 [(2, AV.ae 9 vs), (3, AV.a7 0 0 bB.length), (4, AV.ptr 1 0 [] 0), (10, AV.bool (Prod.fst (fV a))), (11, AV.int z2)] [Obj.row 3 (iA (lJ.τ { V := a.x.V, τ := Prod.snd (fV a) })), Obj.box 52 (AV.agg [AV.int t.op, AV.str t.s, AV.int t.n, AV.ae 52 t.l])])))) (K (Exit.exit 0) (sp 53 [(10, AV.bool more)] [Obj.row 3 bB]))) := by kernel_rfl
structure QE where
 t : AT
 x : lJ
 more : Bool
 i : Int
abbrev Mn (a : QE) : S := sp 53 [(2, GB a.x), (3, NV a.x), (4, .ptr 1 0 [] 0), (10, .bool a.more), (11, .int a.i)] (HP a.x ++ [.box 52 (cI a.t)])
def DF (a : QE) : Bool × List Int := cg (bk a.x.V) (eh a.x.V) (aa (a.t.l.drop a.i.toNat)) a.x.τ
def B4 (r : Nat) (a : QE) : Prop := a.t.l.length ≤ aI ∧ JL a.x ∧ 0 ≤ a.i ∧ a.i ≤ a.t.l.length ∧ aH (aa (a.t.l.drop a.i.toNat)) < r ∧ aH (aa (a.t.l.drop a.i.toNat)) ≤ 100000 ∧ ∀ s, s ∈ an (aa (a.t.l.drop a.i.toNat)) → s ∈ a.x.V
def BG (a : QE) : Out (Exit × S) := .one (.exit 0, sp 53 [(10, .bool (a.more || (DF a).1))] [.row 3 (iA (DF a).2)])
theorem lLe (κ : Kp) (r : Nat) : bg (LC κ r) 12 138 9 (aK 1 Mn (B4 r) BG) := by
 refine aO (fun a => a.t.l.length - a.i.toNat) ?_
 rintro ⟨t, x, more, i⟩ K ⟨h1, h0, h2, h3, h4, h5, h6⟩ ho
 simp only at h1 h0 h2 h3 h4 h5 h6
 rw [show (LC κ r).P = Pr κ from rfl]
 refine Eq.mpr (Wb κ r t (strs x.V) (iA x.τ) more i _ _ K) ?_
 simp only [aI] at h1
 simp only [BG, Out.run] at ho
 rw [af, aa0, aa2]
 refine ⟨fun hi => ?_, fun hi => ?_⟩
 ·have hk : i.toNat < t.l.length := by omega
  have e := cy t.l i.toNat hk
  rw [e, aH] at h4 h5
  have hv : ∀ s, s ∈ (bI (nth t.l i.toNat)).vars → s ∈ x.V := fun s hs => h6 s (by rw [e, an]; exact ab5 _ hs)
  have hv2 : ∀ s, s ∈ an (aa (t.l.drop (i.toNat + 1))) → s ∈ x.V := fun s hs => h6 s (by rw [e, an]; exact ab4 _ hs)
  have ely : fV ⟨kp (nth t.l i.toNat), 1, x⟩ = (bI (nth t.l i.toNat)).bU (bk x.V) (eh x.V) 1 x.τ := by
   unfold fV; rw [fm]
  have hlen : (fV ⟨kp (nth t.l i.toNat), 1, x⟩).2.length = x.V.length := by rw [ely]; exact nW _ 1 h0.2 hv
  have hd : DF ⟨t, x, more, i⟩ = ((fV ⟨kp (nth t.l i.toNat), 1, x⟩).1 || (DF ⟨t, ⟨x.V, (fV ⟨kp (nth t.l i.toNat), 1, x⟩).2⟩, more, i + 1⟩).1, (DF ⟨t, ⟨x.V, (fV ⟨kp (nth t.l i.toNat), 1, x⟩).2⟩, more, i + 1⟩).2) := by
   rw [ely]
   unfold DF
   simp only [show (i + 1).toNat = i.toNat + 1 by omega]
   rw [e, cg]
  have next : ∀ b : Bool, b = (more || (fV ⟨kp (nth t.l i.toNat), 1, x⟩).1) → ∃ m, m < t.l.length - i.toNat ∧ fp Mn (B4 r) BG (fun a => a.t.l.length - a.i.toNat) K m (sp 53 [(2, .ae 9 (strs x.V)), (3, .a7 0 0 (iA x.τ).length), (4, .ptr 1 0 [] 0), (10, .bool b), (11, .int (IntKind.wrap .i64 (i + 1)))] [.row 3 (iA (fV ⟨kp (nth t.l i.toNat), 1, x⟩).2), .box 52 (cI t)]) := fun b hb => by
   rw [aU (n := i + 1) (by omega) (by omega)]
   refine ⟨_, ?_, ⟨t, ⟨x.V, (fV ⟨kp (nth t.l i.toNat), 1, x⟩).2⟩, b, i + 1⟩, ?_, ⟨by simpa [aI] using h1, ⟨h0.1, hlen⟩, by simp only; omega, by simp only; omega, ?_, ?_, ?_⟩, rfl, ?_⟩
   ·simp only; omega
   ·rw [show (iA x.τ).length = (iA (fV ⟨kp (nth t.l i.toNat), 1, x⟩).2).length by rw [ff, ff, hlen, h0.2]]; rfl
   ·simp only [show (i + 1).toNat = i.toNat + 1 by omega]; omega
   ·simp only [show (i + 1).toNat = i.toNat + 1 by omega]; omega
   ·simp only [show (i + 1).toNat = i.toNat + 1 by omega]; exact hv2
   ·rw [hd] at ho
    simp only [BG, Out.run]
    have e3 : DF ⟨t, ⟨x.V, (fV ⟨kp (nth t.l i.toNat), 1, x⟩).2⟩, b, i + 1⟩ = DF ⟨t, ⟨x.V, (fV ⟨kp (nth t.l i.toNat), 1, x⟩).2⟩, more, i + 1⟩ := rfl
    rw [e3, hb, Bool.or_assoc]
    exact ho
  rw [aq, aa1, aa0, aa0]
  refine ⟨⟨h2, hi⟩, (bI (nth t.l i.toNat)).gF, by omega, ⟨kp (nth t.l i.toNat), 1, x⟩, rfl, ⟨by rw [fm], by omega, h0, by rw [fm]; exact hv⟩, ?_⟩
  rw [af]
  refine ⟨fun e1 => next true (by rw [e1]; rfl), fun e1 => next _ (by rw [e1]; rfl)⟩
 ·have hd : DF ⟨t, x, more, i⟩ = (false, x.τ) := by
   unfold DF
   simp only
   rw [aa8 (by omega)]; rfl
  rw [hd, Bool.or_false] at ho
  exact ho
noncomputable def NX (κ : Kp) (r : Nat) : Env := (LC κ r).aj 138 9 (aK 1 Mn (B4 r) BG)
theorem XV (κ : Kp) (r : Nat) (t : AT) (w : Int) (vs bB : List AV) (K : AV → List Dn.Obj → Prop) : (a9 (NX κ r) 12 138 [cI t, .int w, .ae 9 vs, .a7 0 0 bB.length] [.row 3 bB] K) = (
 letI z1 := (0 : Int)
 letI z2 := K (AV.bool false) [Obj.row 3 bB]
 letI z3 := Pg.toProgram (Env.P (LC κ r))
 ax (t.op == (1 : Int)) (aZ (decide (vs.length ≤ 9223372036854775807)) (ax (w == z1) z2 (aZ (decide (z1 ≤ bm t.s vs z1) && decide (bm t.s vs z1 < (↑(bB.length) :
 Int))) (ax (toInt (nth bB (0 + Int.toNat (bm t.s vs z1))) != z1) z2 (aZ (decide (z1 ≤ bm t.s vs z1) && decide (bm t.s vs z1 < (↑(bB.length) : Int))) (K (AV.bool
 true) [Obj.row 3 (cC bB (0 + Int.toNat (bm t.s vs z1)) (AV.int w))])))))) (ag z3 138 9 = ag z3 138 9 ∧ ∃ (a : QE), sp 53 [(2, AV.ae 9 vs), (3, AV.a7 0 0
 bB.length), (4, AV.ptr 1 0 [] 0), (10, AV.bool false), (11, AV.int 0)] [Obj.row 3 bB, Obj.box 52 (cI t)] = sp 53 [(2, AV.ae 9 (strs a.x.V)), (3, AV.a7 0 0
 (List.length (iA a.x.τ))), (4, AV.ptr 1 0 [] 0), (10, AV.bool a.more), (11, AV.int a.i)] [Obj.row 3 (iA a.x.τ), Obj.box 52 (cI a.t)] ∧ (List.length a.t.l ≤
 9223372036854775807 ∧ (List.length a.x.V ≤ 1000000 ∧ List.length a.x.τ = List.length a.x.V) ∧ z1 ≤ a.i ∧ a.i ≤ (↑(List.length a.t.l) : Int) ∧ aH (aa (List.drop
 a.i.toNat a.t.l)) < r ∧ aH (aa (List.drop a.i.toNat a.t.l)) ≤ 100000 ∧ ∀ (s : ByteArray), List.Mem s (an (aa (List.drop a.i.toNat a.t.l))) → List.Mem s a.x.V) ∧
 K (AV.bool (a.more || Prod.fst (DF a))) [Obj.row 3 (iA (Prod.snd (DF a)))])) := by kernel_rfl
theorem FY (n : Nat) : (IL n).ot := aJ
theorem W9 (κ : Kp) (r : Nat) (hp : ∀ args st K, (∃ m, m < r ∧ IL m args st K) → dz (Pr κ) 138 args st K) : aw (NX κ r) ∧ ai (NX κ r) ∧ (NX κ r).P = Pr κ :=
 have h : aw (LC κ r) := (UQ κ).iN hp
 have hm : ai (LC κ r) := (Vf κ).ar (fun _ _ _ _ hK ⟨m, h1, h2⟩ => ⟨m, h1, FY m _ _ _ _ hK h2⟩)
 ⟨h.aj hm (lLe κ r), hm.aj aE, rfl⟩
theorem Xk (κ : Kp) (r : Nat) : bJ (NX κ r) 12 138 (IL r) := by
 refine bh ?_
 rintro ⟨t, w, x⟩ K ⟨h1, h2, h3, h4⟩ ho
 simp only at h1 h3 h4
 refine Eq.mpr (XV κ r t w (strs x.V) (iA x.τ) K) ?_
 have ho : K (.bool (fV ⟨t, w, x⟩).1) [.row 3 (iA (fV ⟨t, w, x⟩).2)] := ho
 have e1 : t.tm.gF = 1 + aH (aa t.l) := rfl
 have hl := dh (aa t.l)
 rw [cL] at hl
 have hml := h3.1
 have hr : fV ⟨t, w, x⟩ = bif decide (t.op = 1) then (bif decide (w = 0) || !decide (bk x.V x.τ t.s = 0) then (false, x.τ) else (true, eh x.V x.τ t.s w)) else cg (bk x.V) (eh x.V) (aa t.l) x.τ := by
  unfold fV
  rw [AT.tm, Tm.bU]
 have hvars : t.tm.vars = (bif decide (t.op = 1) then [t.s] else []) ++ an (aa t.l) := rfl
 rw [hr] at ho
 simp only [Fo, sD]
 cases h : decide (t.op = 1) with
 | true =>
  rw [h, aa7] at ho
  rw [h] at hvars
  have hs : t.s ∈ x.V := h4 _ (by rw [hvars]; simp)
  obtain ⟨p1, p2, p3⟩ := xu h3 hs
  rw [p1, Int.toNat_natCast, Nat.zero_add, p3, aM, ff]
  refine aq.2 ⟨by simp; omega, ?_⟩
  cases hw : decide (w = 0) with
  | true => rw [hw] at ho; exact ho
  | false =>
   rw [hw, Bool.false_or] at ho
   refine aq.2 ⟨by simp; omega, ?_⟩
   cases hg : decide (bk x.V x.τ t.s = 0) with
   | false => rw [hg] at ho; exact ho
   | true =>
    rw [hg] at ho
    rw [Fi]
    exact aq.2 ⟨by simp; omega, ho⟩
 | false =>
  rw [h, aa5] at ho
  have hv : ∀ s, s ∈ an (aa t.l) → s ∈ x.V := fun s hs => h4 s (by rw [hvars]; exact ab4 _ hs)
  refine ⟨trivial, ⟨t, x, false, 0⟩, rfl, ⟨by simp only [aI]; omega, h3, by simp only; omega, by simp only; omega, by simp only [ab8, ab0]; omega, by simp only [ab8, ab0]; omega, by simp only [ab8, ab0]; exact hv⟩, ?_⟩
  have hd : DF ⟨t, x, false, 0⟩ = cg (bk x.V) (eh x.V) (aa t.l) x.τ := by
   unfold DF; simp only [ab8, ab0]
  rw [hd]
  exact ho
def JE (a : Fv) : Prop := a.t.tm.gF ≤ 100000 ∧ JL a.x ∧ ∀ s, s ∈ a.t.tm.vars → s ∈ a.x.V
theorem Wm (κ : Kp) : ∀ args st K, a8 zF JE Ji args st K → dz (Pr κ) 138 args st K := by
 rintro args st K ⟨a, h1, h2, h3⟩
 exact aw.qH IL (NX κ) (W9 κ) (Xk κ) a.t.tm.gF args st K ⟨a, h1, ⟨rfl, h2⟩, h3⟩
noncomputable def La (κ : Kp) : Env := (QT κ).ar 138 (a8 zF JE Ji)
theorem ZI (κ : Kp) : aw (La κ) := (UQ κ).iN (Wm κ)
theorem Tg (κ : Kp) : ai (La κ) := (Vf κ).ar aJ
structure P1 where
 ds : List AV
 rel : ByteArray
 l : List AV
 x : lJ
 fi : Int
 more : Bool
 i : Int
abbrev Ny (a : P1) : S := sp 49 [(0, .ae 62 a.ds), (2, GB a.x), (3, NV a.x), (5, .ptr 1 0 [] 0), (9, .int a.fi), (11, .bool a.more), (12, .int a.i)] (HP a.x ++ [.box 38 (.agg [.lit (.string a.rel), .ae 52 a.l])])
theorem ZW (κ : Kp) (ds : List AV) (rel : ByteArray) (l vs bB : List AV) (fi : Int) (more : Bool) (i : Int) (I : Nat → S → Prop) (n : Nat) (K : Exit → S → Prop) : (vc (La κ) 12 101 none 1 (ag (Pr κ).toProgram 101 4) (sp 49 [(0, .ae 62 ds), (2, .ae 9 vs), (3, .a7 0 0 bB.length), (5, .ptr 1 0 [] 0), (9, .int fi), (11, .bool more), (12, .int i)] [.row 3 bB, .box 38 (.agg [.lit (.string rel), .ae 52 l])]) (bC (La κ) 101 4 1 I n K)) = (
 letI z1 := IntKind.wrap IntKind.i64 (i + (1 : Int))
 letI z2 := nth l i.toNat
 letI z3 := AV.agg [AV.str rel, AV.ae 52 l]
 letI z4 := ah (ad (nth ds fi.toNat) 2)
 ax (decide (i < (↑(l.length) : Int))) (aZ (decide ((0 : Int) ≤ i) && decide (i < (↑(l.length) : Int))) (aZ (decide ((0 : Int) ≤ fi) && decide (fi < (↑(ds.length) : Int))) (aZ (decide ((0 : Int) ≤ i) && decide (i < (↑(List.length z4) : Int))) (∃ (a : Fv), ([AV.agg [AV.int (toInt (ad z2 0)), AV.str (toStr (ad z2 1)), AV.int (toInt (ad z2 2)), AV.ae 52 (ah (ad z2 3))], AV.lit (Value.int IntKind.i64 (toInt (nth z4 i.toNat))), AV.ae 9 vs, AV.a7 0 0 bB.length], [Obj.row 3 bB]) = ([AV.agg [AV.int a.t.op, AV.str a.t.s, AV.int a.t.n, AV.ae 52 a.t.l], AV.int a.w, AV.ae 9 (strs a.x.V), AV.a7 0 0 (List.length (iA a.x.τ))], [Obj.row 3 (iA a.x.τ)]) ∧ (Tm.gF (AT.tm a.t) ≤ 100000 ∧ (List.length a.x.V ≤ 1000000 ∧ List.length a.x.τ = List.length a.x.V) ∧ ∀ (s : ByteArray), List.Mem s (Tm.vars (AT.tm a.t)) → List.Mem s a.x.V) ∧ ax more (∃ (m : Nat), m < n ∧ I m (sp 49 [(0, AV.ae 62 ds), (2, AV.ae 9 vs), (3, AV.a7 0 0 bB.length), (5, AV.ptr 1 0 [] 0), (9, AV.int fi), (11, AV.bool true), (12, AV.int z1)] [Obj.row 3 (iA (lJ.τ { V := a.x.V, τ := Prod.snd (fV a) })), Obj.box 38 z3])) (∃ (m : Nat), m < n ∧ I m (sp 49 [(0, AV.ae 62 ds), (2, AV.ae 9 vs), (3, AV.a7 0 0 bB.length), (5, AV.ptr 1 0 [] 0), (9, AV.int fi), (11, AV.bool (Prod.fst (fV a))), (12, AV.int z1)] [Obj.row 3 (iA (lJ.τ {V := a.x.V, τ := Prod.snd (fV a) })), Obj.box 38 z3])))))) (K (Exit.exit 0) (sp 49 [(11, AV.bool more)] [Obj.row 3 bB]))) := by kernel_rfl
def Ff (a : P1) : Bool × List Int := bs (bk a.x.V) (eh a.x.V) ((fr a.ds a.fi).drop a.i.toNat) (aa (a.l.drop a.i.toNat)) a.x.τ
def Cd (a : P1) : Prop := 0 ≤ a.fi ∧ a.fi < a.ds.length ∧ (fr a.ds a.fi).length = a.l.length ∧ a.l.length ≤ aI ∧ JL a.x ∧ 0 ≤ a.i ∧ a.i ≤ a.l.length ∧ aH (aa (a.l.drop a.i.toNat)) ≤ 100000 ∧ ∀ s, s ∈ an (aa (a.l.drop a.i.toNat)) → s ∈ a.x.V
def BH (a : P1) : Out (Exit × S) := .one (.exit 0, sp 49 [(11, .bool (a.more || (Ff a).1))] [.row 3 (iA (Ff a).2)])
theorem Zf (κ : Kp) : bg (La κ) 12 101 4 (aK 1 Ny Cd BH) := by
 refine aO (fun a => a.l.length - a.i.toNat) ?_
 rintro ⟨ds, rel, l, x, fi, more, i⟩ K ⟨q1, q2, q3, h1, h0, h2, h3, h5, h6⟩ ho
 simp only at q1 q2 q3 h1 h0 h2 h3 h5 h6
 rw [show (La κ).P = Pr κ from rfl]
 refine Eq.mpr (ZW κ ds rel l (strs x.V) (iA x.τ) fi more i _ _ K) ?_
 simp only [aI] at h1
 simp only [BH, Out.run] at ho
 have hwl : (ah (ad (nth ds fi.toNat) 2)).length = (fr ds fi).length := by simp [fr]
 rw [af, aa0, aa2]
 refine ⟨fun hi => ?_, fun hi => ?_⟩
 ·have hk : i.toNat < l.length := by omega
  have e := cy l i.toNat hk
  have ew := yG (ds := ds) (i := fi) (k := i.toNat) (by omega)
  rw [e, aH] at h5
  have hv : ∀ s, s ∈ (bI (nth l i.toNat)).vars → s ∈ x.V := fun s hs => h6 s (by rw [e, an]; exact ab5 _ hs)
  have hv2 : ∀ s, s ∈ an (aa (l.drop (i.toNat + 1))) → s ∈ x.V := fun s hs => h6 s (by rw [e, an]; exact ab4 _ hs)
  generalize hwt : toInt (nth (ah (ad (nth ds fi.toNat) 2)) i.toNat) = wt at ew
  have ely : fV ⟨kp (nth l i.toNat), wt, x⟩ = (bI (nth l i.toNat)).bU (bk x.V) (eh x.V) wt x.τ := by
   unfold fV; rw [fm]
  have hlen : (fV ⟨kp (nth l i.toNat), wt, x⟩).2.length = x.V.length := by rw [ely]; exact nW _ wt h0.2 hv
  have hd : Ff ⟨ds, rel, l, x, fi, more, i⟩ = ((fV ⟨kp (nth l i.toNat), wt, x⟩).1 || (Ff ⟨ds, rel, l, ⟨x.V, (fV ⟨kp (nth l i.toNat), wt, x⟩).2⟩, fi, more, i + 1⟩).1, (Ff ⟨ds, rel, l, ⟨x.V, (fV ⟨kp (nth l i.toNat), wt, x⟩).2⟩, fi, more, i + 1⟩).2) := by
   rw [ely]
   unfold Ff
   simp only [show (i + 1).toNat = i.toNat + 1 by omega]
   rw [e, ew, bs]
  have next : ∀ b : Bool, b = (more || (fV ⟨kp (nth l i.toNat), wt, x⟩).1) → ∃ m, m < l.length - i.toNat ∧ fp Ny Cd BH (fun a => a.l.length - a.i.toNat) K m (sp 49 [(0, .ae 62 ds), (2, .ae 9 (strs x.V)), (3, .a7 0 0 (iA x.τ).length), (5, .ptr 1 0 [] 0), (9, .int fi), (11, .bool b), (12, .int (IntKind.wrap .i64 (i + 1)))] [.row 3 (iA (fV ⟨kp (nth l i.toNat), wt, x⟩).2), .box 38 (.agg [.lit (.string rel), .ae 52 l])]) := fun b hb => by
   rw [aU (n := i + 1) (by omega) (by omega)]
   refine ⟨_, ?_, ⟨ds, rel, l, ⟨x.V, (fV ⟨kp (nth l i.toNat), wt, x⟩).2⟩, fi, b, i + 1⟩, ?_, ⟨q1, q2, q3, by simpa [aI] using h1, ⟨h0.1, hlen⟩, by simp only; omega, by simp only; omega, ?_, ?_⟩, rfl, ?_⟩
   ·simp only; omega
   ·rw [show (iA x.τ).length = (iA (fV ⟨kp (nth l i.toNat), wt, x⟩).2).length by rw [ff, ff, hlen, h0.2]]; rfl
   ·simp only [show (i + 1).toNat = i.toNat + 1 by omega]; omega
   ·simp only [show (i + 1).toNat = i.toNat + 1 by omega]; exact hv2
   ·rw [hd] at ho
    simp only [BH, Out.run]
    have e3 : Ff ⟨ds, rel, l, ⟨x.V, (fV ⟨kp (nth l i.toNat), wt, x⟩).2⟩, fi, b, i + 1⟩ = Ff ⟨ds, rel, l, ⟨x.V, (fV ⟨kp (nth l i.toNat), wt, x⟩).2⟩, fi, more, i + 1⟩ := rfl
    rw [e3, hb, Bool.or_assoc]
    exact ho
  simp only [aq, aa1, aa0, hwl, hwt]
  refine ⟨⟨h2, hi⟩, ⟨q1, q2⟩, ⟨h2, by omega⟩, ⟨kp (nth l i.toNat), wt, x⟩, rfl, ⟨by show (kp (nth l i.toNat)).tm.gF ≤ 100000; rw [fm]; omega, h0, by rw [fm]; exact hv⟩, ?_⟩
  rw [af]
  refine ⟨fun e1 => next true (by rw [e1]; rfl), fun e1 => next _ (by rw [e1]; rfl)⟩
 ·have hd : Ff ⟨ds, rel, l, x, fi, more, i⟩ = (false, x.τ) := by
   unfold Ff
   simp only
   rw [aa8 (show l.length ≤ i.toNat by omega), aa8 (show (fr ds fi).length ≤ i.toNat by omega)]; rfl
  rw [hd, Bool.or_false] at ho
  exact ho
noncomputable def OH (κ : Kp) : Env := (La κ).aj 101 4 (aK 1 Ny Cd BH)
theorem Ww (κ : Kp) : aw (OH κ) := (ZI κ).aj (Tg κ) (Zf κ)
theorem TK (κ : Kp) : ai (OH κ) := (Tg κ).aj aE
theorem Y3 (κ : Kp) (ds : List AV) (rel : ByteArray) (l vs bB : List AV) (K : AV → List Dn.Obj → Prop) : (a9 (OH κ) 12 101 [.ae 62 ds, .agg [.lit (.string rel), .ae 52 l], .ae 9 vs, .a7 0 0 bB.length] [.row 3 bB] K) = (
 letI z1 := Pg.toProgram (Env.P (La κ))
 ∃ (a : List AV × ByteArray), ([AV.ae 62 ds, AV.str rel], az) = ([AV.ae 62 a.1, AV.str a.2], az) ∧ jc a ∧ ag z1 101 4 = ag z1 101 4 ∧ ∃ (a_1 : P1), sp 49 [(0,
 AV.ae 62 ds), (2, AV.ae 9 vs), (3, AV.a7 0 0 bB.length), (5, AV.ptr 1 0 [] 0), (9, AV.int (jw a.2 a.1)), (11, AV.bool false), (12, AV.int 0)] [Obj.row 3 bB,
 Obj.box 38 (AV.agg [AV.str rel, AV.ae 52 l])] = sp 49 [(0, AV.ae 62 a_1.ds), (2, AV.ae 9 (strs a_1.x.V)), (3, AV.a7 0 0 (List.length (iA a_1.x.τ))), (5, AV.ptr
 1 0 [] 0), (9, AV.int a_1.fi), (11, AV.bool a_1.more), (12, AV.int a_1.i)] [Obj.row 3 (iA a_1.x.τ), Obj.box 38 (AV.agg [AV.str a_1.rel, AV.ae 52 a_1.l])] ∧ ((0
 : Int) ≤ a_1.fi ∧ a_1.fi < (↑(a_1.ds.length) : Int) ∧ List.length (fr a_1.ds a_1.fi) = a_1.l.length ∧ a_1.l.length ≤ 9223372036854775807 ∧ (List.length a_1.x.V
 ≤ 1000000 ∧ List.length a_1.x.τ = List.length a_1.x.V) ∧ (0 : Int) ≤ a_1.i ∧ a_1.i ≤ (↑(a_1.l.length) : Int) ∧ aH (aa (List.drop a_1.i.toNat a_1.l)) ≤ 100000 ∧
 ∀ (s : ByteArray), List.Mem s (an (aa (List.drop a_1.i.toNat a_1.l))) → List.Mem s a_1.x.V) ∧ K (AV.bool (a_1.more || Prod.fst (Ff a_1))) [Obj.row 3 (iA
 (Prod.snd (Ff a_1)))]) := by kernel_rfl
structure MN where
 ds : List AV
 rel : ByteArray
 l : List AV
 x : lJ
def jB (a : MN) : Bool × List Int := bs (bk a.x.V) (eh a.x.V) (aV (aQ a.ds) a.rel) (aa a.l) a.x.τ
def Oi (a : MN) : List AV × List Dn.Obj := ([.ae 62 a.ds, .agg [.lit (.string a.rel), .ae 52 a.l], GB a.x, NV a.x], HP a.x)
def GV (a : MN) : Prop := a.ds.length ≤ aI ∧ known (aQ a.ds) ⟨a.rel, aa a.l⟩ = 0 ∧ JL a.x ∧ aH (aa a.l) ≤ 100000 ∧ ∀ s, s ∈ an (aa a.l) → s ∈ a.x.V
def Me (a : MN) : Out (AV × List Dn.Obj) := .one (.bool (jB a).1, HP ⟨a.x.V, (jB a).2⟩)
theorem Di {ds : List AV} {rel : ByteArray} {l : List AV} (h : known (aQ ds) ⟨rel, aa l⟩ = 0) : ∃ k : Nat, ie rel (aQ ds) = some k ∧ jw rel ds = k ∧ k < ds.length ∧ aV (aQ ds) rel = fr ds k ∧ (fr ds k).length = l.length := by
 rw [rG] at h
 cases hf : ie rel (aQ ds) with
 | none => rw [(nR hf).1] at h; cases h
 | some k =>
  obtain ⟨e1, e2, e3⟩ := nd hf
  rw [e1, e2, aa7] at h
  refine ⟨k, rfl, e2, e3, uK hf, ?_⟩
  cases hq : decide ((fr ds k).length = l.length) with
  | true => simpa using hq
  | false => rw [hq] at h; cases h
theorem cLc (κ : Kp) : bJ (OH κ) 12 101 (a8 Oi GV Me) := by
 refine bh ?_
 rintro ⟨ds, rel, l, x⟩ K ⟨h1, h2, h3, h4, h5⟩ ho
 simp only at h1 h2 h3 h4 h5
 refine Eq.mpr (Y3 κ ds rel l (strs x.V) (iA x.τ) K) ?_
 have ho : K (.bool (jB ⟨ds, rel, l, x⟩).1) [.row 3 (iA (jB ⟨ds, rel, l, x⟩).2)] := ho
 have hl := dh (aa l)
 rw [cL] at hl
 obtain ⟨k, hf, e2, e3, e4, e5⟩ := Di h2
 refine ⟨(ds, rel), rfl, h1, ?_⟩
 simp only [e2]
 refine ⟨trivial, ⟨ds, rel, l, x, k, false, 0⟩, rfl, ⟨by simp only; omega, by simp only; omega, e5, by simp only [aI]; omega, h3, by simp only; omega, by simp only; omega, by simp only [ab8, ab0]; exact h4, by simp only [ab8, ab0]; exact h5⟩, ?_⟩
 have hd : Ff ⟨ds, rel, l, x, k, false, 0⟩ = jB ⟨ds, rel, l, x⟩ := by
  unfold Ff jB; simp only [ab8, ab0]; rw [e4]
 rw [hd]
 exact ho
noncomputable def N3 (κ : Kp) : Env := (OH κ).ar 101 (a8 Oi GV Me)
theorem VU (κ : Kp) : aw (N3 κ) := (Ww κ).ar (TK κ) (cLc κ)
theorem U1 (κ : Kp) : ai (N3 κ) := (TK κ).ar aJ
theorem VF (κ : Kp) (ds : List AV) (op : Int) (rel : ByteArray) (l : List AV) (u v : AT) (vs bB : List AV) (K : AV → List Dn.Obj → Prop) : (a9 (N3 κ) 12 102 [.ae 62 ds, .agg [.int op, .agg [.lit (.string rel), .ae 52 l], cI u, cI v], .ae 9 vs, .a7 0 0 bB.length] [.row 3 bB] K) = (
 letI z1 := AV.bool true
 ax (decide (op ≥ (3 : Int))) (ax (decide (op ≤ (6 : Int))) (∃ (a : ON), ([AV.agg [AV.int u.op, AV.str u.s, AV.int u.n, AV.ae 52 u.l], AV.ae 9 vs, AV.a7 0 0 bB.length], [Obj.row 3 bB]) = ([AV.agg [AV.int a.1.op, AV.str a.1.s, AV.int a.1.n, AV.ae 52 a.1.l], AV.ae 9 (strs a.2.V), AV.a7 0 0 (List.length (iA a.2.τ))], [Obj.row 3 (iA a.2.τ)]) ∧ ((a.2.V.length ≤ 1000000 ∧ a.2.τ.length = a.2.V.length) ∧ (a.1.op = (1 : Int) → List.Mem a.1.s a.2.V)) ∧ ∃ (a_1 : ON), ([AV.agg [AV.int v.op, AV.str v.s, AV.int v.n, AV.ae 52 v.l], AV.ae 9 vs, AV.a7 0 0 bB.length], [Obj.row 3 (iA a.2.τ)]) = ([AV.agg [AV.int a_1.1.op, AV.str a_1.1.s, AV.int a_1.1.n, AV.ae 52 a_1.1.l], AV.ae 9 (strs a_1.2.V), AV.a7 0 0 (List.length (iA a_1.2.τ))], [Obj.row 3 (iA a_1.2.τ)]) ∧ ((a_1.2.V.length ≤ 1000000 ∧ a_1.2.τ.length = a_1.2.V.length) ∧ (a_1.1.op = (1 : Int) → List.Mem a_1.1.s a_1.2.V)) ∧ ∃ (a_2 : Fv), ([AV.agg [AV.int u.op, AV.str u.s, AV.int u.n, AV.ae 52 u.l], AV.lit (Value.int IntKind.i64 (if a5 (bk a_1.2.V) (AT.tm a_1.1) a_1.2.τ > a5 (bk a.2.V) (AT.tm a.1) a.2.τ then a5 (bk a_1.2.V) (AT.tm a_1.1) a_1.2.τ else a5 (bk a.2.V) (AT.tm a.1) a.2.τ)), AV.ae 9 vs, AV.a7 0 0 bB.length], [Obj.row 3 (iA a_1.2.τ)]) = ([AV.agg [AV.int a_2.t.op, AV.str a_2.t.s, AV.int a_2.t.n, AV.ae 52 a_2.t.l], AV.int a_2.w, AV.ae 9 (strs a_2.x.V), AV.a7 0 0 (List.length (iA a_2.x.τ))], [Obj.row 3 (iA a_2.x.τ)]) ∧ (Tm.gF (AT.tm a_2.t) ≤ 100000 ∧ (List.length a_2.x.V ≤ 1000000 ∧ List.length a_2.x.τ = List.length a_2.x.V) ∧ ∀ (s : ByteArray), List.Mem s (Tm.vars (AT.tm a_2.t)) → List.Mem s a_2.x.V) ∧ ∃ (a_3 : Fv), ([AV.agg [AV.int v.op, AV.str v.s, AV.int v.n, AV.ae 52 v.l], AV.lit (Value.int IntKind.i64 (if a5 (bk a_1.2.V) (AT.tm a_1.1) a_1.2.τ > a5 (bk a.2.V) (AT.tm a.1) a.2.τ then a5 (bk a_1.2.V) (AT.tm a_1.1) a_1.2.τ else a5 (bk a.2.V) (AT.tm a.1) a.2.τ)), AV.ae 9 vs, AV.a7 0 0 bB.length], [Obj.row 3 (iA (lJ.τ { V := a_2.x.V, τ := Prod.snd (fV a_2) }))]) = ([AV.agg [AV.int a_3.t.op, AV.str a_3.t.s, AV.int a_3.t.n, AV.ae 52 a_3.t.l], AV.int a_3.w, AV.ae 9 (strs a_3.x.V), AV.a7 0 0 (List.length (iA a_3.x.τ))], [Obj.row 3 (iA a_3.x.τ)]) ∧ (Tm.gF (AT.tm a_3.t) ≤ 100000 ∧ (List.length a_3.x.V ≤ 1000000 ∧ List.length a_3.x.τ = List.length a_3.x.V) ∧ ∀ (s : ByteArray), List.Mem s (Tm.vars (AT.tm a_3.t)) → List.Mem s a_3.x.V) ∧ ax (Prod.fst (fV a_2)) (K z1 [Obj.row 3 (iA (lJ.τ { V := a_3.x.V, τ := Prod.snd (fV a_3) }))]) (K (AV.bool (Prod.fst (fV a_3))) [Obj.row 3 (iA (lJ.τ { V := a_3.x.V, τ := Prod.snd (fV a_3) }))])) (∃ (a : MN), ([AV.ae 62 ds, AV.agg [AV.str rel, AV.ae 52 l], AV.ae 9 vs, AV.a7 0 0 bB.length], [Obj.row 3 bB]) = ([AV.ae 62 a.ds, AV.agg [AV.str a.rel, AV.ae 52 a.l], AV.ae 9 (strs a.x.V), AV.a7 0 0 (List.length (iA a.x.τ))], [Obj.row 3 (iA a.x.τ)]) ∧ (a.ds.length ≤ 9223372036854775807 ∧ known (aQ a.ds) { rel := a.rel, l := aa a.l } = (0 : Int) ∧ (List.length a.x.V ≤ 1000000 ∧ List.length a.x.τ = List.length a.x.V) ∧ aH (aa a.l) ≤ 100000 ∧ ∀ (s : ByteArray), List.Mem s (an (aa a.l)) → List.Mem s a.x.V) ∧ ax (op == (1 : Int)) (K (AV.bool (Prod.fst (jB a))) [Obj.row 3 (iA (lJ.τ { V := a.x.V, τ := Prod.snd (jB a) }))]) (ax (op == (2 : Int)) (K (AV.bool (Prod.fst (jB a))) [Obj.row 3 (iA (lJ.τ { V := a.x.V, τ := Prod.snd (jB a) }))]) (∃ (a_1 : Fv), ([AV.agg [AV.int u.op, AV.str u.s, AV.int u.n, AV.ae 52 u.l], AV.int 1, AV.ae 9 vs, AV.a7 0 0 bB.length], [Obj.row 3 (iA (lJ.τ { V := a.x.V, τ := Prod.snd (jB a) }))]) = ([AV.agg [AV.int a_1.t.op, AV.str a_1.t.s, AV.int a_1.t.n, AV.ae 52 a_1.t.l], AV.int a_1.w, AV.ae 9 (strs a_1.x.V), AV.a7 0 0 (List.length (iA a_1.x.τ))], [Obj.row 3 (iA a_1.x.τ)]) ∧ (Tm.gF (AT.tm a_1.t) ≤ 100000 ∧ (List.length a_1.x.V ≤ 1000000 ∧ List.length a_1.x.τ = List.length a_1.x.V) ∧ ∀ (s : ByteArray), List.Mem s (Tm.vars (AT.tm a_1.t)) → List.Mem s a_1.x.V) ∧ ∃ (a_2 : Fv), ([AV.agg [AV.int v.op, AV.str v.s, AV.int v.n, AV.ae 52 v.l], AV.int 1, AV.ae 9 vs, AV.a7 0 0 bB.length], [Obj.row 3 (iA (lJ.τ {V := a_1.x.V, τ := Prod.snd (fV a_1) }))]) = ([AV.agg [AV.int a_2.t.op, AV.str a_2.t.s, AV.int a_2.t.n, AV.ae 52 a_2.t.l], AV.int a_2.w, AV.ae 9 (strs a_2.x.V), AV.a7 0 0 (List.length (iA a_2.x.τ))], [Obj.row 3 (iA a_2.x.τ)]) ∧ (Tm.gF (AT.tm a_2.t) ≤ 100000 ∧ (List.length a_2.x.V ≤ 1000000 ∧ List.length a_2.x.τ = List.length a_2.x.V) ∧ ∀ (s : ByteArray), List.Mem s (Tm.vars (AT.tm a_2.t)) → List.Mem s a_2.x.V) ∧ ax (Prod.fst (jB a)) (K z1 [Obj.row 3 (iA (lJ.τ { V := a_2.x.V, τ := Prod.snd (fV a_2) }))]) (ax (Prod.fst (fV a_1)) (K z1 [Obj.row 3 (iA (lJ.τ {V := a_2.x.V, τ := Prod.snd (fV a_2) }))]) (K (AV.bool (Prod.fst (fV a_2))) [Obj.row 3 (iA (lJ.τ { V := a_2.x.V, τ := Prod.snd (fV a_2) }))])))))) (∃ (a : MN), ([AV.ae 62 ds, AV.agg [AV.str rel, AV.ae 52 l], AV.ae 9 vs, AV.a7 0 0 bB.length], [Obj.row 3 bB]) = ([AV.ae 62 a.ds, AV.agg [AV.str a.rel, AV.ae 52 a.l], AV.ae 9 (strs a.x.V), AV.a7 0 0 (List.length (iA a.x.τ))], [Obj.row 3 (iA a.x.τ)]) ∧ (a.ds.length ≤ 9223372036854775807 ∧ known (aQ a.ds) {rel := a.rel, l := aa a.l } = (0 : Int) ∧ (List.length a.x.V ≤ 1000000 ∧ List.length a.x.τ = List.length a.x.V) ∧ aH (aa a.l) ≤ 100000 ∧ ∀ (s : ByteArray), List.Mem s (an (aa a.l)) → List.Mem s a.x.V) ∧ ax (op == (1 : Int)) (K (AV.bool (Prod.fst (jB a))) [Obj.row 3 (iA (lJ.τ {V := a.x.V, τ := Prod.snd (jB a) }))]) (ax (op == (2 : Int)) (K (AV.bool (Prod.fst (jB a))) [Obj.row 3 (iA (lJ.τ {V := a.x.V, τ := Prod.snd (jB a) }))]) (∃ (a_1 : Fv), ([AV.agg [AV.int u.op, AV.str u.s, AV.int u.n, AV.ae 52 u.l], AV.int 1, AV.ae 9 vs, AV.a7 0 0 bB.length], [Obj.row 3 (iA (lJ.τ { V := a.x.V, τ := Prod.snd (jB a) }))]) = ([AV.agg [AV.int a_1.t.op, AV.str a_1.t.s, AV.int a_1.t.n, AV.ae 52 a_1.t.l], AV.int a_1.w, AV.ae 9 (strs a_1.x.V), AV.a7 0 0 (List.length (iA a_1.x.τ))], [Obj.row 3 (iA a_1.x.τ)]) ∧ (Tm.gF (AT.tm a_1.t) ≤ 100000 ∧ (List.length a_1.x.V ≤ 1000000 ∧ List.length a_1.x.τ = List.length a_1.x.V) ∧ ∀ (s : ByteArray), List.Mem s (Tm.vars (AT.tm a_1.t)) → List.Mem s a_1.x.V) ∧ ∃ (a_2 : Fv), ([AV.agg [AV.int v.op, AV.str v.s, AV.int v.n, AV.ae 52 v.l], AV.int 1, AV.ae 9 vs, AV.a7 0 0 bB.length], [Obj.row 3 (iA (lJ.τ {V := a_1.x.V, τ := Prod.snd (fV a_1) }))]) = ([AV.agg [AV.int a_2.t.op, AV.str a_2.t.s, AV.int a_2.t.n, AV.ae 52 a_2.t.l], AV.int a_2.w, AV.ae 9 (strs a_2.x.V), AV.a7 0 0 (List.length (iA a_2.x.τ))], [Obj.row 3 (iA a_2.x.τ)]) ∧ (Tm.gF (AT.tm a_2.t) ≤ 100000 ∧ (List.length a_2.x.V ≤ 1000000 ∧ List.length a_2.x.τ = List.length a_2.x.V) ∧ ∀ (s : ByteArray), List.Mem s (Tm.vars (AT.tm a_2.t)) → List.Mem s a_2.x.V) ∧ ax (Prod.fst (jB a)) (K z1 [Obj.row 3 (iA (lJ.τ { V := a_2.x.V, τ := Prod.snd (fV a_2) }))]) (ax (Prod.fst (fV a_1)) (K z1 [Obj.row 3 (iA (lJ.τ {V := a_2.x.V, τ := Prod.snd (fV a_2) }))]) (K (AV.bool (Prod.fst (fV a_2))) [Obj.row 3 (iA (lJ.τ { V := a_2.x.V, τ := Prod.snd (fV a_2) }))])))))) := by kernel_rfl
structure Ai where
 ds : List AV
 op : Int
 rel : ByteArray
 l : List AV
 u : AT
 v : AT
 x : lJ
def Ai.lt (a : Ai) : Lt := ⟨a.op, ⟨a.rel, aa a.l⟩, a.u.tm, a.v.tm⟩
def sB (a : Ai) : Bool × List Int := b6 (bk a.x.V) (eh a.x.V) (aQ a.ds) a.lt a.x.τ
def Ov (a : Ai) : List AV × List Dn.Obj := ([.ae 62 a.ds, .agg [.int a.op, .agg [.lit (.string a.rel), .ae 52 a.l], cI a.u, cI a.v], GB a.x, NV a.x], HP a.x)
def ID (a : Ai) : Prop := a.ds.length ≤ aI ∧ (dw a.lt = true → known (aQ a.ds) ⟨a.rel, aa a.l⟩ = 0) ∧ JL a.x ∧ dC a.lt ≤ 100000 ∧ ∀ s, s ∈ cx a.lt → s ∈ a.x.V
def L7 (a : Ai) : Out (AV × List Dn.Obj) := .one (.bool (sB a).1, HP ⟨a.x.V, (sB a).2⟩)
def DB (x : lJ) (u v : AT) : Int := if a5 (bk x.V) v.tm x.τ > a5 (bk x.V) u.tm x.τ then a5 (bk x.V) v.tm x.τ else a5 (bk x.V) u.tm x.τ
theorem XB (κ : Kp) : bJ (N3 κ) 12 102 (a8 Ov ID L7) := by
 refine bh ?_
 rintro ⟨ds, op, rel, l, u, v, x⟩ K ⟨h1, h2, h3, h4, h5⟩ ho
 simp only at h1 h2 h3 h5
 refine Eq.mpr (VF κ ds op rel l u v (strs x.V) (iA x.τ) K) ?_
 have ho : K (.bool (sB ⟨ds, op, rel, l, u, v, x⟩).1) [.row 3 (iA (sB ⟨ds, op, rel, l, u, v, x⟩).2)] := ho
 have h4 : aH [u.tm, v.tm] + aH (aa l) ≤ 100000 := h4
 simp only [aH] at h4
 have hu : u.tm.gF ≤ 100000 := by omega
 have hcl : aH (aa l) ≤ 100000 := by omega
 have hv : v.tm.gF ≤ 100000 := by omega
 have hvu : ∀ s, s ∈ u.tm.vars → s ∈ x.V := fun s hs => h5 s (mC hs)
 have hvv : ∀ s, s ∈ v.tm.vars → s ∈ x.V := fun s hs => h5 s (oX hs)
 have hva : ∀ s, s ∈ an (aa l) → s ∈ x.V := fun s hs => h5 s (rm hs)
 have Ln : ∀ τ : List Int, τ.length = x.V.length → (iA x.τ).length = (iA τ).length := fun τ h => by rw [ff, ff, h, h3.2]
 have hkd : dd (bk x.V) (Ai.lt ⟨ds, op, rel, l, u, v, x⟩) x.τ = DB x u v := by
  unfold dd DB
  show (bif decide (a5 (bk x.V) v.tm x.τ > a5 (bk x.V) u.tm x.τ) then _ else _) = _
  by_cases h : a5 (bk x.V) v.tm x.τ > a5 (bk x.V) u.tm x.τ
  ·rw [aa6 h, if_pos h]; rfl
  ·rw [aa4 h, if_neg h]; rfl
 have one1 : ∀ t : AT, (∀ s, s ∈ t.tm.vars → s ∈ x.V) → t.op = 1 → t.s ∈ x.V := fun t ht e => ht _ (Ao (t := t.tm) e)
 by_cases hc : cX op = true
 ·have hge : decide (op ≥ 3) = true ∧ decide (op ≤ 6) = true := by
   have : (decide (3 ≤ op) && decide (op ≤ 6)) = true := hc
   rw [aa1] at this
   exact this
  rw [hge.1, hge.2]
  have hl : sB ⟨ds, op, rel, l, u, v, x⟩ = ((fV ⟨u, DB x u v, x⟩).1 || (fV ⟨v, DB x u v, ⟨x.V, (fV ⟨u, DB x u v, x⟩).2⟩⟩).1, (fV ⟨v, DB x u v, ⟨x.V, (fV ⟨u, DB x u v, x⟩).2⟩⟩).2) := by
   unfold sB b6
   rw [hkd, show (Ai.lt ⟨ds, op, rel, l, u, v, x⟩).op = op from rfl, hc]; rfl
  rw [hl] at ho
  have l1 : (fV ⟨u, DB x u v, x⟩).2.length = x.V.length := nW _ _ h3.2 hvu
  refine ⟨(u, x), rfl, ⟨h3, one1 u hvu⟩, (v, x), rfl, ⟨h3, one1 v hvv⟩, ⟨u, DB x u v, x⟩, rfl, ⟨hu, h3, hvu⟩, ⟨v, DB x u v, ⟨x.V, (fV ⟨u, DB x u v, x⟩).2⟩⟩, ?_, ⟨hv, ⟨h3.1, l1⟩, hvv⟩, ?_⟩
  ·show (_, _) = zF ⟨v, DB x u v, ⟨x.V, (fV ⟨u, DB x u v, x⟩).2⟩⟩
   rw [Ln _ l1]; rfl
  ·revert ho
   cases (fV ⟨u, DB x u v, x⟩).1 <;> intro ho <;> exact ho
 ·have hc : cX op = false := by simpa using hc
  have hkn : cX op = false → known (aQ ds) ⟨rel, aa l⟩ = 0 := fun hc => h2 (by
   have : (decide (3 ≤ op) && decide (op ≤ 6)) = false := hc
   rw [Bool.and_eq_false_iff, aa2, aa2] at this
   show (decide (op < 3) || decide (6 < op)) = true
   rw [ab6, aa0, aa0]; omega)
  have l1 : (jB ⟨ds, rel, l, x⟩).2.length = x.V.length := uZ _ _ h3.2 hva
  have l2 : (fV ⟨u, 1, ⟨x.V, (jB ⟨ds, rel, l, x⟩).2⟩⟩).2.length = x.V.length := nW _ _ l1 hvu
  have hkn := hkn hc
  have h12 : (decide (op = 1) || decide (op = 2)) = true → sB ⟨ds, op, rel, l, u, v, x⟩ = jB ⟨ds, rel, l, x⟩ := fun h => by
   unfold sB b6
   rw [show (Ai.lt ⟨ds, op, rel, l, u, v, x⟩).op = op from rfl, hc, h]; rfl
  have hdf : (decide (op = 1) || decide (op = 2)) = false → sB ⟨ds, op, rel, l, u, v, x⟩ = ((jB ⟨ds, rel, l, x⟩).1 || (fV ⟨u, 1, ⟨x.V, (jB ⟨ds, rel, l, x⟩).2⟩⟩).1 || (fV ⟨v, 1, ⟨x.V, (fV ⟨u, 1, ⟨x.V, (jB ⟨ds, rel, l, x⟩).2⟩⟩).2⟩⟩).1, (fV ⟨v, 1, ⟨x.V, (fV ⟨u, 1, ⟨x.V, (jB ⟨ds, rel, l, x⟩).2⟩⟩).2⟩⟩).2) := fun h => by
   unfold sB b6
   rw [show (Ai.lt ⟨ds, op, rel, l, u, v, x⟩).op = op from rfl, hc, h]; rfl
  cases hge : decide (op ≥ 3) with
  | true =>
   have hle : decide (op ≤ 6) = false := by
    have : (decide (3 ≤ op) && decide (op ≤ 6)) = false := hc
    rw [show decide (3 ≤ op) = true from hge, ac0] at this
    exact this
   rw [hle]
   refine ⟨⟨ds, rel, l, x⟩, rfl, ⟨h1, hkn, h3, hcl, hva⟩, ?_⟩
   refine af.2 ⟨fun e => ?_, fun e1 => af.2 ⟨fun e => ?_, fun e2 => ?_⟩⟩
   ·rw [h12 (by rw [show op = 1 from eq_of_beq e]; rfl)] at ho; exact ho
   ·rw [h12 (by rw [show op = 2 from eq_of_beq e]; rfl)] at ho; exact ho
   ·rw [hdf (by rw [aa4 (by simpa using e1), aa4 (by simpa using e2)]; rfl)] at ho
    refine ⟨⟨u, 1, ⟨x.V, (jB ⟨ds, rel, l, x⟩).2⟩⟩, ?_, ⟨hu, ⟨h3.1, l1⟩, hvu⟩, ⟨v, 1, ⟨x.V, (fV ⟨u, 1, ⟨x.V, (jB ⟨ds, rel, l, x⟩).2⟩⟩).2⟩⟩, ?_, ⟨hv, ⟨h3.1, l2⟩, hvv⟩, ?_⟩
    ·show (_, _) = zF ⟨u, 1, ⟨x.V, (jB ⟨ds, rel, l, x⟩).2⟩⟩
     rw [Ln _ l1]; rfl
    ·show (_, _) = zF ⟨v, 1, ⟨x.V, (fV ⟨u, 1, ⟨x.V, (jB ⟨ds, rel, l, x⟩).2⟩⟩).2⟩⟩
     rw [Ln _ l2]; rfl
    ·revert ho
     cases (jB ⟨ds, rel, l, x⟩).1 <;> cases (fV ⟨u, 1, ⟨x.V, (jB ⟨ds, rel, l, x⟩).2⟩⟩).1 <;> intro ho <;> exact ho
  | false =>
   refine ⟨⟨ds, rel, l, x⟩, rfl, ⟨h1, hkn, h3, hcl, hva⟩, ?_⟩
   refine af.2 ⟨fun e => ?_, fun e1 => af.2 ⟨fun e => ?_, fun e2 => ?_⟩⟩
   ·rw [h12 (by rw [show op = 1 from eq_of_beq e]; rfl)] at ho; exact ho
   ·rw [h12 (by rw [show op = 2 from eq_of_beq e]; rfl)] at ho; exact ho
   ·rw [hdf (by rw [aa4 (by simpa using e1), aa4 (by simpa using e2)]; rfl)] at ho
    refine ⟨⟨u, 1, ⟨x.V, (jB ⟨ds, rel, l, x⟩).2⟩⟩, ?_, ⟨hu, ⟨h3.1, l1⟩, hvu⟩, ⟨v, 1, ⟨x.V, (fV ⟨u, 1, ⟨x.V, (jB ⟨ds, rel, l, x⟩).2⟩⟩).2⟩⟩, ?_, ⟨hv, ⟨h3.1, l2⟩, hvv⟩, ?_⟩
    ·show (_, _) = zF ⟨u, 1, ⟨x.V, (jB ⟨ds, rel, l, x⟩).2⟩⟩
     rw [Ln _ l1]; rfl
    ·show (_, _) = zF ⟨v, 1, ⟨x.V, (fV ⟨u, 1, ⟨x.V, (jB ⟨ds, rel, l, x⟩).2⟩⟩).2⟩⟩
     rw [Ln _ l2]; rfl
    ·revert ho
     cases (jB ⟨ds, rel, l, x⟩).1 <;> cases (fV ⟨u, 1, ⟨x.V, (jB ⟨ds, rel, l, x⟩).2⟩⟩).1 <;> intro ho <;> exact ho
noncomputable def Q2 (κ : Kp) : Env := (N3 κ).ar 102 (a8 Ov ID L7)
theorem UD (κ : Kp) : aw (Q2 κ) := (VU κ).ar (U1 κ) (XB κ)
theorem U0 (κ : Kp) : ai (Q2 κ) := (U1 κ).ar aJ
end Go.Proofs.YtdpmikfheebicaaGreatDoor
namespace Go.Rl
open Go Go.Dn
mutual
def Tm.sh : Tm → Bool
 | .mk op _ _ l => bif dV op then decide (l.length = 2) && tg l else decide (1 ≤ op) && decide (op ≤ 4) && decide (l.length = 0)
def tg : List Tm → Bool
 | [] => true
 | t :: l => t.sh && tg l
end
theorem jW : ∀ (h : Nat) (t : Tm), ak h t = true → t.sh = true
 | 0, _, h => by simp [ak] at h
 | h + 1, .mk op s n l, e => by
  rw [hN] at e
  rw [Tm.sh]
  have go : ∀ l : List Tm, fc h l = true → tg l = true := by
   intro l
   induction l with
   | nil => intro _; rfl
   | cons t l ih =>
    intro e
    simp only [fc, ac1, aa1] at e
    rw [tg, jW h t e.1.2, ih e.2]; rfl
  cases h0 : decide (op = 0) with
  | true => rw [h0, aa7] at e; cases e
  | false =>
   rw [h0, aa5] at e
   cases h2 : dV op with
   | true =>
    rw [h2, aa7] at e
    simp only [aa1] at e
    rw [aa7, e.1.2, go l e.2]; rfl
   | false =>
    rw [h2, aa5, aa1] at e
    rw [aa5, e.2, Bool.and_true]
    have hb := e.1
    unfold bare at hb
    by_cases h1 : op = 1
    ·subst h1; rfl
    by_cases h2 : op = 2
    ·subst h2; rfl
    by_cases h3 : op = 3
    ·subst h3; rfl
    by_cases h4 : op = 4
    ·subst h4; rfl
    rw [aa4 h1, aa4 h2, aa4 h3, aa4 h4, h0] at hb
    cases hb
theorem Hb {h : Nat} : ∀ {l : List Tm}, l.all (ak h) = true → tg l = true
 | [], _ => rfl
 | t :: l, e => by
  simp only [ac1, aa1] at e
  rw [tg, jW h t e.1, Hb e.2]; rfl
theorem tp {a : At} (h : aW a = true) : tg a.l = true := by
 simp only [aW, aa1] at h
 exact Hb h.2
end Go.Rl
namespace Go.Proofs.YtdpmikfheebicaaGreatDoor
open Go Go.Dn Go.Rl Go.Proofs
attribute [local irreducible] a9 vc
set_option maxRecDepth 20000
def dy (l : List AV) : List Int := l.map toInt
def Nj (V : List ByteArray) (L : List ByteArray) : Bool := L.all fun s => V.contains s
theorem qf {V L : List ByteArray} : Nj V L = true ↔ ∀ s, s ∈ L → s ∈ V := by simp [Nj]
def fH (vs bB : List AV) (L : List ByteArray) : Bool := decide (vs.length ≤ 1000000) && decide (bB.length = vs.length) && Nj (vs.map toStr) L
theorem j4 {vs bB : List AV} {L M : List ByteArray} (h : fH vs bB L = true) (hs : ∀ s, s ∈ M → s ∈ L) : fH vs bB M = true := by
 unfold fH at h ⊢
 rw [aa1] at h
 rw [h.1, ac0, qf]
 exact fun s hm => qf.1 h.2 s (hs s hm)
def Ng : List AV → Option (Bool × AV)
 | [.agg [.lit (.int .i64 op), .lit (.string s), .lit (.int .i64 n), .ae 52 l], .lit (.int .i64 w), .ae 9 vs, .ae 3 bB] =>
  some ((Tm.mk op s n (aa l)).sh && fH vs bB (Tm.mk op s n (aa l)).vars, .bool ((Tm.mk op s n (aa l)).fits (bk (vs.map toStr)) w (dy bB)))
 | _ => none
def zA : List AV → Nat
 | [.agg [_, _, _, .ae _ l], _, _, _] => aH (aa l)
 | _ => 0
noncomputable def NI (κ : Kp) (r : Nat) : Env := (Q2 κ).au 163 (below Ng zA r)
theorem Xf (κ : Kp) (r : Nat) (t : AT) (w : Int) (vs bB : List AV) (K : AV → List Dn.Obj → Prop) : (a9 (NI κ r) 12 163 [cI t, .int w, .ae 9 vs, .ae 3 bB] [] K) = (
 letI z3 := nth t.l 0
 letI z1 := Tm.mk (toInt (ad z3 0)) (toStr (ad z3 1)) (toInt (ad z3 2)) (aa (ah (ad z3 3)))
 letI z4 := nth t.l 1
 letI z2 := Tm.mk (toInt (ad z4 0)) (toStr (ad z4 1)) (toInt (ad z4 2)) (aa (ah (ad z4 3)))
 letI z5 := (1 : Int)
 letI z6 := (0 : Int)
 ax (t.op == z5) (aZ (decide (vs.length ≤ 9223372036854775807)) (aZ (decide (z6 ≤ bm t.s vs z6) && decide (bm t.s vs z6 < (↑(bB.length) : Int))) (K (AV.bool
 (toInt (nth bB (Int.toNat (bm t.s vs z6))) == w)) []))) (ax (t.op == (2 : Int)) (K (AV.bool (w == z5)) []) (ax (t.op == (3 : Int)) (K (AV.bool (w == (2 : Int)))
 []) (ax (t.op == (4 : Int)) (K (AV.bool true) []) (ax (w == z5) (aZ (true && decide (z6 < (↑(t.l.length) : Int))) (aZ (Tm.sh z1 && fH vs bB (Tm.vars z1) &&
 Nat.blt (zA [AV.agg [AV.int (toInt (ad z3 0)), AV.str (toStr (ad z3 1)), AV.int (toInt (ad z3 2)), AV.ae 52 (ah (ad z3 3))], AV.int 1, AV.ae 9 vs, AV.ae 3 bB])
 r) (ax (Tm.fits (bk (List.map toStr vs)) z1 z5 (dy bB)) (aZ (true && decide (z5 < (↑(t.l.length) : Int))) (aZ (Tm.sh z2 && fH vs bB (Tm.vars z2) && Nat.blt (zA
 [AV.agg [AV.int (toInt (ad z4 0)), AV.str (toStr (ad z4 1)), AV.int (toInt (ad z4 2)), AV.ae 52 (ah (ad z4 3))], AV.int 1, AV.ae 9 vs, AV.ae 3 bB]) r) (K
 (AV.bool (Tm.fits (bk (List.map toStr vs)) z2 z5 (dy bB))) []))) (K (AV.bool false) [])))) (K (AV.bool false) [])))))) := by kernel_rfl
theorem Hh {vs bB : List AV} {L : List ByteArray} (h : fH vs bB L = true) {s : ByteArray} (hs : s ∈ L) : vs.length ≤ 1000000 ∧ bm s vs 0 = (xb (vs.map toStr) s : Int) ∧ xb (vs.map toStr) s < bB.length ∧ toInt (nth bB (xb (vs.map toStr) s)) = bk (vs.map toStr) (dy bB) s := by
 unfold fH at h
 rw [aa1, aa1, aa0, aa0] at h
 obtain ⟨⟨h1, h2⟩, h3⟩ := h
 have hm := qf.1 h3 s hs
 have hp := rA hm
 rw [List.length_map] at hp
 refine ⟨h1, ?_, by omega, ?_⟩
 ·rw [lN, pk s _ 0 hm]; omega
 ·unfold bk dy
  rw [List.getD_eq_getElem?_getD, List.getElem?_map, ab7 (by omega), bx _ _ (by omega)]; rfl
theorem MH (op : Int) (s : ByteArray) (n : Int) (l : List Tm) : (Tm.mk op s n l).gF = 1 + aH l := rfl
theorem Bl (x : AV) (w vs bB : AV) : zA [.agg [.int (toInt (ad x 0)), .str (toStr (ad x 1)), .int (toInt (ad x 2)), .ae 52 (ah (ad x 3))], w, vs, bB] + 1 = (bI x).gF := by
 rw [bX, MH]
 show aH (aa (ah (ad x 3))) + 1 = _
 omega
theorem Xg (κ : Kp) (r : Nat) : bM (NI κ r) 12 163 (fun xs => bif Nat.beq (zA xs) r then Ng xs else none) := by
 intro args x hh
 cases hb : Nat.beq (zA args) r with
 | false => simp only [hb] at hh; cases hh
 | true =>
  simp only [hb, aa7] at hh
  unfold Ng at hh
  split at hh
  ·rename_i op s n l w vs bB
   simp only [aa3, aa9, aa1] at hh
   obtain ⟨⟨h1, h2⟩, rfl⟩ := hh
   have hr : aH (aa l) = r := Nat.eq_of_beq_eq_true hb
   refine ⟨_, rfl, rfl, ?_⟩
   refine Eq.mpr (Xf κ r ⟨op, s, n, l⟩ w vs bB _) ?_
   simp only [← bX, Fo]
   have hf : (Tm.mk op s n (aa l)).fits (bk (vs.map toStr)) w (dy bB) = bif decide (op = 1) then decide (bk (vs.map toStr) (dy bB) s = w) else bif decide (op = 2) then decide (w = 1) else bif decide (op = 3) then decide (w = 2) else bif decide (op = 4) then true else decide (w = 1) && ji (bk (vs.map toStr)) (aa l) (dy bB) := by rw [Tm.fits]
   rw [hf]
   cases e1 : decide (op = 1) with
   | true =>
    have hs : s ∈ (Tm.mk op s n (aa l)).vars := by rw [Tm.vars, e1]; simp
    obtain ⟨q1, q2, q3, q4⟩ := Hh h2 hs
    rw [q2, Int.toNat_natCast, q4]
    exact aq.2 ⟨by simp; omega, aq.2 ⟨by simp; omega, rfl⟩⟩
   | false =>
    cases e2 : decide (op = 2) with
    | true => exact rfl
    | false =>
     cases e3 : decide (op = 3) with
     | true => exact rfl
     | false =>
      cases e4 : decide (op = 4) with
      | true => exact rfl
      | false =>
       rw [Tm.sh] at h1
       cases ht : dV op with
       | false =>
        rw [ht, aa5] at h1
        simp only [aa1, aa0] at h1
        rw [aa2] at e1 e2 e3 e4
        omega
       | true =>
        rw [ht, aa7, aa1, aa0, cL] at h1
        obtain ⟨hl, hsh⟩ := h1
        obtain ⟨a, b, rfl⟩ : ∃ a b, l = [a, b] := by
         match l, hl with
         | [a, b], _ => exact ⟨a, b, rfl⟩
        simp only [aa, ac2, ac3, tg, Bool.and_true, aa1] at hsh
        simp only [aa, ac2, ac3, aH] at hr
        have hva : fH vs bB (bI a).vars = true := j4 h2 fun s hs => by
         rw [Tm.vars]; simp [aa, an, hs]
        have hvb : fH vs bB (bI b).vars = true := j4 h2 fun s hs => by
         rw [Tm.vars]; simp [aa, an, hs]
        have ma := Bl a (.int 1) (.ae 9 vs) (.ae 3 bB)
        have mb := Bl b (.int 1) (.ae 9 vs) (.ae 3 bB)
        have na : nth [a, b] 0 = a := rfl
        have nb : nth [a, b] 1 = b := rfl
        simp only [na, nb]
        cases ew : decide (w = 1) with
        | false => exact rfl
        | true =>
         simp only [af, Bool.false_eq_true, false_implies, true_implies, true_and, and_true, reduceCtorEq]
         rw [aq, aq]
         refine ⟨by simp, ?_, ?_⟩
         ·rw [hsh.1, hva, show Nat.blt _ r = true from by rw [Nat.blt_eq]; omega]; rfl
         ·have hfl : ji (bk (vs.map toStr)) (aa [a, b]) (dy bB) = ((bI a).fits (bk (vs.map toStr)) 1 (dy bB) && (bI b).fits (bk (vs.map toStr)) 1 (dy bB)) := by
           simp only [aa, ac2, ac3, ji, Bool.and_true]
          rw [hfl]
          cases (bI a).fits (bk (vs.map toStr)) 1 (dy bB) with
          | false => exact ⟨fun h => (by cases h), fun _ => rfl⟩
          | true =>
           refine ⟨fun _ => ?_, fun h => (by cases h)⟩
           rw [aq, aq]
           refine ⟨by simp, ?_, rfl⟩
           rw [hsh.2, hvb, show Nat.blt _ r = true from by rw [Nat.blt_eq]; omega]; rfl
  ·cases hh
theorem Zx (κ : Kp) (r : Nat) (hp : fe (Pr κ) 163 (below Ng zA r)) : aw (NI κ r) ∧ ai (NI κ r) ∧ (NI κ r).P = Pr κ := ⟨(UD κ).dp hp, (U0 κ).au, rfl⟩
theorem Wd (κ : Kp) : fe (Pr κ) 163 Ng := aw.me Ng zA (NI κ) (Zx κ) (Xg κ)
noncomputable def KH (κ : Kp) : Env := (Q2 κ).au 163 Ng
theorem XR (κ : Kp) : aw (KH κ) := (UD κ).dp (Wd κ)
theorem Tl (κ : Kp) : ai (KH κ) := (U0 κ).au
structure NR where
 ds : List AV
 rel : ByteArray
 l : List AV
 vs : List AV
 bB : List AV
 fi : Int
 i : Int
abbrev Nd (a : NR) : S := sp 45 [(0, .ae 62 a.ds), (2, .ae 9 a.vs), (3, .ae 3 a.bB), (5, .ptr 0 0 [] 0), (9, .int a.fi), (11, .int a.i)] [.box 38 (.agg [.lit (.string a.rel), .ae 52 a.l])]
theorem Xa (κ : Kp) (a : NR) (I : Nat → S → Prop) (n : Nat) (K : Exit → S → Prop) : (vc (KH κ) 12 140 none 0 (ag (Pr κ).toProgram 140 3) (Nd a) (bC (KH κ) 140 3 0 I n K)) = (
 letI z2 := nth a.l a.i.toNat
 letI z1 := Tm.mk (toInt (ad z2 0)) (toStr (ad z2 1)) (toInt (ad z2 2)) (aa (ah (ad z2 3)))
 letI z3 := ah (ad (nth a.ds a.fi.toNat) 2)
 ax (decide (a.i < (↑(a.l.length) : Int))) (aZ (decide ((0 : Int) ≤ a.i) && decide (a.i < (↑(a.l.length) : Int))) (aZ (decide ((0 : Int) ≤ a.fi) && decide (a.fi
 < (↑(a.ds.length) : Int))) (aZ (decide ((0 : Int) ≤ a.i) && decide (a.i < (↑(List.length z3) : Int))) (aZ (Tm.sh z1 && fH a.vs a.bB (Tm.vars z1)) (ax (!Tm.fits
 (bk (List.map toStr a.vs)) z1 (toInt (nth z3 a.i.toNat)) (dy a.bB)) (K Exit.ret (sp 45 [(8, AV.bool false)] [])) (∃ (m : Nat), m < n ∧ I m (sp 45 [(0, AV.ae 62
 a.ds), (2, AV.ae 9 a.vs), (3, AV.ae 3 a.bB), (5, AV.ptr 0 0 [] 0), (9, AV.int a.fi), (11, AV.int (IntKind.wrap IntKind.i64 (a.i + (1 : Int))))] [Obj.box 38
 (AV.agg [AV.str a.rel, AV.ae 52 a.l])]))))))) (K (Exit.exit 0) (sp 45 [] []))) := by kernel_rfl
def JT (a : NR) : Bool := dH (bk (a.vs.map toStr)) ((fr a.ds a.fi).drop a.i.toNat) (aa (a.l.drop a.i.toNat)) (dy a.bB)
def IC (a : NR) : Prop := 0 ≤ a.fi ∧ a.fi < a.ds.length ∧ (fr a.ds a.fi).length = a.l.length ∧ a.l.length ≤ aI ∧ 0 ≤ a.i ∧ a.i ≤ a.l.length ∧ tg (aa (a.l.drop a.i.toNat)) = true ∧ fH a.vs a.bB (an (aa (a.l.drop a.i.toNat))) = true
def EI (a : NR) : Out (Exit × S) := .ax (JT a) (.one (.exit 0, sp 45 [] [])) (.one (.ret, sp 45 [(8, .bool false)] []))
theorem ZE (κ : Kp) : bg (KH κ) 12 140 3 (aK 0 Nd IC EI) := by
 refine aO (fun a => a.l.length - a.i.toNat) ?_
 rintro ⟨ds, rel, l, vs, bB, fi, i⟩ K ⟨q1, q2, q3, h1, h2, h3, h5, h6⟩ ho
 simp only at q1 q2 q3 h1 h2 h3 h5 h6
 rw [show (KH κ).P = Pr κ from rfl]
 refine Eq.mpr (Xa κ ⟨ds, rel, l, vs, bB, fi, i⟩ _ _ K) ?_
 simp only [aI] at h1
 simp only [EI, Out.run, af] at ho
 have hwl : (ah (ad (nth ds fi.toNat) 2)).length = (fr ds fi).length := by simp [fr]
 rw [af, aa0, aa2]
 refine ⟨fun hi => ?_, fun hi => ?_⟩
 ·simp only at hi
  have hk : i.toNat < l.length := by omega
  have e := cy l i.toNat hk
  have ew := yG (ds := ds) (i := fi) (k := i.toNat) (by omega)
  rw [e, tg, aa1] at h5
  rw [e, an] at h6
  generalize hwt : toInt (nth (ah (ad (nth ds fi.toNat) 2)) i.toNat) = wt at ew
  have hd : JT ⟨ds, rel, l, vs, bB, fi, i⟩ = ((bI (nth l i.toNat)).fits (bk (vs.map toStr)) wt (dy bB) && JT ⟨ds, rel, l, vs, bB, fi, i + 1⟩) := by
   unfold JT
   simp only [show (i + 1).toNat = i.toNat + 1 by omega]
   rw [e, ew, dH]
  rw [hd] at ho
  simp only [← bX]
  simp only [aq, aa1, aa0, hwl]
  refine ⟨⟨h2, hi⟩, ⟨q1, q2⟩, ⟨h2, by omega⟩, ⟨h5.1, j4 h6 fun s hs => ab5 _ hs⟩, ?_⟩
  rw [af]
  refine ⟨fun e1 => ho.2 (by rw [show (bI (nth l i.toNat)).fits (bk (vs.map toStr)) wt (dy bB) = false by simpa using e1]; rfl), fun e1 => ?_⟩
  rw [show (bI (nth l i.toNat)).fits (bk (vs.map toStr)) wt (dy bB) = true by simpa using e1, ac0] at ho
  rw [aU (n := i + 1) (by omega) (by omega)]
  refine ⟨_, ?_, ⟨ds, rel, l, vs, bB, fi, i + 1⟩, rfl, ⟨q1, q2, q3, by simpa [aI] using h1, by simp only; omega, by simp only; omega, ?_, ?_⟩, rfl, ?_⟩
  ·simp only; omega
  ·simp only [show (i + 1).toNat = i.toNat + 1 by omega]; exact h5.2
  ·simp only [show (i + 1).toNat = i.toNat + 1 by omega]
   exact j4 h6 fun s hs => ab4 _ hs
  ·simp only [EI, Out.run, af]
   exact ho
 ·simp only at hi
  have hd : JT ⟨ds, rel, l, vs, bB, fi, i⟩ = true := by
   unfold JT
   simp only
   rw [aa8 (show l.length ≤ i.toNat by omega), aa8 (show (fr ds fi).length ≤ i.toNat by omega)]; rfl
  rw [hd] at ho
  exact ho.1 rfl
noncomputable def G4 (κ : Kp) : Env := (KH κ).aj 140 3 (aK 0 Nd IC EI)
theorem S0 (κ : Kp) : aw (G4 κ) := (XR κ).aj (Tl κ) (ZE κ)
theorem N6 (κ : Kp) : ai (G4 κ) := (Tl κ).aj aE
theorem yFa (κ : Kp) (ds : List AV) (rel : ByteArray) (l vs bB : List AV) (K : AV → List Dn.Obj → Prop) : (a9 (G4 κ) 12 140 [.ae 62 ds, .agg [.lit (.string rel), .ae 52 l], .ae 9 vs, .ae 3 bB] [] K) = (
 letI z1 := Pg.toProgram (Env.P (KH κ))
 ∃ (a : List AV × ByteArray), ([AV.ae 62 ds, AV.str rel], az) = ([AV.ae 62 a.1, AV.str a.2], az) ∧ jc a ∧ ag z1 140 3 = ag z1 140 3 ∧ ∃ (a_1 : NR), sp 45 [(0,
 AV.ae 62 ds), (2, AV.ae 9 vs), (3, AV.ae 3 bB), (5, AV.ptr 0 0 [] 0), (9, AV.int (jw a.2 a.1)), (11, AV.int 0)] [Obj.box 38 (AV.agg [AV.str rel, AV.ae 52 l])] =
 sp 45 [(0, AV.ae 62 a_1.ds), (2, AV.ae 9 a_1.vs), (3, AV.ae 3 a_1.bB), (5, AV.ptr 0 0 [] 0), (9, AV.int a_1.fi), (11, AV.int a_1.i)] [Obj.box 38 (AV.agg [AV.str
 a_1.rel, AV.ae 52 a_1.l])] ∧ ((0 : Int) ≤ a_1.fi ∧ a_1.fi < (↑(a_1.ds.length) : Int) ∧ List.length (fr a_1.ds a_1.fi) = a_1.l.length ∧ a_1.l.length ≤
 9223372036854775807 ∧ (0 : Int) ≤ a_1.i ∧ a_1.i ≤ (↑(a_1.l.length) : Int) ∧ tg (aa (List.drop a_1.i.toNat a_1.l)) = true ∧ fH a_1.vs a_1.bB (an (aa (List.drop
 a_1.i.toNat a_1.l))) = true) ∧ ax (JT a_1) (K (AV.bool true) []) (K (AV.bool false) [])) := by kernel_rfl
def Rv : List AV → Option (Bool × AV)
 | [.ae 62 ds, .agg [.lit (.string rel), .ae 52 l], .ae 9 vs, .ae 3 bB] =>
  some (decide (ds.length ≤ aI) && decide (l.length ≤ aI) && decide (known (aQ ds) ⟨rel, aa l⟩ = 0) && tg (aa l) && fH vs bB (an (aa l)), .bool (dH (bk (vs.map toStr)) (aV (aQ ds) rel) (aa l) (dy bB)))
 | _ => none
theorem pFa (κ : Kp) : bM (G4 κ) 12 140 Rv := by
 intro args x hh
 unfold Rv at hh
 split at hh
 ·rename_i ds rel l vs bB
  simp only [aa3, aa9, aa1, aa0] at hh
  obtain ⟨⟨⟨⟨⟨h1, h2⟩, h3⟩, h4⟩, h5⟩, rfl⟩ := hh
  refine ⟨_, rfl, rfl, ?_⟩
  refine Eq.mpr (yFa κ ds rel l vs bB _) ?_
  obtain ⟨k, hf, e2, e3, e4, e5⟩ := Di h3
  refine ⟨(ds, rel), rfl, h1, ?_⟩
  simp only [e2]
  refine ⟨trivial, ⟨ds, rel, l, vs, bB, k, 0⟩, rfl, ⟨by simp only; omega, by simp only; omega, e5, h2, by simp only; omega, by simp only; omega, by simp only [ab8, ab0]; exact h4, by simp only [ab8, ab0]; exact h5⟩, ?_⟩
  have hd : JT ⟨ds, rel, l, vs, bB, k, 0⟩ = dH (bk (vs.map toStr)) (aV (aQ ds) rel) (aa l) (dy bB) := by
   unfold JT; simp only [ab8, ab0]; rw [e4]
  rw [hd, af]
  exact ⟨fun e => cO e.symm, fun e => cO e.symm⟩
 ·cases hh
noncomputable def NN (κ : Kp) : Env := (G4 κ).au 140 Rv
theorem ZT (κ : Kp) : aw (NN κ) := (S0 κ).au (N6 κ) (pFa κ)
theorem UA (κ : Kp) : ai (NN κ) := (N6 κ).au
theorem ZB (κ : Kp) (ds : List AV) (op : Int) (rel : ByteArray) (l : List AV) (u v : AT) (vs bB : List AV) (K : AV → List Dn.Obj → Prop) : (a9 (NN κ) 12 141 [.ae 62 ds, .agg [.int op, .agg [.lit (.string rel), .ae 52 l], cI u, cI v], .ae 9 vs, .ae 3 bB] [] K) = (
 letI z2 := Tm.mk u.op u.s u.n (aa u.l)
 letI z3 := Tm.mk v.op v.s v.n (aa v.l)
 letI z4 := bk (List.map toStr vs)
 letI z5 := dH z4 (aV (aQ ds) rel) (aa l) (dy bB)
 letI z6 := Tm.sh z2 && fH vs bB (Tm.vars z2)
 letI z7 := Tm.sh z3 && fH vs bB (Tm.vars z3)
 letI z8 := K (AV.bool false) []
 letI z9 := Tm.fits z4 z2 (1 : Int) (dy bB)
 letI z10 := Tm.fits z4 z3 (1 : Int) (dy bB)
 letI z11 := K (AV.lit (Value.bool (Tm.fits z4 z3 (2 : Int) (dy bB)))) []
 letI z12 := K (AV.bool true) []
 letI z1 := aZ (decide (ds.length ≤ 9223372036854775807) && decide (l.length ≤ 9223372036854775807) && decide (known (aQ ds) { rel := rel, l := aa l } = (0 : Int)) && tg (aa l) && fH vs bB (an (aa l))) (ax (op == (1 : Int)) (K (AV.bool z5) []) (ax (op == (2 : Int)) (K (AV.bool z5) []) (aZ z6 (ax (op == (7 : Int)) (ax z5 (ax z9 z12 z8) z8) (aZ z7 (ax z5 (ax z9 (K (AV.lit (Value.bool z10)) []) z8) z8))))))
 letI z13 := Tm.fits z4 z2 (2 : Int) (dy bB)
 ax (decide (op ≥ (3 : Int))) (ax (decide (op ≤ (6 : Int))) (aZ z6 (ax z9 (aZ z7 (aZ z6 (ax z13 (aZ z7 (ax z10 z12 z11)) (ax z10 z12 z8)))) (aZ z6 (ax z13 (aZ z7
 z11) z8)))) z1) z1) := by kernel_rfl
theorem PS (κ : Kp) {ds : List AV} {op : Int} {rel : ByteArray} {l : List AV} {u v : AT} {vs bB : List AV} {K : AV → List Dn.Obj → Prop} (h1 : ds.length ≤ aI) (h2 : l.length ≤ aI) (h3 : cX op = false → known (aQ ds) ⟨rel, aa l⟩ = 0) (h4 : tg (aa l) = true) (hu : (decide (op = 1) || decide (op = 2)) = false → u.tm.sh = true) (hv : (decide (op = 1) || decide (op = 2)) = false → op ≠ 7 → v.tm.sh = true) (h5 : fH vs bB (cx ⟨op, ⟨rel, aa l⟩, u.tm, v.tm⟩) = true) (ho : K (.bool (eF (bk (vs.map toStr)) (aQ ds) ⟨op, ⟨rel, aa l⟩, u.tm, v.tm⟩ (dy bB))) []) : a9 (NN κ) 12 141 [.ae 62 ds, .agg [.int op, .agg [.lit (.string rel), .ae 52 l], cI u, cI v], .ae 9 vs, .ae 3 bB] [] K := by
 refine Eq.mpr (ZB κ ds op rel l u v vs bB K) ?_
 have eu : Tm.mk u.op u.s u.n (aa u.l) = u.tm := rfl
 have ev : Tm.mk v.op v.s v.n (aa v.l) = v.tm := rfl
 have ku : fH vs bB u.tm.vars = true := j4 h5 fun s hs => mC hs
 have kv : fH vs bB v.tm.vars = true := j4 h5 fun s hs => oX hs
 have ka : fH vs bB (an (aa l)) = true := j4 h5 fun s hs => rm hs
 have g1 : decide (ds.length ≤ 9223372036854775807) = true := aa6 h1
 have g2 : decide (l.length ≤ 9223372036854775807) = true := aa6 h2
 simp only [eu, ev, ku, kv, ka, g1, g2, h4, Bool.and_true, ac0]
 unfold eF at ho
 simp only at ho
 generalize u.tm.fits (bk (vs.map toStr)) 1 (dy bB) = p1 at ho ⊢
 generalize u.tm.fits (bk (vs.map toStr)) 2 (dy bB) = p2 at ho ⊢
 generalize v.tm.fits (bk (vs.map toStr)) 1 (dy bB) = q1 at ho ⊢
 generalize v.tm.fits (bk (vs.map toStr)) 2 (dy bB) = q2 at ho ⊢
 generalize dH (bk (vs.map toStr)) (aV (aQ ds) rel) (aa l) (dy bB) = a at ho ⊢
 by_cases hc : cX op = true
 ·have hge : decide (op ≥ 3) = true ∧ decide (op ≤ 6) = true := by
   have : (decide (3 ≤ op) && decide (op ≤ 6)) = true := hc
   rw [aa1] at this
   exact this
  have h12 : (decide (op = 1) || decide (op = 2)) = false := by
   have := hge.1
   rw [aa0] at this
   rw [Bool.or_eq_false_iff, aa2, aa2]; omega
  have h7 : op ≠ 7 := by
   have := hge.2
   rw [aa0] at this
   omega
  rw [hge.1, hge.2, hu h12, hv h12 h7]
  rw [hc, aa7] at ho
  revert ho
  cases p1 <;> cases p2 <;> cases q1 <;> cases q2 <;> intro ho <;> simpa only [aq, af, Bool.false_eq_true, false_implies, true_implies, true_and, and_true, reduceCtorEq, Bool.or_true, Bool.or_false, Bool.and_true, Bool.and_false, Bool.true_or, Bool.false_or] using ho
 ·have hc : cX op = false := by simpa using hc
  rw [hc, aa5] at ho
  have hk : decide (known (aQ ds) ⟨rel, aa l⟩ = 0) = true := aa6 (h3 hc)
  rw [hk]
  have hgl : decide (op ≥ 3) = true → decide (op ≤ 6) = false := fun hge => by
   have : (decide (3 ≤ op) && decide (op ≤ 6)) = false := hc
   rw [show decide (3 ≤ op) = true from hge, ac0] at this
   exact this
  have fin : ax (op == 1) (K (AV.bool a) []) (ax (op == 2) (K (AV.bool a) []) (aZ u.tm.sh (ax (op == 7) (ax a (ax p1 (K (AV.bool true) []) (K (AV.bool false) [])) (K (AV.bool false) [])) (aZ v.tm.sh (ax a (ax p1 (K (AV.lit (Value.bool q1)) []) (K (AV.bool false) [])) (K (AV.bool false) [])))))) := by
   simp only [Fo]
   cases e1 : decide (op = 1) with
   | true => rw [e1] at ho; exact ho
   | false =>
    cases e2 : decide (op = 2) with
    | true => rw [e1, e2] at ho; exact ho
    | false =>
     have h12 : (decide (op = 1) || decide (op = 2)) = false := by rw [e1, e2]; rfl
     rw [h12, aa5] at ho
     rw [hu h12]
     cases e7 : decide (op = 7) with
     | true =>
      rw [e7] at ho
      revert ho
      cases a <;> cases p1 <;> intro ho <;> exact ho
     | false =>
      rw [aa2] at e7
      rw [hv h12 e7]
      rw [aa4 e7] at ho
      revert ho
      cases a <;> cases p1 <;> cases q1 <;> intro ho <;> exact ho
  cases hge : decide (op ≥ 3) with
  | true => rw [hgl hge]; exact fin
  | false => exact fin
def RX : List AV → Option (Bool × AV)
 | [.ae 62 ds, .agg [.lit (.int .i64 op), .agg [.lit (.string rel), .ae 52 l], .agg [.lit (.int .i64 o1), .lit (.string s1), .lit (.int .i64 n1), .ae 52 l1], .agg [.lit (.int .i64 o2), .lit (.string s2), .lit (.int .i64 n2), .ae 52 l2]], .ae 9 vs, .ae 3 bB] =>
  some (decide (ds.length ≤ aI) && decide (l.length ≤ aI) && (cX op || decide (known (aQ ds) ⟨rel, aa l⟩ = 0)) && tg (aa l) && (decide (op = 1) || decide (op = 2) || (Tm.mk o1 s1 n1 (aa l1)).sh) && (decide (op = 1) || decide (op = 2) || decide (op = 7) || (Tm.mk o2 s2 n2 (aa l2)).sh) && fH vs bB (cx ⟨op, ⟨rel, aa l⟩, .mk o1 s1 n1 (aa l1), .mk o2 s2 n2 (aa l2)⟩), .bool (eF (bk (vs.map toStr)) (aQ ds) ⟨op, ⟨rel, aa l⟩, .mk o1 s1 n1 (aa l1), .mk o2 s2 n2 (aa l2)⟩ (dy bB)))
 | _ => none
theorem XK (κ : Kp) : bM (NN κ) 12 141 RX := by
 intro args x hh
 unfold RX at hh
 split at hh
 ·rename_i ds op rel l o1 s1 n1 l1 o2 s2 n2 l2 vs bB
  simp only [aa3, aa9, aa1, aa0] at hh
  obtain ⟨⟨⟨⟨⟨⟨⟨h1, h2⟩, h3⟩, h4⟩, h5⟩, h6⟩, h7⟩, rfl⟩ := hh
  refine ⟨_, rfl, rfl, ?_⟩
  exact PS κ (u := ⟨o1, s1, n1, l1⟩) (v := ⟨o2, s2, n2, l2⟩) h1 h2 (fun e => by rw [e] at h3; simpa using h3) h4 (fun e => by rw [e] at h5; exact h5) (fun e e7 => by rw [e, aa4 e7] at h6; exact h6) h7 (cO rfl)
 ·cases hh
noncomputable def Lj (κ : Kp) : Env := (NN κ).au 141 RX
theorem eFm (κ : Kp) : aw (Lj κ) := (ZT κ).au (UA κ) (XK κ)
theorem Up (κ : Kp) : ai (Lj κ) := (UA κ).au
structure NJ where
 ds : List AV
 r : b5
 vs : List AV
 bB : List AV
 ok : Bool
 i : Int
abbrev MC (a : NJ) : S := sp 37 [(0, .ae 62 a.ds), (2, .ae 9 a.vs), (3, .ae 3 a.bB), (5, .ptr 0 0 [] 0), (9, .bool a.ok), (10, .int a.i)] [.box 41 (aF a.r)]
theorem xFq (κ : Kp) (a : NJ) (I : Nat → S → Prop) (n : Nat) (K : Exit → S → Prop) : (vc (Lj κ) 12 103 none 0 (ag (Pr κ).toProgram 103 3) (MC a) (bC (Lj κ) 103 3 0 I n K)) = (
 letI z1 := nth a.r.bl a.i.toNat
 letI z2 := ah (ad (ad z1 1) 1)
 letI z3 := ad z1 2
 letI z4 := ad z1 3
 letI z5 := K (Exit.exit 0) (sp 37 [(9, AV.bool a.ok)] [])
 letI z6 := ad z1 0
 letI z7 := aa (ah (ad z3 3))
 letI z8 := aa (ah (ad z4 3))
 letI z9 := toInt (ad z3 0)
 letI z10 := toStr (ad z3 1)
 letI z11 := toInt (ad z3 2)
 letI z12 := toInt (ad z4 0)
 letI z13 := toStr (ad z4 1)
 letI z14 := toInt (ad z4 2)
 letI z15 := ad (ad z1 1) 0
 ax (decide (a.i < (↑(List.length a.r.bl) : Int))) (ax a.ok (aZ (decide ((0 : Int) ≤ a.i) && decide (a.i < (↑(List.length a.r.bl) : Int))) (aZ (decide (a.ds.length ≤ 9223372036854775807) && decide (List.length z2 ≤ 9223372036854775807) && (cX (toInt z6) || decide (known (aQ a.ds) {rel := toStr z15, l := aa z2 } = (0 : Int))) && tg (aa z2) && (decide (toInt z6 = (1 : Int)) || decide (toInt z6 = (2 : Int)) || Tm.sh (Tm.mk z9 z10 z11 z7)) && (decide (toInt z6 = (1 : Int)) || decide (toInt z6 = (2 : Int)) || decide (toInt z6 = (7 : Int)) || Tm.sh (Tm.mk z12 z13 z14 z8)) && fH a.vs a.bB (cx {op := toInt z6, a := { rel := toStr z15, l := aa z2 }, x := Tm.mk z9 z10 z11 z7, y := Tm.mk z12 z13 z14 z8 })) (∃ (m : Nat), m < n ∧ I m (sp 37 [(0, AV.ae 62 a.ds), (2, AV.ae 9 a.vs), (3, AV.ae 3 a.bB), (5, AV.ptr 0 0 [] 0), (9, AV.lit (Value.bool (eF (bk (List.map toStr a.vs)) (aQ a.ds) {op := toInt z6, a := { rel := toStr z15, l := aa z2 }, x := Tm.mk z9 z10 z11 z7, y := Tm.mk z12 z13 z14 z8 } (dy a.bB)))), (10, AV.int (IntKind.wrap IntKind.i64 (a.i + (1 : Int))))] [Obj.box 41 (AV.agg [AV.agg [AV.str a.r.rel, AV.ae 52 a.r.hl], AV.ae 55 a.r.bl, AV.int a.r.line])])))) z5) z5) := by kernel_rfl
def rI (ds vs bB : List AV) (l : Lt) : Bool := decide (l.a.l.length ≤ aI) && (cX l.op || decide (known (aQ ds) l.a = 0)) && tg l.a.l && (decide (l.op = 1) || decide (l.op = 2) || l.x.sh) && (decide (l.op = 1) || decide (l.op = 2) || decide (l.op = 7) || l.y.sh) && fH vs bB (cx l)
def ME (a : NJ) : Bool := (bn (a.r.bl.drop a.i.toNat)).all fun l => eF (bk (a.vs.map toStr)) (aQ a.ds) l (dy a.bB)
def Jn (a : NJ) : Prop := a.ds.length ≤ aI ∧ a.r.bl.length ≤ aI ∧ 0 ≤ a.i ∧ a.i ≤ a.r.bl.length ∧ (bn (a.r.bl.drop a.i.toNat)).all (rI a.ds a.vs a.bB) = true
def Ds (a : NJ) : Out (Exit × S) := .one (.exit 0, sp 37 [(9, .bool (a.ok && ME a))] [])
theorem rk (l : List AV) (i : Nat) (h : i < l.length) : bn (l.drop i) = bz (nth l i) :: bn (l.drop (i + 1)) := by
 rw [ab1 h, bx l i h]; rfl
theorem VW (κ : Kp) : bg (Lj κ) 12 103 3 (aK 0 MC Jn Ds) := by
 refine aO (fun a => a.r.bl.length - a.i.toNat) ?_
 rintro ⟨ds, r, vs, bB, ok, i⟩ K ⟨q1, h1, h2, h3, h5⟩ ho
 simp only at q1 h1 h2 h3 h5
 rw [show (Lj κ).P = Pr κ from rfl]
 refine Eq.mpr (xFq κ ⟨ds, r, vs, bB, ok, i⟩ _ _ K) ?_
 simp only [aI] at h1
 simp only [Ds, Out.run] at ho
 rw [af, aa0, aa2]
 refine ⟨fun hi => ?_, fun hi => ?_⟩
 ·simp only at hi
  have hk : i.toNat < r.bl.length := by omega
  have e := rk r.bl i.toNat hk
  rw [e, ac1, aa1] at h5
  have hd : ME ⟨ds, r, vs, bB, ok, i⟩ = (eF (bk (vs.map toStr)) (aQ ds) (bz (nth r.bl i.toNat)) (dy bB) && ME ⟨ds, r, vs, bB, ok, i + 1⟩) := by
   unfold ME
   simp only [show (i + 1).toNat = i.toNat + 1 by omega]
   rw [e, ac1]
  cases ok with
  | false => rw [Bool.false_and] at ho; exact ho
  | true =>
   rw [hd, ac0] at ho
   refine af.2 ⟨fun _ => ?_, fun h => (by cases h)⟩
   simp only [← bX]
   rw [aq, aa1, aa0, aa0]
   refine ⟨⟨h2, hi⟩, aq.2 ⟨?_, ?_⟩⟩
   ·have := h5.1
    unfold rI at this
    rw [show (bz (nth r.bl i.toNat)).a.l.length = (ah (ad (ad (nth r.bl i.toNat) 1) 1)).length from cL _] at this
    rw [show decide (ds.length ≤ 9223372036854775807) = true from aa6 q1, ac0]
    exact this
   ·rw [aU (n := i + 1) (by omega) (by omega)]
    refine ⟨_, ?_, ⟨ds, r, vs, bB, eF (bk (vs.map toStr)) (aQ ds) (bz (nth r.bl i.toNat)) (dy bB), i + 1⟩, rfl, ⟨q1, by simpa [aI] using h1, by simp only; omega, by simp only; omega, ?_⟩, rfl, ?_⟩
    ·simp only; omega
    ·simp only [show (i + 1).toNat = i.toNat + 1 by omega]; exact h5.2
    ·simp only [Ds, Out.run]
     exact ho
 ·simp only at hi
  have hd : ME ⟨ds, r, vs, bB, ok, i⟩ = true := by
   unfold ME
   simp only
   rw [aa8 (show r.bl.length ≤ i.toNat by omega)]; rfl
  rw [hd, Bool.and_true] at ho
  exact ho
noncomputable def OJ (κ : Kp) : Env := (Lj κ).aj 103 3 (aK 0 MC Jn Ds)
theorem Zt (κ : Kp) : aw (OJ κ) := (eFm κ).aj (Up κ) (VW κ)
theorem TH (κ : Kp) : ai (OJ κ) := (Up κ).aj aE
theorem yFq (κ : Kp) (r : b5) (ds vs bB : List AV) (K : AV → List Dn.Obj → Prop) : (a9 (OJ κ) 12 103 [.ae 62 ds, aF r, .ae 9 vs, .ae 3 bB] [] K) = (
 letI z1 := Pg.toProgram (Env.P (Lj κ))
 aZ (decide (ds.length ≤ 9223372036854775807) && decide (r.hl.length ≤ 9223372036854775807) && decide (known (aQ ds) { rel := r.rel, l := aa r.hl } = (0 : Int)) && tg (aa r.hl) && fH vs bB (an (aa r.hl))) (ag z1 103 3 = ag z1 103 3 ∧ ∃ (a : NJ), sp 37 [(0, AV.ae 62 ds), (2, AV.ae 9 vs), (3, AV.ae 3 bB), (5, AV.ptr 0 0 [] 0), (9, AV.lit (Value.bool (dH (bk (List.map toStr vs)) (aV (aQ ds) r.rel) (aa r.hl) (dy bB)))), (10, AV.int 0)] [Obj.box 41 (AV.agg [AV.agg [AV.str r.rel, AV.ae 52 r.hl], AV.ae 55 r.bl, AV.int r.line])] = sp 37 [(0, AV.ae 62 a.ds), (2, AV.ae 9 a.vs), (3, AV.ae 3 a.bB), (5, AV.ptr 0 0 [] 0), (9, AV.bool a.ok), (10, AV.int a.i)] [Obj.box 41 (AV.agg [AV.agg [AV.str a.r.rel, AV.ae 52 a.r.hl], AV.ae 55 a.r.bl, AV.int a.r.line])] ∧ (a.ds.length ≤ 9223372036854775807 ∧ List.length a.r.bl ≤ 9223372036854775807 ∧ (0 : Int) ≤ a.i ∧ a.i ≤ (↑(List.length a.r.bl) : Int) ∧ List.all (bn (List.drop a.i.toNat a.r.bl)) (rI a.ds a.vs a.bB) = true) ∧ K (AV.bool (a.ok && ME a)) [])) := by kernel_rfl
def Sg : List AV → Option (Bool × AV)
 | [.ae 62 ds, .agg [.agg [.lit (.string rel), .ae 52 hl], .ae 55 bl, .lit (.int .i64 line)], .ae 9 vs, .ae 3 bB] =>
  some (decide (ds.length ≤ aI) && decide (hl.length ≤ aI) && decide (bl.length ≤ aI) && decide (known (aQ ds) ⟨rel, aa hl⟩ = 0) && tg (aa hl) && fH vs bB (an (aa hl)) && (bn bl).all (rI ds vs bB), .bool (iG (bk (vs.map toStr)) (aQ ds) ⟨⟨rel, aa hl⟩, bn bl⟩ (dy bB)))
 | _ => none
theorem WZ (κ : Kp) : bM (OJ κ) 12 103 Sg := by
 intro args x hh
 unfold Sg at hh
 split at hh
 ·rename_i ds rel hl bl line vs bB
  simp only [aa3, aa9, aa1, aa0] at hh
  obtain ⟨⟨⟨⟨⟨⟨⟨h1, h2⟩, h3⟩, h4⟩, h5⟩, h6⟩, h7⟩, rfl⟩ := hh
  refine ⟨_, rfl, rfl, ?_⟩
  refine Eq.mpr (yFq κ ⟨[], [], rel, hl, bl, line, 0⟩ ds vs bB _) ?_
  refine aq.2 ⟨?_, ?_⟩
  ·rw [show decide (ds.length ≤ 9223372036854775807) = true from aa6 h1, show decide (hl.length ≤ 9223372036854775807) = true from aa6 h2, h4, h5, h6]; rfl
  ·refine ⟨rfl, ⟨ds, ⟨[], [], rel, hl, bl, line, 0⟩, vs, bB, _, 0⟩, rfl, ⟨h1, h3, by simp only; omega, by simp only; omega, h7⟩, ?_⟩
   exact cO rfl
 ·cases hh
noncomputable def zl (κ : Kp) : Env := (OJ κ).au 103 Sg
theorem Sf (κ : Kp) : aw (zl κ) := (Zt κ).au (TH κ) (WZ κ)
theorem Qp (κ : Kp) : ai (zl κ) := (TH κ).au
end Go.Proofs.YtdpmikfheebicaaGreatDoor
