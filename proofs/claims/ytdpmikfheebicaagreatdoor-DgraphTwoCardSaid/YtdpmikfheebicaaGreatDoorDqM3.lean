import Derived.Test.YtdpmikfheebicaaGreatDoorDqM2
import Derived.Test.YtdpmikfheebicaaGreatDoorDqM1
namespace Go.Proofs.YtdpmikfheebicaaGreatDoor
open Go Go.Dn Go.Rl Go.Proofs
attribute [local irreducible] bh vc
set_option maxRecDepth 20000
structure Bp where
 xs : List AV
 more : List AV
 t : AV
 m : List AV
 i : Int
abbrev Ei (a : Bp) : AV := nI 52 (nth a.m a.i.toNat)
def J6 : List Nat := [120, 170, 158]
def JR (a : AV) : List AV × List Dn.Obj := ([.ct 0, .ptr 1 0 [] 0], [.ext (some (np 52 a)), .box 52 (nI 52 a)])
def Mp (n : Nat) (a : AV) : Prop := (cz a).oi = n ∧ n ≤ 100000
def DE (_ : AV) : Out (AV × List Dn.Obj) := .all (fun st' => vq st') fun st' => .one (.bj [], st')
def HL (n : Nat) : cK := aW JR (Mp n) DE
noncomputable def ze (κ : Kp) (r : Nat) : Env := (PA κ).au 170 fun args st K => ∃ m, m < r ∧ HL m args st K
noncomputable abbrev Nb (a : Bp) (κ : Kp) (st : LoopState) (p : Option Code) : Dn.Obj :=
 .loop (gL (Pr κ).toProgram 170 6 st p (gy (bG 25) [(2, .ptr 2 0 [] 0), (4, .ptr 3 0 [] 0), (11, .ae 52 a.m), (12, .int a.m.length), (13, .int a.i), (14, .bool true),
  (15, .iz 52 (nth a.m a.i.toNat)), (16, Ei a), (17, Ei a), (18, .bL 170 [.ptr 4 0 [] 0])]))
noncomputable abbrev nD (κ : Kp) (a : Bp) : List Dn.Obj := [.ext (some a.xs), .box 52 (nI 52 a.t), .box 178 (.ct 0), .box 52 (Ei a), .box 52 (Ei a), Nb a κ .ready none]
noncomputable abbrev wh (κ : Kp) (a : Bp) (o : Option (List AV)) (st : LoopState) (p : Option Code) : List Dn.Obj := [.ext o, .box 52 (nI 52 a.t), .box 178 (.ct 0), .box 52 (Ei a), .dead, Nb a κ st p]
theorem VG (κ : Kp) (a : Bp) (Q : List Dn.Obj → Prop) : (tidy (Pr κ).toProgram 6 (dO (nD κ a) (di (nD κ a) [.ptr 4 0 [] 0])) Q) = (
 letI z1 := nth a.m a.i.toNat
 letI z2 := toInt (ad z1 0)
 letI z3 := toStr (ad z1 1)
 letI z4 := toInt (ad z1 2)
 letI z5 := ai (ad z1 3)
 Q [Obj.ext (some a.xs), Obj.box 52 (AV.agg [AV.int (toInt (ad a.t 0)), AV.str (toStr (ad a.t 1)), AV.int (toInt (ad a.t 2)), AV.ae 52 (ai (ad a.t 3))]), Obj.box
 178 (AV.ct 0), Obj.box 52 (AV.agg [AV.int z2, AV.str z3, AV.int z4, AV.ae 52 z5]), Obj.dead, Dn.Obj.loop (gL Tryz.prog 170 6 LoopState.ready none (gy (bG 25)
 [(2, AV.ptr 2 0 [] 0), (4, AV.ptr 3 0 [] 0), (11, AV.ae 52 a.m), (12, AV.int (↑(a.m.length) : Int)), (13, AV.int a.i), (14, AV.bool true), (15, AV.iz 52 z1),
 (16, AV.agg [AV.int z2, AV.str z3, AV.int z4, AV.ae 52 z5]), (17, AV.agg [AV.int z2, AV.str z3, AV.int z4, AV.ae 52 z5]), (18, AV.bL 170 [AV.ptr 4 0 [] 0])]))]) := by kernel_rfl
theorem Zo (κ : Kp) (r : Nat) (a : Bp) (o : List AV) (u : AV) (Q : List Dn.Obj → Prop) (K2 : List Dn.Obj → Prop) : (iC (vc (ze κ r) 12) 5 [nI 52 u] (wh κ a (some o) .ready none) (fun r st'' => match r with | .lit (.bool true) => tidy (Pr κ).toProgram 6 st'' Q | .lit (.bool false) => K2 st'' | _ => False)) = (
 letI z2 := nth a.m a.i.toNat
 letI z3 := AV.agg [AV.int (toInt (ad a.t 0)), AV.str (toStr (ad a.t 1)), AV.int (toInt (ad a.t 2)), AV.ae 52 (ai (ad a.t 3))]
 letI z5 := toInt (ad z2 0)
 letI z6 := toStr (ad z2 1)
 letI z7 := toInt (ad z2 2)
 letI z8 := ai (ad z2 3)
 letI z1 := gy (bG 25) [(2, AV.ptr 2 0 [] 0), (4, AV.ptr 3 0 [] 0), (11, AV.ae 52 a.m), (12, AV.int (↑(a.m.length) : Int)), (13, AV.int a.i), (14, AV.bool true),
  (15, AV.iz 52 z2), (16, AV.agg [AV.int z5, AV.str z6, AV.int z7, AV.ae 52 z8]), (17, AV.agg [AV.int z5, AV.str z6, AV.int z7, AV.ae 52 z8]), (18, AV.bL 170
  [AV.ptr 4 0 [] 0])]
 letI z4 := AV.agg [AV.int z5, AV.str z6, AV.int z7, AV.ae 52 z8]
 ∃ (rest : List AV), o = AV.bj [AV.agg [AV.int (toInt (ad u 0)), AV.str (toStr (ad u 1)), AV.int (toInt (ad u 2)), AV.ae 52 (ai (ad u 3))]] :: rest ∧ Q [Obj.ext
 (some rest), Obj.box 52 z3, Obj.box 178 (AV.ct 0), Obj.box 52 z4, Obj.dead, Dn.Obj.loop (gL Tryz.prog 170 6 LoopState.ready none z1)] ∧ K2 [Obj.ext none,
 Obj.box 52 z3, Obj.box 178 (AV.ct 0), Obj.box 52 z4, Obj.dead, Dn.Obj.loop (gL Tryz.prog 170 6 LoopState.done (some Code.ret) z1), Obj.box 52 (AV.agg [AV.int
 (toInt (ad u 0)), AV.str (toStr (ad u 1)), AV.int (toInt (ad u 2)), AV.ae 52 (ai (ad u 3))])]) := by kernel_rfl
theorem Up (κ : Kp) (a : Bp) (xs : List AV) : (AV.ct 0 :: fo (kC (di (nD κ a) [.ptr 4 0 [] 0])) [.ptr 4 0 [] 0], Obj.ext (some xs) :: gn (kC (di (nD κ a) [.ptr 4 0 [] 0])) (gq (nD κ a) (di (nD κ a) [.ptr 4 0 [] 0]))) = ([.ct 0, .ptr 1 0 [] 0], [.ext (some xs), .box 52 (Ei a)]) := by kernel_rfl
theorem ZF (κ : Kp) (a : Bp) : qT (nD κ a) [.ptr 4 0 [] 0] = true := by kernel_rfl
noncomputable def Fv (κ : Kp) (r : Nat) : ep := fun caps st K => ∃ a : Bp, (caps, st) = ([AV.ptr 4 0 [] 0], nD κ a) ∧ ((cz (nth a.m a.i.toNat)).oi < r ∧ (cz (nth a.m a.i.toNat)).oi ≤ 100000 ∧ a.xs = np 52 (nth a.m a.i.toNat) ++ a.more) ∧
 (K (wh κ a (some a.more) .ready none) ∧ ∀ u : AV, K (wh κ a none .done (some .ret) ++ [.box 52 (nI 52 u)]))
theorem A9 (κ : Kp) (r : Nat) : (Fv κ r).jb := by
 rintro caps st K K' hK ⟨a, h1, h2, h3, h4⟩
 exact ⟨a, h1, h2, hK _ h3, fun u => hK _ (h4 u)⟩
theorem JW (κ : Kp) (r : Nat) (args : List AV) (st : List Dn.Obj) (K : AV → List Dn.Obj → Prop) (h : ∃ m, m < r ∧ HL m args st K) : (ze κ r).call 170 args st K := h
theorem Qx (κ : Kp) (r : Nat) : mM (ze κ r) 12 170 (Fv κ r) := by
 rintro caps st K ⟨a, h1, ⟨h2, h3, h4⟩, h5, h6⟩
 obtain ⟨rfl, rfl⟩ := Prod.mk.inj h1
 refine ⟨np 52 (nth a.m a.i.toNat), fun items st' => (∀ x, x ∈ items → qb 52 x) ∧ st' = wh κ a (some (items ++ a.more)) .ready none, ⟨ZF κ a, ?_, ?_, ?_, ?_⟩⟩
 ·refine JW κ r _ _ _ ⟨_, h2, nth a.m a.i.toNat, ?_, ⟨rfl, h3⟩, fun st' h => h⟩
  rw [Up]; rfl
 ·rw [show (ze κ r).P = Pr κ from rfl, show (nD κ a).length = 6 from rfl, VG]
  exact ⟨lu _ _ _ (Nat.lt_succ_self _), by rw [h4]; rfl⟩
 ·rintro us rest st' ⟨e1, rfl⟩
  obtain ⟨u, hu⟩ := e1 (.bj us) (by simp)
  obtain rfl := AV.bj.inj hu
  rw [show (ze κ r).P = Pr κ from rfl, show (nD κ a).length = 6 from rfl]
  refine Eq.mpr (Zo κ r a _ u _ _) ?_
  exact ⟨_, rfl, ⟨fun x hx => e1 x (by simp [hx]), rfl⟩, h6 u⟩
 ·rintro st' ⟨_, rfl⟩
  exact h5
noncomputable def xC (κ : Kp) (r : Nat) : Env := ((ze κ r).addRange 170 6 170 (Fv κ r)).dB (fun f => j6 f J6)
theorem Np (κ : Kp) (r : Nat) : ah (ze κ r) := (R9 κ).au (fun _ _ _ _ hK ⟨m, h1, h2⟩ => ⟨m, h1, aH _ _ _ _ hK h2⟩)
theorem Vr (κ : Kp) (r : Nat) (a : Bp) (I : Nat → S → Prop) (n : Nat) (K : Exit → S → Prop) : (vc (xC κ r) 12 170 none 2 (ag (Pr κ).toProgram 170 3) (sp 25 [(2, .ptr 2 0 [] 0), (11, .ae 52 a.m), (12, .int a.m.length), (13, .int a.i)] [.ext (some a.xs), .box 52 (nI 52 a.t), .box 178 (.ct 0)]) (bK (xC κ r) 170 3 2 I n K)) = (
 letI z1 := AV.agg [AV.int (toInt (ad a.t 0)), AV.str (toStr (ad a.t 1)), AV.int (toInt (ad a.t 2)), AV.ae 52 (ai (ad a.t 3))]
 aD (decide (a.i < (↑(a.m.length) : Int))) (bg (decide ((0 : Int) ≤ a.i) && decide (a.i < (↑(a.m.length) : Int))) (∃ (a_1 : Bp), ([AV.ptr 4 0 [] 0], [Obj.ext
 (some a.xs), Obj.box 52 z1, Obj.box 178 (AV.ct 0), Obj.box 52 (AV.agg [AV.int (toInt (ad (nth a.m a.i.toNat) 0)), AV.str (toStr (ad (nth a.m a.i.toNat) 1)),
 AV.int (toInt (ad (nth a.m a.i.toNat) 2)), AV.ae 52 (ai (ad (nth a.m a.i.toNat) 3))]), Obj.box 52 (AV.agg [AV.int (toInt (ad (nth a.m a.i.toNat) 0)), AV.str
 (toStr (ad (nth a.m a.i.toNat) 1)), AV.int (toInt (ad (nth a.m a.i.toNat) 2)), AV.ae 52 (ai (ad (nth a.m a.i.toNat) 3))]), Dn.Obj.loop (gL Tryz.prog 170 6
 LoopState.ready none (gy (bG 25) [(2, AV.ptr 2 0 [] 0), (4, AV.ptr 3 0 [] 0), (11, AV.ae 52 a.m), (12, AV.int (↑(a.m.length) : Int)), (13, AV.int a.i), (14,
 AV.bool true), (15, AV.iz 52 (nth a.m a.i.toNat)), (16, AV.agg [AV.int (toInt (ad (nth a.m a.i.toNat) 0)), AV.str (toStr (ad (nth a.m a.i.toNat) 1)), AV.int
 (toInt (ad (nth a.m a.i.toNat) 2)), AV.ae 52 (ai (ad (nth a.m a.i.toNat) 3))]), (17, AV.agg [AV.int (toInt (ad (nth a.m a.i.toNat) 0)), AV.str (toStr (ad (nth
 a.m a.i.toNat) 1)), AV.int (toInt (ad (nth a.m a.i.toNat) 2)), AV.ae 52 (ai (ad (nth a.m a.i.toNat) 3))]), (18, AV.bL 170 [AV.ptr 4 0 [] 0])]))]) = ([AV.ptr 4 0
 [] 0], [Obj.ext (some a_1.xs), Obj.box 52 (AV.agg [AV.int (toInt (ad a_1.t 0)), AV.str (toStr (ad a_1.t 1)), AV.int (toInt (ad a_1.t 2)), AV.ae 52 (ai (ad a_1.t
 3))]), Obj.box 178 (AV.ct 0), Obj.box 52 (AV.agg [AV.int (toInt (ad (nth a_1.m a_1.i.toNat) 0)), AV.str (toStr (ad (nth a_1.m a_1.i.toNat) 1)), AV.int (toInt
 (ad (nth a_1.m a_1.i.toNat) 2)), AV.ae 52 (ai (ad (nth a_1.m a_1.i.toNat) 3))]), Obj.box 52 (AV.agg [AV.int (toInt (ad (nth a_1.m a_1.i.toNat) 0)), AV.str
 (toStr (ad (nth a_1.m a_1.i.toNat) 1)), AV.int (toInt (ad (nth a_1.m a_1.i.toNat) 2)), AV.ae 52 (ai (ad (nth a_1.m a_1.i.toNat) 3))]), Dn.Obj.loop (gL Tryz.prog
 170 6 LoopState.ready none (gy (bG 25) [(2, AV.ptr 2 0 [] 0), (4, AV.ptr 3 0 [] 0), (11, AV.ae 52 a_1.m), (12, AV.int (↑(a_1.m.length) : Int)), (13, AV.int
 a_1.i), (14, AV.bool true), (15, AV.iz 52 (nth a_1.m a_1.i.toNat)), (16, AV.agg [AV.int (toInt (ad (nth a_1.m a_1.i.toNat) 0)), AV.str (toStr (ad (nth a_1.m
 a_1.i.toNat) 1)), AV.int (toInt (ad (nth a_1.m a_1.i.toNat) 2)), AV.ae 52 (ai (ad (nth a_1.m a_1.i.toNat) 3))]), (17, AV.agg [AV.int (toInt (ad (nth a_1.m
 a_1.i.toNat) 0)), AV.str (toStr (ad (nth a_1.m a_1.i.toNat) 1)), AV.int (toInt (ad (nth a_1.m a_1.i.toNat) 2)), AV.ae 52 (ai (ad (nth a_1.m a_1.i.toNat) 3))]),
 (18, AV.bL 170 [AV.ptr 4 0 [] 0])]))]) ∧ (Tm.oi (cz (nth a_1.m a_1.i.toNat)) < r ∧ Tm.oi (cz (nth a_1.m a_1.i.toNat)) ≤ 100000 ∧ a_1.xs = np 52 (nth a_1.m
 a_1.i.toNat) ++ a_1.more) ∧ (∃ (m : Nat), m < n ∧ I m (sp 25 [(2, AV.ptr 2 0 [] 0), (11, AV.ae 52 a.m), (12, AV.int (↑(a.m.length) : Int)), (13, AV.int
 (IntKind.wrap IntKind.i64 (a.i + (1 : Int))))] [Obj.ext (some a_1.more), Obj.box 52 (AV.agg [AV.int (toInt (ad a_1.t 0)), AV.str (toStr (ad a_1.t 1)), AV.int
 (toInt (ad a_1.t 2)), AV.ae 52 (ai (ad a_1.t 3))]), Obj.box 178 (AV.ct 0)])) ∧ ∀ (u : AV), K Exit.ret (sp 25 [] [Obj.ext none, Obj.box 52 (AV.agg [AV.int (toInt
 (ad a_1.t 0)), AV.str (toStr (ad a_1.t 1)), AV.int (toInt (ad a_1.t 2)), AV.ae 52 (ai (ad a_1.t 3))])]))) (K (Exit.exit 0) (sp 25 [] [Obj.ext (some a.xs),
 Obj.box 52 z1]))) := by kernel_rfl
abbrev KT (a : Bp) : S := sp 25 [(2, .ptr 2 0 [] 0), (11, .ae 52 a.m), (12, .int a.m.length), (13, .int a.i)] [.ext (some a.xs), .box 52 (nI 52 a.t), .box 178 (.ct 0)]
def CP (r : Nat) (a : Bp) : Prop := a.m.length ≤ aL ∧ 0 ≤ a.i ∧ a.i ≤ a.m.length ∧ aX (aa (a.m.drop a.i.toNat)) < r ∧ aX (aa (a.m.drop a.i.toNat)) ≤ 100000 ∧ a.xs = eD 52 (a.m.drop a.i.toNat)
def FT (a : Bp) : Out (Exit × S) := .all (fun _ : Bool => True) fun b => .aD b (.one (.exit 0, sp 25 [] [.ext (some []), .box 52 (nI 52 a.t)])) (.one (.ret, sp 25 [] [.ext none, .box 52 (nI 52 a.t)]))
theorem sW (l : List AV) (i : Nat) (h : i < l.length) : aX (aa (l.drop i)) = (cz (nth l i)).oi + aX (aa (l.drop (i + 1))) := by
 rw [dM l i h, aX]
theorem TG (κ : Kp) (r : Nat) : bq (xC κ r) 12 170 3 (aO 2 KT (CP r) FT) := by
 refine aR (fun a => a.m.length - a.i.toNat) ?_
 rintro ⟨xs, more, t, m, i⟩ K ⟨h1, h2, h3, h4, h5, h6⟩ ho
 simp only at h1 h2 h3 h4 h5 h6
 rw [show (xC κ r).P = Pr κ from rfl]
 refine Eq.mpr (Vr κ r ⟨xs, more, t, m, i⟩ _ _ K) ?_
 have ho1 := ho true trivial
 have ho2 := ho false trivial
 simp only [Out.run, aD] at ho1 ho2
 simp only [aL] at h1
 simp only [af, ax, aa0, aa2, aa1]
 refine ⟨fun hi => ⟨⟨h2, hi⟩, ?_⟩, fun hi => ?_⟩
 ·have hc := sW m i.toNat (by omega)
  rw [so _ m i.toNat (by omega)] at h6
  rw [a8 (n := i + 1) (by omega) (by omega)]
  refine ⟨⟨xs, eD 52 (m.drop (i.toNat + 1)), t, m, i⟩, rfl, ⟨by simp only; omega, by simp only; omega, h6⟩, ⟨_, ?_, ⟨_, more, t, m, i + 1⟩, rfl, ⟨by simpa [aL] using h1, by simp only; omega, by simp only; omega, ?_, ?_, ?_⟩, rfl, ho⟩, fun _ => ho2⟩
  ·simp only; omega
  ·simp only [show (i + 1).toNat = i.toNat + 1 by omega]; omega
  ·simp only [show (i + 1).toNat = i.toNat + 1 by omega]; omega
  ·simp only [show (i + 1).toNat = i.toNat + 1 by omega]
 ·rw [aa8 (by omega)] at h6
  subst h6
  exact ho1
noncomputable def EN (κ : Kp) (r : Nat) : Env := (xC κ r).aj 170 3 (aO 2 KT (CP r) FT)
theorem VH (κ : Kp) (r : Nat) (t : AV) (xs : List AV) (K : AV → List Dn.Obj → Prop) : (bh (EN κ r) 12 170 [.ct 0, .ptr 1 0 [] 0] [.ext (some xs), .box 52 (nI 52 t)] K) = (
 letI z2 := ai (ad t 3)
 letI z1 := AV.agg [AV.int (toInt (ad t 0)), AV.str (toStr (ad t 1)), AV.int (toInt (ad t 2)), AV.ae 52 z2]
 letI z3 := Pg.toProgram (Env.P (xC κ r))
 ∃ (rest : List AV), xs = AV.bj [AV.agg [AV.int (toInt (ad t 0)), AV.str (toStr (ad t 1)), AV.int (toInt (ad t 2)), AV.ae 52 z2]] :: rest ∧ (ag z3 170 3 = ag z3
 170 3 ∧ ∃ (a : Bp), sp 25 [(2, AV.ptr 2 0 [] 0), (11, AV.ae 52 z2), (12, AV.int (↑(List.length z2) : Int)), (13, AV.int 0)] [Obj.ext (some rest), Obj.box 52 z1,
 Obj.box 178 (AV.ct 0)] = sp 25 [(2, AV.ptr 2 0 [] 0), (11, AV.ae 52 a.m), (12, AV.int (↑(a.m.length) : Int)), (13, AV.int a.i)] [Obj.ext (some a.xs), Obj.box 52
 (AV.agg [AV.int (toInt (ad a.t 0)), AV.str (toStr (ad a.t 1)), AV.int (toInt (ad a.t 2)), AV.ae 52 (ai (ad a.t 3))]), Obj.box 178 (AV.ct 0)] ∧ (a.m.length ≤
 9223372036854775807 ∧ (0 : Int) ≤ a.i ∧ a.i ≤ (↑(a.m.length) : Int) ∧ aX (aa (List.drop a.i.toNat a.m)) < r ∧ aX (aa (List.drop a.i.toNat a.m)) ≤ 100000 ∧ a.xs
 = eD 52 (List.drop a.i.toNat a.m)) ∧ ∀ (y : Bool), True → aD y (K (AV.bj []) [Obj.ext (some []), Obj.box 52 (AV.agg [AV.int (toInt (ad a.t 0)), AV.str (toStr
 (ad a.t 1)), AV.int (toInt (ad a.t 2)), AV.ae 52 (ai (ad a.t 3))])]) (K (AV.bj []) [Obj.ext none, Obj.box 52 (AV.agg [AV.int (toInt (ad a.t 0)), AV.str (toStr
 (ad a.t 1)), AV.int (toInt (ad a.t 2)), AV.ae 52 (ai (ad a.t 3))])])) ∧ K (AV.bj []) [Obj.ext none, Obj.box 52 z1]) := by kernel_rfl
theorem QE (κ : Kp) (r : Nat) (hp : ∀ args st K, (∃ m, m < r ∧ HL m args st K) → dF (Pr κ) 170 args st K) : ay (EN κ r) ∧ ah (EN κ r) ∧ (EN κ r).P = Pr κ :=
 have h : ay (ze κ r) := (PK κ).lC hp
 have h2 : ay (xC κ r) := (h.addRange (Np κ r) (Qx κ r)).dB _
 have hm : ah (xC κ r) := ((Np κ r).addRange (A9 κ r)).dB _
 ⟨h2.aj hm (TG κ r), hm.aj aG, rfl⟩
theorem Zf (κ : Kp) (r : Nat) : bu (EN κ r) 12 170 (HL r) := by
 refine ba ?_
 rintro t K ⟨h1, h2⟩ ho
 have hn : ∀ b, K (.bj []) [.ext none, b] := fun b => ho _ trivial
 have h0 : ∀ b, K (.bj []) [.ext (some []), b] := fun b => ho _ trivial
 refine Eq.mpr (VH κ r t _ K) ?_
 rw [cy, Tm.oi] at h1
 have hl := fu (aa (ai (ad t 3)))
 rw [eG] at hl
 rw [xI]
 refine ⟨_, rfl, ⟨rfl, ⟨_, [], t, ai (ad t 3), 0⟩, rfl, ⟨by simp only; omega, by simp only; omega, by simp only; omega, ?_, ?_, rfl⟩, ?_⟩, hn _⟩
 ·simp only [ab7, ab0]; omega
 ·simp only [ab7, ab0]; omega
 ·intro y _
  cases y
  ·exact hn _
  ·exact h0 _
def xR (a : AV) : Prop := (cz a).oi ≤ 100000
theorem U3 (κ : Kp) : ∀ args st K, aW JR xR DE args st K → dF (Pr κ) 170 args st K := by
 rintro args st K ⟨l, h1, h2, h3⟩
 exact ay.x2 HL (EN κ) (QE κ) (Zf κ) (cz l).oi args st K ⟨l, h1, ⟨rfl, h2⟩, h3⟩
noncomputable def FQ (κ : Kp) : Env := (PA κ).au 170 (aW JR xR DE)
theorem ZK (κ : Kp) : ay (FQ κ) := (PK κ).lC (U3 κ)
theorem RV (κ : Kp) : ah (FQ κ) := (R9 κ).au aH
structure r9 where
 xs : List AV
 more : List AV
 r : bQ
 bl : List AV
 ts : List AV
 i : Int
abbrev Ar (a : r9) : AV := nI 52 (nth a.ts (0 + a.i.toNat))
abbrev DQ (a : r9) : S := sp 46 [(2, .ptr 2 0 [] 0), (3, .aB 3 0 a.ts.length), (14, .ae 55 a.bl), (15, .int a.bl.length), (16, .int a.i)] [.ext (some a.xs), .box 41 (an a.r), .box 178 (.ct 0), .row 52 a.ts]
theorem QZ (κ : Kp) (a : r9) (I : Nat → S → Prop) (n : Nat) (K : Exit → S → Prop) : (vc (FQ κ) 12 158 none 2 (ag (Pr κ).toProgram 158 3) (DQ a) (bK (FQ κ) 158 3 2 I n K)) = (
 letI z1 := nth a.bl a.i.toNat
 letI z2 := ad (ad z1 1) 1
 aD (decide (a.i < (↑(a.bl.length) : Int))) (bg (decide ((0 : Int) ≤ a.i) && decide (a.i < (↑(a.bl.length) : Int))) (bg (decide ((a.ts.length + 2 + 1) * 57 ≤
 70368744177664)) (bg (decide ((a.ts.length + 2 + List.length (ai z2) + 1) * 57 ≤ 70368744177664)) (∃ (m : Nat), m < n ∧ I m (sp 46 [(2, AV.ptr 2 0 [] 0), (3,
 AV.aB 3 0 (a.ts.length + 2 + List.length (ai z2))), (14, AV.ae 55 a.bl), (15, AV.int (↑(a.bl.length) : Int)), (16, AV.int (IntKind.wrap IntKind.i64 (a.i + (1 :
 Int))))] [Obj.ext (some a.xs), Obj.box 41 (an a.r), Obj.box 178 (AV.ct 0), Obj.row 52 (List.take (a.ts.length + 2) (List.take a.ts.length a.ts ++ [AV.agg
 [AV.int (toInt (ad (ad z1 2) 0)), AV.str (toStr (ad (ad z1 2) 1)), AV.int (toInt (ad (ad z1 2) 2)), AV.ae 52 (ai (ad (ad z1 2) 3))], AV.agg [AV.int (toInt (ad
 (ad z1 3) 0)), AV.str (toStr (ad (ad z1 3) 1)), AV.int (toInt (ad (ad z1 3) 2)), AV.ae 52 (ai (ad (ad z1 3) 3))]]) ++ ai z2)]))))) (K (Exit.exit 0) (sp 46 [(2,
 AV.ptr 2 0 [] 0), (3, AV.aB 3 0 a.ts.length)] [Obj.ext (some a.xs), Obj.box 41 (an a.r), Obj.box 178 (AV.ct 0), Obj.row 52 a.ts]))) := by kernel_rfl
def c9 (l : List AV) : List AV := l.flatMap fun a => [nI 52 (ad a 2), nI 52 (ad a 3)] ++ ai (ad (ad a 1) 1)
def Ca (a : r9) : Prop := a.bl.length ≤ aL ∧ 0 ≤ a.i ∧ a.i ≤ a.bl.length ∧ (a.ts ++ c9 (a.bl.drop a.i.toNat)).length ≤ 100000
def xa (a : r9) : Out (Exit × S) := .one (.exit 0, sp 46 [(2, .ptr 2 0 [] 0), (3, .aB 3 0 (a.ts ++ c9 (a.bl.drop a.i.toNat)).length)] [.ext (some a.xs), .box 41 (an a.r), .box 178 (.ct 0), .row 52 (a.ts ++ c9 (a.bl.drop a.i.toNat))])
theorem BR (l : List AV) (i : Nat) (h : i < l.length) : c9 (l.drop i) = [nI 52 (ad (nth l i) 2), nI 52 (ad (nth l i) 3)] ++ ai (ad (ad (nth l i) 1) 1) ++ c9 (l.drop (i + 1)) := by
 rw [ab1 h, br l i h]; rfl
theorem Q8 (κ : Kp) : bq (FQ κ) 12 158 3 (aO 2 DQ Ca xa) := by
 refine aR (fun a => a.bl.length - a.i.toNat) ?_
 rintro ⟨xs, more, r, bl, ts, i⟩ K ⟨h1, h2, h3, h4⟩ ho
 simp only at h1 h2 h3 h4
 rw [show (FQ κ).P = Pr κ from rfl]
 refine Eq.mpr (QZ κ ⟨xs, more, r, bl, ts, i⟩ _ _ K) ?_
 simp only [and_self]
 simp only [xa, Out.run] at ho
 simp only [aL] at h1
 simp only [af, ax, aa0, aa2, aa1]
 refine ⟨fun hi => ⟨⟨h2, hi⟩, ?_⟩, fun hi => ?_⟩
 ·have hp := BR bl i.toNat (by omega)
  rw [hp] at h4 ho
  rw [a8 (n := i + 1) (by omega) (by omega)]
  simp only [ab8, List.length_cons, List.length_nil] at h4
  refine ⟨by omega, by omega, _, ?_, ⟨xs, more, r, bl, ts ++ ([nI 52 (ad (nth bl i.toNat) 2), nI 52 (ad (nth bl i.toNat) 3)] ++ ai (ad (ad (nth bl i.toNat) 1) 1)), i + 1⟩, ?_, ⟨by simpa [aL] using h1, by simp only; omega, by simp only; omega, ?_⟩, rfl, ?_⟩
  ·simp only; omega
  ·simp only [DQ, ab8, List.length_cons, List.length_nil, List.take_length]
   rw [List.take_of_length_le (by simp), show ts.length + 2 + (ai (ad (ad (nth bl i.toNat) 1) 1)).length = ts.length + (0 + 1 + 1 + (ai (ad (ad (nth bl i.toNat) 1) 1)).length) by omega, List.append_assoc]
   rfl
  ·simp only [ab8, List.length_cons, List.length_nil, show (i + 1).toNat = i.toNat + 1 by omega]; omega
  ·simp only [xa, Out.run, show (i + 1).toNat = i.toNat + 1 by omega]
   simpa only [List.append_assoc] using ho
 ·rw [aa8 (by omega)] at ho
  simpa [c9] using ho
noncomputable def zd (κ : Kp) : Env := (FQ κ).aj 158 3 (aO 2 DQ Ca xa)
theorem Rn (κ : Kp) : ay (zd κ) := (ZK κ).aj (RV κ) (Q8 κ)
theorem Oi (κ : Kp) : ah (zd κ) := (RV κ).aj aG
noncomputable abbrev Of (a : r9) (κ : Kp) (st : LoopState) (p : Option Code) : Dn.Obj :=
 .loop (gL (Pr κ).toProgram 158 11 st p (gy (bG 46) [(2, .ptr 2 0 [] 0), (7, .ptr 4 0 [] 0), (32, .aB 3 0 a.ts.length), (33, .int a.ts.length), (34, .int a.i), (35, .bool true),
  (36, .ptr 3 (0 + a.i.toNat) [] 0), (37, Ar a), (38, Ar a), (39, .bL 170 [.ptr 5 0 [] 0])]))
noncomputable abbrev nN (κ : Kp) (a : r9) : List Dn.Obj := [.ext (some a.xs), .box 41 (an a.r), .box 178 (.ct 0), .row 52 a.ts, .box 52 (Ar a), .box 52 (Ar a), Of a κ .ready none]
noncomputable abbrev ya (κ : Kp) (a : r9) (o : Option (List AV)) (st : LoopState) (p : Option Code) : List Dn.Obj := [.ext o, .box 41 (an a.r), .box 178 (.ct 0), .row 52 a.ts, .box 52 (Ar a), .dead, Of a κ st p]
theorem Rp (κ : Kp) (a : r9) (Q : List Dn.Obj → Prop) : (tidy (Pr κ).toProgram 7 (dO (nN κ a) (di (nN κ a) [.ptr 5 0 [] 0])) Q) = (
 letI z1 := nth a.ts (0 + a.i.toNat)
 letI z2 := toInt (ad z1 0)
 letI z3 := toStr (ad z1 1)
 letI z4 := toInt (ad z1 2)
 letI z5 := ai (ad z1 3)
 Q [Obj.ext (some a.xs), Obj.box 41 (an a.r), Obj.box 178 (AV.ct 0), Obj.row 52 a.ts, Obj.box 52 (AV.agg [AV.int z2, AV.str z3, AV.int z4, AV.ae 52 z5]),
 Obj.dead, Dn.Obj.loop (gL Tryz.prog 158 11 LoopState.ready none (gy (bG 46) [(2, AV.ptr 2 0 [] 0), (7, AV.ptr 4 0 [] 0), (32, AV.aB 3 0 a.ts.length), (33,
 AV.int (↑(a.ts.length) : Int)), (34, AV.int a.i), (35, AV.bool true), (36, AV.ptr 3 (0 + a.i.toNat) [] 0), (37, AV.agg [AV.int z2, AV.str z3, AV.int z4, AV.ae
 52 z5]), (38, AV.agg [AV.int z2, AV.str z3, AV.int z4, AV.ae 52 z5]), (39, AV.bL 170 [AV.ptr 5 0 [] 0])]))]) := by kernel_rfl
theorem ZH (κ : Kp) (a : r9) (o : List AV) (u : AV) (Q : List Dn.Obj → Prop) (K2 : List Dn.Obj → Prop) : (iC (vc (zd κ) 12) 6 [nI 52 u] (ya κ a (some o) .ready none) (fun r st'' => match r with | .lit (.bool true) => tidy (Pr κ).toProgram 7 st'' Q | .lit (.bool false) => K2 st'' | _ => False)) = (
 letI z2 := nth a.ts (0 + a.i.toNat)
 letI z4 := toInt (ad z2 0)
 letI z5 := toStr (ad z2 1)
 letI z6 := toInt (ad z2 2)
 letI z7 := ai (ad z2 3)
 letI z1 := gy (bG 46) [(2, AV.ptr 2 0 [] 0), (7, AV.ptr 4 0 [] 0), (32, AV.aB 3 0 a.ts.length), (33, AV.int (↑(a.ts.length) : Int)), (34, AV.int a.i), (35,
  AV.bool true), (36, AV.ptr 3 (0 + a.i.toNat) [] 0), (37, AV.agg [AV.int z4, AV.str z5, AV.int z6, AV.ae 52 z7]), (38, AV.agg [AV.int z4, AV.str z5, AV.int z6,
  AV.ae 52 z7]), (39, AV.bL 170 [AV.ptr 5 0 [] 0])]
 letI z3 := AV.agg [AV.int z4, AV.str z5, AV.int z6, AV.ae 52 z7]
 ∃ (rest : List AV), o = AV.bj [AV.agg [AV.int (toInt (ad u 0)), AV.str (toStr (ad u 1)), AV.int (toInt (ad u 2)), AV.ae 52 (ai (ad u 3))]] :: rest ∧ Q [Obj.ext
 (some rest), Obj.box 41 (an a.r), Obj.box 178 (AV.ct 0), Obj.row 52 a.ts, Obj.box 52 z3, Obj.dead, Dn.Obj.loop (gL Tryz.prog 158 11 LoopState.ready none z1)] ∧
 K2 [Obj.ext none, Obj.box 41 (an a.r), Obj.box 178 (AV.ct 0), Obj.row 52 a.ts, Obj.box 52 z3, Obj.dead, Dn.Obj.loop (gL Tryz.prog 158 11 LoopState.done (some
 Code.ret) z1), Obj.box 52 (AV.agg [AV.int (toInt (ad u 0)), AV.str (toStr (ad u 1)), AV.int (toInt (ad u 2)), AV.ae 52 (ai (ad u 3))])]) := by kernel_rfl
theorem XA (κ : Kp) (a : r9) (xs : List AV) : (AV.ct 0 :: fo (kC (di (nN κ a) [.ptr 5 0 [] 0])) [.ptr 5 0 [] 0], Obj.ext (some xs) :: gn (kC (di (nN κ a) [.ptr 5 0 [] 0])) (gq (nN κ a) (di (nN κ a) [.ptr 5 0 [] 0]))) = ([.ct 0, .ptr 1 0 [] 0], [.ext (some xs), .box 52 (Ar a)]) := by kernel_rfl
theorem Zc (κ : Kp) (a : r9) : qT (nN κ a) [.ptr 5 0 [] 0] = true := by kernel_rfl
noncomputable def Ii (κ : Kp) : ep := fun caps st K => ∃ a : r9, (caps, st) = ([AV.ptr 5 0 [] 0], nN κ a) ∧ ((cz (nth a.ts a.i.toNat)).oi ≤ 100000 ∧ a.xs = np 52 (nth a.ts a.i.toNat) ++ a.more) ∧
 (K (ya κ a (some a.more) .ready none) ∧ ∀ u : AV, K (ya κ a none .done (some .ret) ++ [.box 52 (nI 52 u)]))
theorem AB (κ : Kp) : (Ii κ).jb := by
 rintro caps st K K' hK ⟨a, h1, h2, h3, h4⟩
 exact ⟨a, h1, h2, hK _ h3, fun u => hK _ (h4 u)⟩
theorem call42 (κ : Kp) (args : List AV) (st : List Dn.Obj) (K : AV → List Dn.Obj → Prop) (h : aW JR xR DE args st K) : (zd κ).call 170 args st K := h
theorem QR (κ : Kp) : mM (zd κ) 12 170 (Ii κ) := by
 rintro caps st K ⟨a, h1, ⟨h3, h4⟩, h5, h6⟩
 obtain ⟨rfl, rfl⟩ := Prod.mk.inj h1
 refine ⟨np 52 (nth a.ts a.i.toNat), fun items st' => (∀ x, x ∈ items → qb 52 x) ∧ st' = ya κ a (some (items ++ a.more)) .ready none, ⟨Zc κ a, ?_, ?_, ?_, ?_⟩⟩
 ·refine call42 κ _ _ _ ⟨nth a.ts a.i.toNat, ?_, h3, fun st' h => h⟩
  rw [XA, Ar, Nat.zero_add]; rfl
 ·rw [show (zd κ).P = Pr κ from rfl, show (nN κ a).length = 7 from rfl, Rp]
  exact ⟨lu _ _ _ (Nat.lt_succ_self _), by rw [h4]; rfl⟩
 ·rintro us rest st' ⟨e1, rfl⟩
  obtain ⟨u, hu⟩ := e1 (.bj us) (by simp)
  obtain rfl := AV.bj.inj hu
  rw [show (zd κ).P = Pr κ from rfl, show (nN κ a).length = 7 from rfl]
  refine Eq.mpr (ZH κ a _ u _ _) ?_
  exact ⟨_, rfl, ⟨fun x hx => e1 x (by simp [hx]), rfl⟩, h6 u⟩
 ·rintro st' ⟨_, rfl⟩
  exact h5
noncomputable def sZ (κ : Kp) : Env := ((zd κ).addRange 158 11 170 (Ii κ)).dB (fun f => j6 f J6)
theorem Qk (κ : Kp) : ay (sZ κ) := ((Rn κ).addRange (Oi κ) (QR κ)).dB _
theorem Ob (κ : Kp) : ah (sZ κ) := ((Oi κ).addRange (AB κ)).dB _
abbrev CG (a : r9) : S := sp 46 [(2, .ptr 2 0 [] 0), (32, .aB 3 0 a.ts.length), (33, .int a.ts.length), (34, .int a.i)] [.ext (some a.xs), .box 41 (an a.r), .box 178 (.ct 0), .row 52 a.ts]
theorem Qm (κ : Kp) (a : r9) (I : Nat → S → Prop) (n : Nat) (K : Exit → S → Prop) : (vc (sZ κ) 12 158 none 2 (ag (Pr κ).toProgram 158 8) (CG a) (bK (sZ κ) 158 8 2 I n K)) = (
 letI z1 := nth a.ts (0 + a.i.toNat)
 letI z3 := toInt (ad z1 0)
 letI z4 := toStr (ad z1 1)
 letI z5 := toInt (ad z1 2)
 letI z6 := ai (ad z1 3)
 letI z2 := AV.agg [AV.int z3, AV.str z4, AV.int z5, AV.ae 52 z6]
 aD (decide (a.i < (↑(a.ts.length) : Int))) (bg (decide ((0 : Int) ≤ a.i) && decide (a.i < (↑(a.ts.length) : Int))) (∃ (a_1 : r9), ([AV.ptr 5 0 [] 0], [Obj.ext
 (some a.xs), Obj.box 41 (an a.r), Obj.box 178 (AV.ct 0), Obj.row 52 a.ts, Obj.box 52 z2, Obj.box 52 z2, Dn.Obj.loop (gL Tryz.prog 158 11 LoopState.ready none
 (gy (bG 46) [(2, AV.ptr 2 0 [] 0), (7, AV.ptr 4 0 [] 0), (32, AV.aB 3 0 a.ts.length), (33, AV.int (↑(a.ts.length) : Int)), (34, AV.int a.i), (35, AV.bool true),
 (36, AV.ptr 3 (0 + a.i.toNat) [] 0), (37, AV.agg [AV.int z3, AV.str z4, AV.int z5, AV.ae 52 z6]), (38, AV.agg [AV.int z3, AV.str z4, AV.int z5, AV.ae 52 z6]),
 (39, AV.bL 170 [AV.ptr 5 0 [] 0])]))]) = ([AV.ptr 5 0 [] 0], [Obj.ext (some a_1.xs), Obj.box 41 (an a_1.r), Obj.box 178 (AV.ct 0), Obj.row 52 a_1.ts, Obj.box 52
 (AV.agg [AV.int (toInt (ad (nth a_1.ts (0 + a_1.i.toNat)) 0)), AV.str (toStr (ad (nth a_1.ts (0 + a_1.i.toNat)) 1)), AV.int (toInt (ad (nth a_1.ts (0 +
 a_1.i.toNat)) 2)), AV.ae 52 (ai (ad (nth a_1.ts (0 + a_1.i.toNat)) 3))]), Obj.box 52 (AV.agg [AV.int (toInt (ad (nth a_1.ts (0 + a_1.i.toNat)) 0)), AV.str
 (toStr (ad (nth a_1.ts (0 + a_1.i.toNat)) 1)), AV.int (toInt (ad (nth a_1.ts (0 + a_1.i.toNat)) 2)), AV.ae 52 (ai (ad (nth a_1.ts (0 + a_1.i.toNat)) 3))]),
 Dn.Obj.loop (gL Tryz.prog 158 11 LoopState.ready none (gy (bG 46) [(2, AV.ptr 2 0 [] 0), (7, AV.ptr 4 0 [] 0), (32, AV.aB 3 0 a_1.ts.length), (33, AV.int
 (↑(a_1.ts.length) : Int)), (34, AV.int a_1.i), (35, AV.bool true), (36, AV.ptr 3 (0 + a_1.i.toNat) [] 0), (37, AV.agg [AV.int (toInt (ad (nth a_1.ts (0 +
 a_1.i.toNat)) 0)), AV.str (toStr (ad (nth a_1.ts (0 + a_1.i.toNat)) 1)), AV.int (toInt (ad (nth a_1.ts (0 + a_1.i.toNat)) 2)), AV.ae 52 (ai (ad (nth a_1.ts (0 +
 a_1.i.toNat)) 3))]), (38, AV.agg [AV.int (toInt (ad (nth a_1.ts (0 + a_1.i.toNat)) 0)), AV.str (toStr (ad (nth a_1.ts (0 + a_1.i.toNat)) 1)), AV.int (toInt (ad
 (nth a_1.ts (0 + a_1.i.toNat)) 2)), AV.ae 52 (ai (ad (nth a_1.ts (0 + a_1.i.toNat)) 3))]), (39, AV.bL 170 [AV.ptr 5 0 [] 0])]))]) ∧ (Tm.oi (cz (nth a_1.ts
 a_1.i.toNat)) ≤ 100000 ∧ a_1.xs = np 52 (nth a_1.ts a_1.i.toNat) ++ a_1.more) ∧ (∃ (m : Nat), m < n ∧ I m (sp 46 [(2, AV.ptr 2 0 [] 0), (32, AV.aB 3 0
 a.ts.length), (33, AV.int (↑(a.ts.length) : Int)), (34, AV.int (IntKind.wrap IntKind.i64 (a.i + (1 : Int))))] [Obj.ext (some a_1.more), Obj.box 41 (an a_1.r),
 Obj.box 178 (AV.ct 0), Obj.row 52 a_1.ts])) ∧ ∀ (u : AV), K Exit.ret (sp 46 [] [Obj.ext none, Obj.box 41 (an a_1.r)]))) (K (Exit.exit 2) (sp 46 [] [Obj.ext
 (some a.xs), Obj.box 41 (an a.r)]))) := by kernel_rfl
def xd (a : r9) : Prop := a.ts.length ≤ aL ∧ 0 ≤ a.i ∧ a.i ≤ a.ts.length ∧ aX (aa (a.ts.drop a.i.toNat)) ≤ 100000 ∧ a.xs = eD 52 (a.ts.drop a.i.toNat)
def GV (a : r9) : Out (Exit × S) := .all (fun _ : Bool => True) fun b => .aD b (.one (.exit 2, sp 46 [] [.ext (some []), .box 41 (an a.r)])) (.one (.ret, sp 46 [] [.ext none, .box 41 (an a.r)]))
theorem Rv (κ : Kp) : bq (sZ κ) 12 158 8 (aO 2 CG xd GV) := by
 refine aR (fun a => a.ts.length - a.i.toNat) ?_
 rintro ⟨xs, more, r, bl, m, i⟩ K ⟨h1, h2, h3, h5, h6⟩ ho
 simp only at h1 h2 h3 h5 h6
 rw [show (sZ κ).P = Pr κ from rfl]
 refine Eq.mpr (Qm κ ⟨xs, more, r, bl, m, i⟩ _ _ K) ?_
 have ho1 := ho true trivial
 have ho2 := ho false trivial
 simp only [Out.run, aD] at ho1 ho2
 simp only [aL] at h1
 simp only [af, ax, aa0, aa2, aa1]
 refine ⟨fun hi => ⟨⟨h2, hi⟩, ?_⟩, fun hi => ?_⟩
 ·have hc := sW m i.toNat (by omega)
  rw [so _ m i.toNat (by omega)] at h6
  rw [a8 (n := i + 1) (by omega) (by omega)]
  refine ⟨⟨xs, eD 52 (m.drop (i.toNat + 1)), r, bl, m, i⟩, rfl, ⟨by simp only; omega, h6⟩, ⟨_, ?_, ⟨_, more, r, bl, m, i + 1⟩, rfl, ⟨by simpa [aL] using h1, by simp only; omega, by simp only; omega, ?_, ?_⟩, rfl, ho⟩, fun _ => ho2⟩
  ·simp only; omega
  ·simp only [show (i + 1).toNat = i.toNat + 1 by omega]; omega
  ·simp only [show (i + 1).toNat = i.toNat + 1 by omega]
 ·rw [aa8 (by omega)] at h6
  subst h6
  exact ho1
noncomputable def Ip (κ : Kp) : Env := (sZ κ).aj 158 8 (aO 2 CG xd GV)
theorem Q2 (κ : Kp) : ay (Ip κ) := (Qk κ).aj (Ob κ) (Rv κ)
theorem Oe (κ : Kp) : ah (Ip κ) := (Ob κ).aj aG
theorem Zw (κ : Kp) (a : bQ) (K : AV → List Dn.Obj → Prop) : (bh (Ip κ) 12 158 [.ct 0, .ptr 1 0 [] 0] [.ext (some a.xs), .box 41 (an a)] K) = (
 letI z1 := Pg.toProgram (Env.P (FQ κ))
 letI z2 := Pg.toProgram (Env.P (sZ κ))
 letI z3 := AV.ct 0
 (LU a.hl = true → ag z1 158 3 = ag z1 158 3 ∧ ∃ (a_2 : r9), sp 46 [(2, AV.ptr 2 0 [] 0), (3, AV.aB 3 0 0), (14, AV.ae 55 a.bl), (15, AV.int (↑(a.bl.length) :
 Int)), (16, AV.int 0)] [Obj.ext (some a.xs), Obj.box 41 (an a), Obj.box 178 z3, Obj.row 52 []] = sp 46 [(2, AV.ptr 2 0 [] 0), (3, AV.aB 3 0 a_2.ts.length), (14,
 AV.ae 55 a_2.bl), (15, AV.int (↑(a_2.bl.length) : Int)), (16, AV.int a_2.i)] [Obj.ext (some a_2.xs), Obj.box 41 (an a_2.r), Obj.box 178 z3, Obj.row 52 a_2.ts] ∧
 (a_2.bl.length ≤ 9223372036854775807 ∧ (0 : Int) ≤ a_2.i ∧ a_2.i ≤ (↑(a_2.bl.length) : Int) ∧ List.length (a_2.ts ++ c9 (List.drop a_2.i.toNat a_2.bl)) ≤
 100000) ∧ ag z2 158 8 = ag z2 158 8 ∧ ∃ (a : r9), sp 46 [(2, AV.ptr 2 0 [] 0), (32, AV.aB 3 0 (List.length (a_2.ts ++ c9 (List.drop a_2.i.toNat a_2.bl)))), (33,
 AV.int (↑(List.length (a_2.ts ++ c9 (List.drop a_2.i.toNat a_2.bl))) : Int)), (34, AV.int 0)] [Obj.ext (some a_2.xs), Obj.box 41 (an a_2.r), Obj.box 178 z3,
 Obj.row 52 (a_2.ts ++ c9 (List.drop a_2.i.toNat a_2.bl))] = sp 46 [(2, AV.ptr 2 0 [] 0), (32, AV.aB 3 0 a.ts.length), (33, AV.int (↑(a.ts.length) : Int)), (34,
 AV.int a.i)] [Obj.ext (some a.xs), Obj.box 41 (an a.r), Obj.box 178 z3, Obj.row 52 a.ts] ∧ (a.ts.length ≤ 9223372036854775807 ∧ (0 : Int) ≤ a.i ∧ a.i ≤
 (↑(a.ts.length) : Int) ∧ aX (aa (List.drop a.i.toNat a.ts)) ≤ 100000 ∧ a.xs = eD 52 (List.drop a.i.toNat a.ts)) ∧ ∀ (y : Bool), True → aD y (K (AV.bj [])
 [Obj.ext (some []), Obj.box 41 (an a.r)]) (K (AV.bj []) [Obj.ext none, Obj.box 41 (an a.r)])) ∧ bg (decide ((0 + a.hl.length + 1) * 57 ≤ 70368744177664)) (ag z1
 158 3 = ag z1 158 3 ∧ ∃ (a_1 : r9), sp 46 [(2, AV.ptr 2 0 [] 0), (3, AV.aB 3 0 (0 + a.hl.length)), (14, AV.ae 55 a.bl), (15, AV.int (↑(a.bl.length) : Int)),
 (16, AV.int 0)] [Obj.ext (some a.xs), Obj.box 41 (an a), Obj.box 178 z3, Obj.row 52 ([] ++ a.hl)] = sp 46 [(2, AV.ptr 2 0 [] 0), (3, AV.aB 3 0 a_1.ts.length),
 (14, AV.ae 55 a_1.bl), (15, AV.int (↑(a_1.bl.length) : Int)), (16, AV.int a_1.i)] [Obj.ext (some a_1.xs), Obj.box 41 (an a_1.r), Obj.box 178 z3, Obj.row 52
 a_1.ts] ∧ (a_1.bl.length ≤ 9223372036854775807 ∧ (0 : Int) ≤ a_1.i ∧ a_1.i ≤ (↑(a_1.bl.length) : Int) ∧ List.length (a_1.ts ++ c9 (List.drop a_1.i.toNat
 a_1.bl)) ≤ 100000) ∧ ag z2 158 8 = ag z2 158 8 ∧ ∃ (a : r9), sp 46 [(2, AV.ptr 2 0 [] 0), (32, AV.aB 3 0 (List.length (a_1.ts ++ c9 (List.drop a_1.i.toNat
 a_1.bl)))), (33, AV.int (↑(List.length (a_1.ts ++ c9 (List.drop a_1.i.toNat a_1.bl))) : Int)), (34, AV.int 0)] [Obj.ext (some a_1.xs), Obj.box 41 (an a_1.r),
 Obj.box 178 z3, Obj.row 52 (a_1.ts ++ c9 (List.drop a_1.i.toNat a_1.bl))] = sp 46 [(2, AV.ptr 2 0 [] 0), (32, AV.aB 3 0 a.ts.length), (33, AV.int
 (↑(a.ts.length) : Int)), (34, AV.int a.i)] [Obj.ext (some a.xs), Obj.box 41 (an a.r), Obj.box 178 z3, Obj.row 52 a.ts] ∧ (a.ts.length ≤ 9223372036854775807 ∧ (0
 : Int) ≤ a.i ∧ a.i ≤ (↑(a.ts.length) : Int) ∧ aX (aa (List.drop a.i.toNat a.ts)) ≤ 100000 ∧ a.xs = eD 52 (List.drop a.i.toNat a.ts)) ∧ ∀ (y : Bool), True → aD y
 (K (AV.bj []) [Obj.ext (some []), Obj.box 41 (an a.r)]) (K (AV.bj []) [Obj.ext none, Obj.box 41 (an a.r)]))) := by kernel_rfl
def LN (a : bQ) : List AV × List Dn.Obj := ([.ct 0, .ptr 1 0 [] 0], [.ext (some (eD 52 (aV 52 a.hl a.bl))), .box 41 (an a)])
def dh (a : bQ) : Prop := aX (aa (aV 52 a.hl a.bl)) ≤ 100000 ∧ a.bl.length ≤ 100000
def HR (_ : bQ) : Out (AV × List Dn.Obj) := .all (fun st' => vq st') fun st' => .one (.bj [], st')
theorem Zz (κ : Kp) : bu (Ip κ) 12 158 (aW LN dh HR) := by
 refine ba ?_
 rintro ⟨xs, more, rel, hl, bl, line, i⟩ K ⟨h1, h2⟩ ho
 have hn : ∀ b, K (.bj []) [.ext none, b] := fun b => ho _ trivial
 have h0 : ∀ b, K (.bj []) [.ext (some []), b] := fun b => ho _ trivial
 simp only at h1 h2
 have hl1 := fu (aa (aV 52 hl bl))
 rw [eG] at hl1
 have hle : hl.length ≤ 100000 := by
  have : (aV 52 hl bl).length = hl.length + (c9 bl).length := by simp [aV, c9]
  omega
 refine Eq.mpr (Zw κ ⟨eD 52 (aV 52 hl bl), more, rel, hl, bl, line, i⟩ K) ?_
 have hz : ∀ ts : List AV, ts = hl → (ts ++ c9 (List.drop (Int.toNat 0) bl)) = aV 52 hl bl := fun ts h => by subst h; rfl
 have fin : ∀ ts : List AV, ts = hl → ∃ a : r9, sp 46 [(2, .ptr 2 0 [] 0), (32, .aB 3 0 (ts ++ c9 (List.drop (Int.toNat 0) bl)).length), (33, .int (ts ++ c9 (List.drop (Int.toNat 0) bl)).length), (34, .int 0)] [.ext (some (eD 52 (aV 52 hl bl))), .box 41 (an ⟨eD 52 (aV 52 hl bl), more, rel, hl, bl, line, i⟩), .box 178 (.ct 0), .row 52 (ts ++ c9 (List.drop (Int.toNat 0) bl))] = CG a ∧ xd a ∧ ∀ y : Bool, True → aD y (K (.bj []) [.ext (some []), .box 41 (an a.r)]) (K (.bj []) [.ext none, .box 41 (an a.r)]) := by
  intro ts h
  refine ⟨⟨_, [], ⟨eD 52 (aV 52 hl bl), more, rel, hl, bl, line, i⟩, bl, ts ++ c9 (List.drop (Int.toNat 0) bl), 0⟩, rfl, ⟨?_, ?_, ?_, ?_, ?_⟩, fun y _ => ?_⟩
  ·simp only [hz ts h, aL]; omega
  ·simp only; omega
  ·simp only; omega
  ·show aX (aa (List.drop (Int.toNat 0) (ts ++ c9 (List.drop (Int.toNat 0) bl)))) ≤ 100000
   rw [hz ts h]; exact h1
  ·rw [hz ts h]; rfl
  ·cases y
   ·exact hn _
   ·exact h0 _
 refine ⟨fun e => ?_, ?_⟩
 ·obtain rfl : hl = [] := by
   cases hl with
   | nil => rfl
   | cons => cases e
  refine ⟨rfl, ⟨_, [], ⟨eD 52 (aV 52 [] bl), more, rel, [], bl, line, i⟩, bl, [], 0⟩, rfl, ⟨by simp only; omega, by simp only; omega, by simp only; omega, ?_⟩, rfl, fin [] rfl⟩
  rw [hz [] rfl]; exact Nat.le_trans hl1 h1
 ·rw [ax, aa0]
  refine ⟨by simp only; omega, rfl, ⟨_, [], ⟨eD 52 (aV 52 hl bl), more, rel, hl, bl, line, i⟩, bl, [] ++ hl, 0⟩, ?_, ⟨by simp only; omega, by simp only; omega, by simp only; omega, ?_⟩, rfl, fin ([] ++ hl) rfl⟩
  ·rw [Nat.zero_add]; rfl
  ·rw [hz ([] ++ hl) rfl]; exact Nat.le_trans hl1 h1
set_option maxRecDepth 20000 in
noncomputable def Lr (κ : Kp) : Env := (Ip κ).au 158 (aW LN dh HR)
theorem Wf (κ : Kp) : ay (Lr κ) := (Q2 κ).au (Oe κ) (Zz κ)
theorem SP (κ : Kp) : ah (Lr κ) := (Oe κ).au aH
def aI (a : bQ) : Rl := ⟨⟨a.rel, aa a.hl⟩, cu a.bl⟩
noncomputable abbrev NF (a : bQ) (κ : Kp) (st : LoopState) (p : Option Code) : Dn.Obj :=
 .loop (gL (Pr κ).toProgram 97 6 st p (gy (bG 31) [(0, an a), (1, .ptr 0 0 [] 0), (2, .nil), (3, .ptr 1 0 [] 0), (4, .ptr 3 0 [] 0), (6, an a), (7, .bool (aM (aI a))), (8, .bool false), (9, .mp 2), (10, an a), (11, .bL 158 [.ptr 4 0 [] 0])]))
noncomputable abbrev nJ (κ : Kp) (a : bQ) : List Dn.Obj := [.box 41 (an a), .box 60 .nil, .map 9 4 [], .box 113 (.mp 2), .box 41 (an a), NF a κ .ready none]
theorem W5 (κ : Kp) (a : bQ) (Q : List Dn.Obj → Prop) : (tidy (Pr κ).toProgram 6 (dO (nJ κ a) (di (nJ κ a) [.ptr 4 0 [] 0])) Q) = (
 Q [Obj.box 41 (an a), Obj.box 60 (AV.aB 6 0 0), Dn.Obj.map 9 4 [], Obj.box 113 (AV.mp 2), Obj.dead, Dn.Obj.loop (gL Tryz.prog 97 6 LoopState.ready none (gy
 (bG 31) [(0, an a), (1, AV.ptr 0 0 [] 0), (2, AV.nil), (3, AV.ptr 1 0 [] 0), (4, AV.ptr 3 0 [] 0), (6, an a), (7, AV.bool (aM (aI a))), (8, AV.bool
 false), (9, AV.mp 2), (10, an a), (11, AV.bL 158 [AV.ptr 4 0 [] 0])])), Obj.row 9 []]) := by kernel_rfl
noncomputable abbrev wY (κ : Kp) (a : bQ) (vs : List ByteArray) (es : List (Value × AV)) : List Dn.Obj := [.box 41 (an a), .box 60 (.aB 6 0 vs.length), .map 9 4 es, .box 113 (.mp 2), .dead, NF a κ .ready none, .row 9 (strs vs)]
theorem Za (κ : Kp) (a : bQ) (vs : List ByteArray) (es : List (Value × AV)) (u : AV) (Q : List Dn.Obj → Prop) (K2 : List Dn.Obj → Prop) : (iC (vc (Lr κ) 12) 5 [nI 52 u] (wY κ a vs es) (fun r st'' => match r with | .lit (.bool true) => tidy (Pr κ).toProgram 6 st'' Q | .lit (.bool false) => K2 st'' | _ => False)) = (
 letI z1 := gL Tryz.prog 97 6 LoopState.ready none (gy (bG 31) [(0, an a), (1, AV.ptr 0 0 [] 0), (2, AV.nil), (3, AV.ptr 1 0 [] 0), (4, AV.ptr 3 0 [] 0), (6, an
  a), (7, AV.bool (aM (aI a))), (8, AV.bool false), (9, AV.mp 2), (10, an a), (11, AV.bL 158 [AV.ptr 4 0 [] 0])])
 letI z2 := Q [Obj.box 41 (an a), Obj.box 60 (AV.aB 6 0 vs.length), Dn.Obj.map 9 4 es, Obj.box 113 (AV.mp 2), Obj.dead, Dn.Obj.loop z1, Obj.row 9 (strs vs)]
 letI z3 := Value.string (toStr (ad u 1))
 aD (toInt (ad u 0) != (1 : Int)) z2 (aD (Dn.toBool (cF es z3 (AV.bool false))) z2 (bg (decide ((vs.length + 1 + 1) * 17 ≤ 70368744177664)) (Q [Obj.box 41 (an
 a), Obj.box 60 (AV.aB 6 0 (vs.length + 1)), Dn.Obj.map 9 4 (dU es z3 (AV.bool true)), Obj.box 113 (AV.mp 2), Obj.dead, Dn.Obj.loop z1, Obj.row 9 (List.take
 vs.length (strs vs) ++ [AV.str (toStr (ad u 1))])])))) := by kernel_rfl
theorem YD (κ : Kp) (a : bQ) (xs : List AV) : (AV.ct 0 :: fo (kC (di (nJ κ a) [.ptr 4 0 [] 0])) [.ptr 4 0 [] 0], Obj.ext (some xs) :: gn (kC (di (nJ κ a) [.ptr 4 0 [] 0])) (gq (nJ κ a) (di (nJ κ a) [.ptr 4 0 [] 0]))) = ([.ct 0, .ptr 1 0 [] 0], [.ext (some xs), .box 41 (an a)]) := by kernel_rfl
theorem YL (κ : Kp) (a : bQ) : qT (nJ κ a) [.ptr 4 0 [] 0] = true := by kernel_rfl
noncomputable def F3 (κ : Kp) : ep := fun caps st K => ∃ a : bQ, (caps, st) = ([AV.ptr 4 0 [] 0], nJ κ a) ∧ dh a ∧ K (wY κ a (lg [] (eB (aI a))) (bH (lg [] (eB (aI a)))))
theorem BC (κ : Kp) : (F3 κ).jb := by
 rintro caps st K K' hK ⟨a, h1, h2, h3⟩
 exact ⟨a, h1, h2, hK _ h3⟩
theorem call12 (κ : Kp) (args : List AV) (st : List Dn.Obj) (K : AV → List Dn.Obj → Prop) (h : aW LN dh HR args st K) : (Lr κ).call 158 args st K := h
theorem Rt (κ : Kp) : mM (Lr κ) 12 158 (F3 κ) := by
 rintro caps st K ⟨a, h1, h3, h5⟩
 obtain ⟨rfl, rfl⟩ := Prod.mk.inj h1
 have hv := im 52 a.rel a.hl a.bl
 rw [← qH 52] at hv
 have hb : (eB (aI a)).length ≤ 100000 := by
  have h6 := bZ (aa (aV 52 a.hl a.bl))
  rw [im 52 a.rel a.hl a.bl] at h6
  exact Nat.le_trans h6 h3.1
 have hd := kt (eB (aI a)) []
 refine ⟨eD 52 (aV 52 a.hl a.bl), fun items st' => ∃ vs, (∀ x, x ∈ items → qb 52 x) ∧ st' = wY κ a vs (bH vs) ∧ vs ++ lg vs (items.flatMap sh) = lg [] (eB (aI a)), ⟨YL κ a, ?_, ?_, ?_, ?_⟩⟩
 ·refine call12 κ _ _ _ ⟨a, ?_, h3, fun st' h => h⟩
  rw [YD]; rfl
 ·rw [show (Lr κ).P = Pr κ from rfl, show (nJ κ a).length = 6 from rfl, W5]
  exact ⟨[], yk _ _, rfl, by rw [hv]; rfl⟩
 ·rintro us rest st' ⟨vs, e1, rfl, e3⟩
  obtain ⟨u, hu⟩ := e1 (.bj us) (by simp)
  obtain rfl := AV.bj.inj hu
  rw [show (Lr κ).P = Pr κ from rfl, show (nJ κ a).length = 6 from rfl]
  refine Eq.mpr (Za κ a vs _ u _ _) ?_
  have e1' : ∀ x, x ∈ rest → qb 52 x := fun x hx => e1 x (by simp [hx])
  have hi : sh (.bj [nI 52 u]) = bif decide (toInt (ad u 0) = 1) then [toStr (ad u 1)] else [] := rfl
  rw [List.flatMap_cons, hi] at e3
  have hin : Dn.toBool (cF (bH vs) (.string (toStr (ad u 1))) (.lit (.bool false))) = vs.contains (toStr (ad u 1)) := oG _ _
  rw [hin]
  simp only [af, ax, bne_iff_ne, bne_eq_false_iff_eq, aa0]
  refine ⟨fun e => ⟨vs, e1', rfl, ?_⟩, fun e => ⟨fun e4 => ⟨vs, e1', rfl, ?_⟩, fun e4 => ⟨?_, vs ++ [toStr (ad u 1)], e1', ?_, ?_⟩⟩⟩
  ·rw [aa4 e] at e3; exact e3
  ·rw [aa6 e, aa7, List.singleton_append, lg, e4] at e3; exact e3
  ·have := congrArg List.length e3
   rw [ab8] at this; omega
  ·rw [I1, ← a9 vs, List.take_length]
   simp only [wY, ij, a9, ab8, List.length_cons, List.length_nil]
   rfl
  ·rw [aa6 e, aa7, List.singleton_append, lg, e4, aa5] at e3
   simpa using e3
 ·rintro st' ⟨vs, _, rfl, e3⟩
  have e4 : vs = lg [] (eB (aI a)) := by simpa [lg] using e3
  rw [e4]; exact h5
noncomputable def FG (κ : Kp) : Env := ((Lr κ).addRange 97 6 158 (F3 κ)).dB (fun f => j6 f J6)
theorem Rk (κ : Kp) : ay (FG κ) := ((Wf κ).addRange (SP κ) (Rt κ)).dB _
theorem OE (κ : Kp) : ah (FG κ) := ((SP κ).addRange (BC κ)).dB _
theorem Zr (κ : Kp) (a : bQ) (K : AV → List Dn.Obj → Prop) : (bh (FG κ) 12 97 [an a] [] K) = (
 letI z1 := AV.agg [AV.agg [AV.str a.rel, AV.ae 52 a.hl], AV.ae 55 a.bl, AV.int a.line]
 bg (decide (a.hl.length ≤ 9223372036854775807) && decide (a.bl.length ≤ 9223372036854775807)) (aD (!aM {head := { rel := a.rel, l := aa a.hl }, body := cu a.bl }) (K AV.nil []) (∃ (a_1 : bQ), ([AV.ptr 4 0 [] 0], [Obj.box 41 z1, Obj.box 60 AV.nil, Dn.Obj.map 9 4 [], Obj.box 113 (AV.mp 2), Obj.box 41 z1, Dn.Obj.loop (gL Tryz.prog 97 6 LoopState.ready none (gy (bG 31) [(0, AV.agg [AV.agg [AV.str a.rel, AV.ae 52 a.hl], AV.ae 55 a.bl, AV.int a.line]), (1, AV.ptr 0 0 [] 0), (2, AV.nil), (3, AV.ptr 1 0 [] 0), (4, AV.ptr 3 0 [] 0), (6, AV.agg [AV.agg [AV.str a.rel, AV.ae 52 a.hl], AV.ae 55 a.bl, AV.int a.line]), (7, AV.lit (Value.bool (aM { head := { rel := a.rel, l := aa a.hl }, body := cu a.bl }))), (8, AV.bool false), (9, AV.mp 2), (10, AV.agg [AV.agg [AV.str a.rel, AV.ae 52 a.hl], AV.ae 55 a.bl, AV.int a.line]), (11, AV.bL 158 [AV.ptr 4 0 [] 0])]))]) = ([AV.ptr 4 0 [] 0], [Obj.box 41 (AV.agg [AV.agg [AV.str a_1.rel, AV.ae 52 a_1.hl], AV.ae 55 a_1.bl, AV.int a_1.line]), Obj.box 60 AV.nil, Dn.Obj.map 9 4 [], Obj.box 113 (AV.mp 2), Obj.box 41 (AV.agg [AV.agg [AV.str a_1.rel, AV.ae 52 a_1.hl], AV.ae 55 a_1.bl, AV.int a_1.line]), Dn.Obj.loop (gL Tryz.prog 97 6 LoopState.ready none (gy (bG 31) [(0, AV.agg [AV.agg [AV.str a_1.rel, AV.ae 52 a_1.hl], AV.ae 55 a_1.bl, AV.int a_1.line]), (1, AV.ptr 0 0 [] 0), (2, AV.nil), (3, AV.ptr 1 0 [] 0), (4, AV.ptr 3 0 [] 0), (6, AV.agg [AV.agg [AV.str a_1.rel, AV.ae 52 a_1.hl], AV.ae 55 a_1.bl, AV.int a_1.line]), (7, AV.bool (aM (aI a_1))), (8, AV.bool false), (9, AV.mp 2), (10, AV.agg [AV.agg [AV.str a_1.rel, AV.ae 52 a_1.hl], AV.ae 55 a_1.bl, AV.int a_1.line]), (11, AV.bL 158 [AV.ptr 4 0 [] 0])]))]) ∧ (aX (aa (aV 52 a_1.hl a_1.bl)) ≤ 100000 ∧ a_1.bl.length ≤ 100000) ∧ K (AV.aB 0 0 (List.length (lg [] (eB (aI a_1))))) [Obj.row 9 (strs (lg [] (eB (aI a_1))))]))) := by kernel_rfl
def Ph (a : bQ) : List AV × List Dn.Obj := ([an a], [])
def FA (a : bQ) : Prop := aM (aI a) = true ∧ dh a
def Ib (a : bQ) : Out (AV × List Dn.Obj) := .one (.aB 0 0 (cU (aI a)).length, [.row 9 (strs (cU (aI a)))])
theorem Xv (κ : Kp) : bu (FG κ) 12 97 (aW Ph FA Ib) := by
 refine ba ?_
 rintro ⟨xs, more, rel, hl, bl, line, i⟩ K ⟨h0, h1, h2⟩ ho
 refine Eq.mpr (Zr κ ⟨xs, more, rel, hl, bl, line, i⟩ K) ?_
 have hr : aM ⟨⟨rel, aa hl⟩, cu bl⟩ = true := h0
 simp only at h1 h2
 have hl1 := fu (aa (aV 52 hl bl))
 rw [eG] at hl1
 have hle : hl.length ≤ 100000 := by
  have : (aV 52 hl bl).length = hl.length + (c9 bl).length := by simp [aV, c9]
  omega
 simp only [hr, ax, af, aa1, aa0]
 refine ⟨⟨by omega, by omega⟩, (fun e => nomatch e), fun _ => ⟨⟨xs, more, rel, hl, bl, line, i⟩, ?_, ⟨h1, h2⟩, ?_⟩⟩
 ·rw [show aM (aI ⟨xs, more, rel, hl, bl, line, i⟩) = true from h0]
 ·simp only [Ib, Out.run, cU, h0, aa7] at ho
  exact ho
set_option maxRecDepth 20000 in
noncomputable def FK (κ : Kp) : Env := (FG κ).au 97 (aW Ph FA Ib)
theorem TZ (κ : Kp) : ay (FK κ) := (Rk κ).au (OE κ) (Xv κ)
theorem SC (κ : Kp) : ah (FK κ) := (OE κ).au aH
theorem mF : ∀ l m : List Tm, aX (l ++ m) = aX l + aX m
 | [], m => by simp [aX]
 | t :: l, m => by simp only [List.cons_append, aX, mF l m]; omega
theorem mV {a : bQ} (h : dh a) : aX (aa a.hl) ≤ 100000 := by
 have := h.1
 unfold aV aa at this
 rw [List.map_append, mF] at this
 unfold aa; omega
theorem Di : ∀ (l : List AV) (x : AV), x ∈ l → ik (cj x) ≤ aX (aa (c9 l))
 | [], _, h => by simp at h
 | y :: l, x, h => by
  have e : aX (aa (c9 (y :: l))) = ik (cj y) + aX (aa (c9 l)) := by
   unfold c9 aa
   rw [List.flatMap_cons, List.map_append, mF, List.map_append, mF]
   simp only [ik, cj, AD, aa, ac0, List.map_nil, oX]
  rw [e]
  rcases List.mem_cons.1 h with rfl | h
  ·omega
  ·have := Di l x h; omega
theorem jx {a : bQ} (h : dh a) {i : Nat} (hi : i < a.bl.length) : ik (cj (nth a.bl i)) ≤ 100000 := by
 have h1 := h.1
 have e : aV 52 a.hl a.bl = a.hl ++ c9 a.bl := rfl
 rw [e] at h1
 unfold aa at h1
 rw [List.map_append, mF] at h1
 have := Di a.bl (nth a.bl i) (by rw [br _ _ hi]; exact List.getElem_mem hi)
 unfold aa at this; omega
theorem jm (l : List AV) {i : Nat} (hi : i < l.length) : de (cu l) i = cj (nth l i) := by
 unfold de cu
 rw [List.getD_eq_getElem?_getD, List.getElem?_map, ab6 hi, br l i hi]; rfl
def qp (x : AV) : LA := ⟨toInt (ad x 0), toStr (ad (ad x 1) 0), ai (ad (ad x 1) 1), toInt (ad (ad x 2) 0), toStr (ad (ad x 2) 1), toInt (ad (ad x 2) 2), ai (ad (ad x 2) 3), toInt (ad (ad x 3) 0), toStr (ad (ad x 3) 1), toInt (ad (ad x 3) 2), ai (ad (ad x 3) 3)⟩
theorem dE (x : AV) : (qp x).lt = cj x := by rw [lt_eq]; rfl
structure MV where
 a : bQ
 k : Int
 i : Int
 vs : List ByteArray
abbrev KZ (a : MV) : S := sp 53 [(1, .int a.k), (2, .ptr 0 0 [] 0), (5, .ptr 1 0 [] 0), (17, .ae 55 a.a.bl), (18, .int a.a.bl.length), (19, .int a.i)] [.box 41 (an a.a), .box 114 (.mp 2), .map 9 4 (bH a.vs)]
theorem TR (κ : Kp) (a : bQ) (k i : Int) (es : List (Value × AV)) (I : Nat → S → Prop) (n : Nat) (K : Exit → S → Prop) : (vc (FK κ) 12 127 none 0 (ag (Pr κ).toProgram 127 4) (sp 53 [(1, .int k), (2, .ptr 0 0 [] 0), (5, .ptr 1 0 [] 0), (17, .ae 55 a.bl), (18, .int a.bl.length), (19, .int i)] [.box 41 (an a), .box 114 (.mp 2), .map 9 4 es]) (bK (FK κ) 127 4 0 I n K)) = (
 letI z1 := nth a.bl i.toNat
 letI z2 := IntKind.wrap IntKind.i64 (i + (1 : Int))
 letI z3 := ad z1 2
 letI z4 := toInt (ad z3 0)
 letI z5 := toStr (ad z3 1)
 letI z6 := toInt (ad z3 2)
 letI z7 := ai (ad z3 3)
 letI z8 := ad z1 3
 letI z9 := Value × AV
 letI z10 := AV.mp 2
 aD (decide (i < (↑(a.bl.length) : Int))) (bg (decide ((0 : Int) ≤ i) && decide (i < (↑(a.bl.length) : Int))) (aD (i == k) ((∃ (a_1 : List AV), ([AV.ae 52
 [AV.agg [AV.int z4, AV.str z5, AV.int z6, AV.ae 52 z7]]], aF) = ([AV.ae 52 a_1], aF) ∧ bn a_1 ∧ ∃ (a_2 : List AV × List z9), ([AV.mp 0, AV.ae 9 (List.take
 (List.length (aq (aa a_1))) (List.drop 0 (strs (aq (aa a_1)))))], [Dn.Obj.map 9 4 es]) = ([AV.mp 0, AV.ae 9 a_2.1], [Dn.Obj.map 9 4 a_2.2]) ∧ a7 a_2 ∧ ∃ (m :
 Nat), m < n ∧ I m (sp 53 [(1, AV.int k), (2, AV.ptr 0 0 [] 0), (5, AV.ptr 1 0 [] 0), (17, AV.ae 55 a.bl), (18, AV.int (↑(a.bl.length) : Int)), (19, AV.int z2)]
 [Obj.box 41 (an a), Obj.box 114 z10, Dn.Obj.map 9 4 (eP a_2.2 a_2.1)])) ∧ (∃ (a_1 : List AV), ([AV.ae 52 [AV.agg [AV.int z4, AV.str z5, AV.int z6, AV.ae 52
 z7]]], aF) = ([AV.ae 52 a_1], aF) ∧ bn a_1 ∧ ∃ (a_2 : List AV × List z9), ([AV.mp 0, AV.ae 9 (List.take (List.length (aq (aa a_1))) (List.drop 0 (strs (aq (aa
 a_1)))))], [Dn.Obj.map 9 4 es]) = ([AV.mp 0, AV.ae 9 a_2.1], [Dn.Obj.map 9 4 a_2.2]) ∧ a7 a_2 ∧ ∃ (m : Nat), m < n ∧ I m (sp 53 [(1, AV.int k), (2, AV.ptr 0 0
 [] 0), (5, AV.ptr 1 0 [] 0), (17, AV.ae 55 a.bl), (18, AV.int (↑(a.bl.length) : Int)), (19, AV.int z2)] [Obj.box 41 (an a), Obj.box 114 z10, Dn.Obj.map 9 4 (eP
 a_2.2 a_2.1)])) ∧ ∃ (a_1 : List AV), ([AV.ae 52 [AV.agg [AV.int z4, AV.str z5, AV.int z6, AV.ae 52 z7]]], aF) = ([AV.ae 52 a_1], aF) ∧ bn a_1 ∧ ∃ (a_2 : List AV
 × List z9), ([AV.mp 0, AV.ae 9 (List.take (List.length (aq (aa a_1))) (List.drop 0 (strs (aq (aa a_1)))))], [Dn.Obj.map 9 4 es]) = ([AV.mp 0, AV.ae 9 a_2.1],
 [Dn.Obj.map 9 4 a_2.2]) ∧ a7 a_2 ∧ ∃ (m : Nat), m < n ∧ I m (sp 53 [(1, AV.int k), (2, AV.ptr 0 0 [] 0), (5, AV.ptr 1 0 [] 0), (17, AV.ae 55 a.bl), (18, AV.int
 (↑(a.bl.length) : Int)), (19, AV.int z2)] [Obj.box 41 (an a), Obj.box 114 z10, Dn.Obj.map 9 4 (eP a_2.2 a_2.1)])) ((∃ (a_1 : LA), ([AV.agg [AV.int (toInt (ad z1
 0)), AV.agg [AV.str (toStr (ad (ad z1 1) 0)), AV.ae 52 (ai (ad (ad z1 1) 1))], AV.agg [AV.int z4, AV.str z5, AV.int z6, AV.ae 52 z7], AV.agg [AV.int (toInt (ad
 z8 0)), AV.str (toStr (ad z8 1)), AV.int (toInt (ad z8 2)), AV.ae 52 (ai (ad z8 3))]]], aF) = ([AV.agg [AV.int a_1.op, AV.agg [AV.str a_1.s, AV.ae 52 a_1.l],
 AV.agg [AV.int a_1.o1, AV.str a_1.s1, AV.int a_1.n1, AV.ae 52 a_1.l1], AV.agg [AV.int a_1.o2, AV.str a_1.s2, AV.int a_1.n2, AV.ae 52 a_1.l2]]], aF) ∧ eZ a_1 ∧ ∃
 (a_2 : List AV × List z9), ([AV.mp 0, AV.ae 9 (List.take (List.length (dz (LA.lt a_1))) (List.drop 0 (strs (dz (LA.lt a_1)))))], [Dn.Obj.map 9 4 es]) = ([AV.mp
 0, AV.ae 9 a_2.1], [Dn.Obj.map 9 4 a_2.2]) ∧ a7 a_2 ∧ ∃ (m : Nat), m < n ∧ I m (sp 53 [(1, AV.int k), (2, AV.ptr 0 0 [] 0), (5, AV.ptr 1 0 [] 0), (17, AV.ae 55
 a.bl), (18, AV.int (↑(a.bl.length) : Int)), (19, AV.int z2)] [Obj.box 41 (an a), Obj.box 114 z10, Dn.Obj.map 9 4 (eP a_2.2 a_2.1)])) ∧ ∃ (a_1 : LA), ([AV.agg
 [AV.int (toInt (ad z1 0)), AV.agg [AV.str (toStr (ad (ad z1 1) 0)), AV.ae 52 (ai (ad (ad z1 1) 1))], AV.agg [AV.int z4, AV.str z5, AV.int z6, AV.ae 52 z7],
 AV.agg [AV.int (toInt (ad z8 0)), AV.str (toStr (ad z8 1)), AV.int (toInt (ad z8 2)), AV.ae 52 (ai (ad z8 3))]]], aF) = ([AV.agg [AV.int a_1.op, AV.agg [AV.str
 a_1.s, AV.ae 52 a_1.l], AV.agg [AV.int a_1.o1, AV.str a_1.s1, AV.int a_1.n1, AV.ae 52 a_1.l1], AV.agg [AV.int a_1.o2, AV.str a_1.s2, AV.int a_1.n2, AV.ae 52
 a_1.l2]]], aF) ∧ eZ a_1 ∧ ∃ (a_2 : List AV × List z9), ([AV.mp 0, AV.ae 9 (List.take (List.length (dz (LA.lt a_1))) (List.drop 0 (strs (dz (LA.lt a_1)))))],
 [Dn.Obj.map 9 4 es]) = ([AV.mp 0, AV.ae 9 a_2.1], [Dn.Obj.map 9 4 a_2.2]) ∧ a7 a_2 ∧ ∃ (m : Nat), m < n ∧ I m (sp 53 [(1, AV.int k), (2, AV.ptr 0 0 [] 0), (5,
 AV.ptr 1 0 [] 0), (17, AV.ae 55 a.bl), (18, AV.int (↑(a.bl.length) : Int)), (19, AV.int z2)] [Obj.box 41 (an a), Obj.box 114 z10, Dn.Obj.map 9 4 (eP a_2.2
 a_2.1)])))) (K (Exit.exit 0) (sp 53 [(1, AV.int k), (2, AV.ptr 0 0 [] 0), (5, AV.ptr 1 0 [] 0)] [Obj.box 41 (an a), Obj.box 114 z10, Dn.Obj.map 9 4 es]))) := by kernel_rfl
def C5 (a : MV) : Prop := dh a.a ∧ 0 ≤ a.k ∧ 0 ≤ a.i ∧ a.i ≤ a.a.bl.length
def l6 (a : MV) : List ByteArray := a.vs ++ y5 a.k.toNat (cu (a.a.bl.drop a.i.toNat)) a.i.toNat
def sR (a : MV) : Out (Exit × S) := .one (.exit 0, sp 53 [(1, .int a.k), (2, .ptr 0 0 [] 0), (5, .ptr 1 0 [] 0)] [.box 41 (an a.a), .box 114 (.mp 2), .map 9 4 (bH (l6 a))])
theorem YB (κ : Kp) : bq (FK κ) 12 127 4 (aO 0 KZ C5 sR) := by
 refine aR (fun a => a.a.bl.length - a.i.toNat) ?_
 rintro ⟨a, k, i, vs⟩ K ⟨h1, h2, h3, h4⟩ ho
 simp only at h1 h2 h3 h4
 rw [show (FK κ).P = Pr κ from rfl]
 refine Eq.mpr (TR κ a k i (bH vs) _ _ K) ?_
 simp only [and_self]
 have hl := h1.2
 simp only [sR, l6, Out.run] at ho
 simp only [af, ax, aa0, aa2, aa1, beq_iff_eq, beq_eq_false_iff_ne]
 refine ⟨fun hi => ⟨⟨h3, hi⟩, ?_⟩, fun hi => ?_⟩
 ·have hlit := jx h1 (i := i.toNat) (by omega)
  rw [lM a.bl i.toNat (by omega), y5] at ho
  rw [a8 (n := i + 1) (by omega) (by omega)]
  refine ⟨fun e => ?_, fun e => ?_⟩
  ·subst e
   rw [Nat.beq_refl, aa7, ← List.append_assoc] at ho
   have ht : aa [nI 52 (ad (nth a.bl i.toNat) 2)] = [(cj (nth a.bl i.toNat)).x] := by
    simp only [aa, ac0, List.map_nil, oX]; rfl
   have hc : aX [(cj (nth a.bl i.toNat)).x] ≤ 100000 := by
    have : ik (cj (nth a.bl i.toNat)) = aX [(cj (nth a.bl i.toNat)).x, (cj (nth a.bl i.toNat)).y] + aX (cj (nth a.bl i.toNat)).a.l := rfl
    simp only [aX] at this ⊢; omega
   have hv := bZ [(cj (nth a.bl i.toNat)).x]
   refine ⟨[nI 52 (ad (nth a.bl i.toNat) 2)], rfl, by simp only [bn, ht]; exact hc, ⟨strs (aq [(cj (nth a.bl i.toNat)).x]), bH vs⟩, ?_, ?_, _, ?_, ⟨a, i, i + 1, vs ++ aq [(cj (nth a.bl i.toNat)).x]⟩, ?_, ⟨h1, h2, by simp only; omega, by simp only; omega⟩, rfl, ?_⟩
   ·simp only [ab0, cm, ht]
   ·simp only [a7, a9, aL]; omega
   ·simp only; omega
   ·simp only [mG]
   ·simp only [sR, l6, Out.run, show (i + 1).toNat = i.toNat + 1 by omega]
    exact ho
  ·rw [pI (show i.toNat ≠ k.toNat by omega), aa5, ← List.append_assoc] at ho
   have hv := bZ [(cj (nth a.bl i.toNat)).x, (cj (nth a.bl i.toNat)).y]
   have hv2 := bZ (cj (nth a.bl i.toNat)).a.l
   have hlen : (dz (cj (nth a.bl i.toNat))).length ≤ 100000 := by
    simp only [dz, ik, ab8] at hlit ⊢; omega
   refine ⟨qp (nth a.bl i.toNat), rfl, by rw [eZ, dE]; exact hlit, ⟨strs (dz (cj (nth a.bl i.toNat))), bH vs⟩, ?_, ?_, _, ?_, ⟨a, k, i + 1, vs ++ dz (cj (nth a.bl i.toNat))⟩, ?_, ⟨h1, h2, by simp only; omega, by simp only; omega⟩, rfl, ?_⟩
   ·simp only [ab0, cm, dE]
   ·simp only [a7, a9, aL]; omega
   ·simp only; omega
   ·simp only [mG]
   ·simp only [sR, l6, Out.run, show (i + 1).toNat = i.toNat + 1 by omega]
    exact ho
 ·rw [aa8 (by omega)] at ho
  simpa [cu, y5] using ho
noncomputable def uu (κ : Kp) : Env := (FK κ).aj 127 4 (aO 0 KZ C5 sR)
theorem NW (κ : Kp) : ay (uu κ) := (TZ κ).aj (SC κ) (YB κ)
theorem LR (κ : Kp) : ah (uu κ) := (SC κ).aj aG
def cM (eO : List (Value × AV)) (eQ : List (Value × AV)) (s : ByteArray) : Bool := rD eO s && rD eQ s
structure DO where
 vs : List ByteArray
 i : Int
 eO : List (Value × AV)
 eQ : List (Value × AV)
abbrev zk (R : List AV) (eO : List (Value × AV)) (eQ : List (Value × AV)) : List Dn.Obj := [.row 9 R, .box 114 (.mp 2), .map 9 4 eO, .box 114 (.mp 4), .map 9 4 eQ]
abbrev JZ : AV := .bL 154 [.ptr 1 0 [] 0, .ptr 3 0 [] 0]
abbrev Es (a : DO) : S := sp 19 [(0, .aB 0 0 (strs a.vs).length), (1, JZ), (7, .int (strs a.vs).length), (8, .int a.i)] (zk (strs a.vs) a.eO a.eQ)
theorem W9 (κ : Kp) (a : DO) (I : Nat → S → Prop) (n : Nat) (K : Exit → S → Prop) : (vc (uu κ) 12 155 none 5 (ag (Pr κ).toProgram 155 2) (Es a) (bK (uu κ) 155 2 5 I n K)) = (
 letI z4 := strs a.vs
 letI z1 := K Exit.ret (sp 19 [(4, AV.int a.i)] [Obj.row 9 z4, Obj.box 114 (AV.mp 2), Dn.Obj.map 9 4 a.eO, Obj.box 114 (AV.mp 4), Dn.Obj.map 9 4 a.eQ])
 letI z2 := List.length z4
 letI z3 := Value.string (toStr (nth z4 (0 + a.i.toNat)))
 aD (decide (a.i < (↑z2 : Int))) (bg (decide ((0 : Int) ≤ a.i) && decide (a.i < (↑z2 : Int))) (aD (!Dn.toBool (cF a.eO z3 (AV.bool false))) z1 (aD (!Dn.toBool
 (cF a.eQ z3 (AV.bool false))) z1 (∃ (m : Nat), m < n ∧ I m (sp 19 [(0, AV.aB 0 0 z2), (1, AV.bL 154 [AV.ptr 1 0 [] 0, AV.ptr 3 0 [] 0]), (7, AV.int (↑z2 :
 Int)), (8, AV.int (IntKind.wrap IntKind.i64 (a.i + (1 : Int))))] [Obj.row 9 z4, Obj.box 114 (AV.mp 2), Dn.Obj.map 9 4 a.eO, Obj.box 114 (AV.mp 4), Dn.Obj.map 9
 4 a.eQ]))))) (K (Exit.exit 0) (sp 19 [] [Obj.row 9 z4, Obj.box 114 (AV.mp 2), Dn.Obj.map 9 4 a.eO, Obj.box 114 (AV.mp 4), Dn.Obj.map 9 4 a.eQ]))) := by kernel_rfl
def Be (a : DO) : Prop := a.vs.length ≤ aL ∧ 0 ≤ a.i ∧ a.i ≤ a.vs.length ∧ ∀ s, s ∈ a.vs.take a.i.toNat → cM a.eO a.eQ s = true
def zh (a : DO) : Out (Exit × S) :=
 .aD (a.vs.all (cM a.eO a.eQ)) (.one (.exit 0, sp 19 [] (zk (strs a.vs) a.eO a.eQ)))
  (.all (fun j : Int => ym (cM a.eO a.eQ) a.vs j) fun j => .one (.ret, sp 19 [(4, .int j)] (zk (strs a.vs) a.eO a.eQ)))
theorem U0 (κ : Kp) : bq (uu κ) 12 155 2 (aO 5 Es Be zh) := by
 refine aR (fun a => a.vs.length - a.i.toNat) ?_
 rintro ⟨vs, i, eO, eQ⟩ K ⟨h1, h2, h3, h4⟩ ho
 simp only at h1 h2 h3 h4
 rw [show (uu κ).P = Pr κ from rfl]
 refine Eq.mpr (W9 κ ⟨vs, i, eO, eQ⟩ _ _ K) ?_
 simp only [aL] at h1
 simp only [zh, Out.run, af] at ho
 have hl := a9 vs
 simp only [a9, Nat.zero_add]
 have fin : i < vs.length → ∀ (hi : i.toNat < vs.length), (cM eO eQ vs[i.toNat] = false → K .ret (sp 19 [(4, .int i)] (zk (strs vs) eO eQ))) ∧
   (cM eO eQ vs[i.toNat] = true → ∃ m, m < vs.length - i.toNat ∧ fF Es Be zh (fun a => a.vs.length - a.i.toNat) K m (Es ⟨vs, i + 1, eO, eQ⟩)) := by
  intro hi0 hi
  refine ⟨fun e => ho.2 ?_ i ⟨h2, hi, h4, e⟩, fun e => ⟨_, ?_, ⟨vs, i + 1, eO, eQ⟩, rfl, ⟨by simpa [aL] using h1, by simp only; omega, by simp only; omega, ?_⟩, rfl, ?_⟩⟩
  ·rw [Bool.eq_false_iff]
   intro hall
   rw [List.all_eq_true.1 hall _ (List.getElem_mem hi)] at e
   cases e
  ·simp only; omega
  ·intro s hs
   simp only at hs
   rw [show (i + 1).toNat = i.toNat + 1 by omega, List.take_succ_eq_append_getElem hi, List.mem_append, List.mem_singleton] at hs
   rcases hs with hs | hs
   ·exact h4 s hs
   ·rw [hs]; exact e
  ·simp only [zh, Out.run, af]
   exact ho
 simp only [af, ax, aa0, aa2, aa1, Bool.not_eq_true', ab2]
 refine ⟨fun hi => ⟨⟨h2, hi⟩, ?_⟩, fun hi => ?_⟩
 ·have hi' : i.toNat < vs.length := by omega
  have hn : toStr (nth (strs vs) i.toNat) = vs[i.toNat] := by rw [yO vs _ hi']; rfl
  rw [a8 (n := i + 1) (by omega) (by omega), hn]
  have hf := fin hi hi'
  simp only [Es, a9] at hf
  exact ⟨fun e => hf.1 (by unfold cM rD; rw [e]; rfl), fun e => ⟨fun e2 => hf.1 (by unfold cM rD; rw [e, e2]; rfl), fun e2 => hf.2 (by unfold cM rD; rw [e, e2]; rfl)⟩⟩
 ·refine ho.1 (List.all_eq_true.2 fun s hs => h4 s ?_)
  rw [List.take_of_length_le (by omega)]; exact hs
noncomputable def J2 (κ : Kp) : Env := (uu κ).aj 155 2 (aO 5 Es Be zh)
theorem YO (κ : Kp) : ay (J2 κ) := (NW κ).aj (LR κ) (U0 κ)
theorem Su (κ : Kp) : ah (J2 κ) := (LR κ).aj aG
structure GO where
 R : List AV
 i : Int
 j : Int
 eO : List (Value × AV)
 eQ : List (Value × AV)
 P : List ByteArray
 ws : List ByteArray
abbrev y3 (a : GO) : S := sp 42 [(0, .aB 0 0 a.R.length), (1, JZ), (5, .int a.i), (6, .int a.j)] (zk a.R a.eO a.eQ)
theorem UL (κ : Kp) (a : GO) (I : Nat → S → Prop) (n : Nat) (K : Exit → S → Prop) : (vc (J2 κ) 12 153 none 5 (ag (Pr κ).toProgram 153 5) (y3 a) (bK (J2 κ) 153 5 5 I n K)) = (
 letI z2 := toStr (nth a.R (0 + a.j.toNat))
 letI z3 := IntKind.wrap IntKind.i64 (a.j + (1 : Int))
 letI z1 := sp 42 [(0, AV.aB 0 0 a.R.length), (1, AV.bL 154 [AV.ptr 1 0 [] 0, AV.ptr 3 0 [] 0]), (5, AV.int a.i), (6, AV.int z3)] [Obj.row 9 a.R, Obj.box 114
  (AV.mp 2), Dn.Obj.map 9 4 a.eO, Obj.box 114 (AV.mp 4), Dn.Obj.map 9 4 a.eQ]
 aD (decide (a.j < (↑(a.R.length) : Int))) (bg (decide ((0 : Int) ≤ a.j) && decide (a.j < (↑(a.R.length) : Int))) (aD (!Dn.toBool (cF a.eO (Value.string z2)
 (AV.bool false))) (∃ (m : Nat), m < n ∧ I m z1) (aD (!!Dn.toBool (cF a.eQ (Value.string z2) (AV.bool false))) (bg (decide ((0 : Int) ≤ a.i) && decide (a.i <
 (↑(a.R.length) : Int))) (∃ (m : Nat), m < n ∧ I m (sp 42 [(0, AV.aB 0 0 a.R.length), (1, AV.bL 154 [AV.ptr 1 0 [] 0, AV.ptr 3 0 [] 0]), (5, AV.int (IntKind.wrap
 IntKind.i64 (a.i + (1 : Int)))), (6, AV.int z3)] [Obj.row 9 (cf a.R (0 + a.i.toNat) (AV.str z2)), Obj.box 114 (AV.mp 2), Dn.Obj.map 9 4 a.eO, Obj.box 114 (AV.mp
 4), Dn.Obj.map 9 4 a.eQ]))) (∃ (m : Nat), m < n ∧ I m z1)))) (K (Exit.exit 0) (sp 42 [(0, AV.aB 0 0 a.R.length), (5, AV.int a.i)] [Obj.row 9 a.R, Obj.box 114
 (AV.mp 2), Dn.Obj.map 9 4 a.eO, Obj.box 114 (AV.mp 4), Dn.Obj.map 9 4 a.eQ]))) := by kernel_rfl
def wZ (a : GO) : Prop := a.R.length ≤ aL ∧ 0 ≤ a.i ∧ a.i < a.j ∧ a.j ≤ a.R.length ∧ a.R.take a.i.toNat = strs a.P ∧ a.R.drop a.j.toNat = strs a.ws
def za (a : GO) : Out (Exit × S) := .all (fun R : List AV => R.length = a.R.length ∧ R.take (a.P ++ a.ws.filter (cM a.eO a.eQ)).length = strs (a.P ++ a.ws.filter (cM a.eO a.eQ)))
 fun R => .one (.exit 0, sp 42 [(0, .aB 0 0 a.R.length), (5, .int (a.P ++ a.ws.filter (cM a.eO a.eQ)).length)] (zk R a.eO a.eQ))
theorem Wj (κ : Kp) : bq (J2 κ) 12 153 5 (aO 5 y3 wZ za) := by
 refine aR (fun a => a.R.length - a.j.toNat) ?_
 rintro ⟨R, i, j, eO, eQ, P, ws⟩ K ⟨h1, h2, h3, h4, h5, h6⟩ ho
 simp only at h1 h2 h3 h4 h5 h6
 rw [show (J2 κ).P = Pr κ from rfl]
 refine Eq.mpr (UL κ ⟨R, i, j, eO, eQ, P, ws⟩ _ _ K) ?_
 simp only [aL] at h1
 simp only [za, Out.run] at ho
 simp only [Nat.zero_add]
 have hP : P.length = i.toNat := by
  have := congrArg List.length h5
  rw [List.length_take, a9] at this; omega
 have fin : ∀ (s : ByteArray) (l : List ByteArray), ws = s :: l → j < R.length → nth R j.toNat = .lit (.string s) →
   (cM eO eQ s = false → ∃ m, m < R.length - j.toNat ∧ fF y3 wZ za (fun a => a.R.length - a.j.toNat) K m (y3 ⟨R, i, j + 1, eO, eQ, P, l⟩)) ∧
   (cM eO eQ s = true → ∃ m, m < R.length - j.toNat ∧ fF y3 wZ za (fun a => a.R.length - a.j.toNat) K m (y3 ⟨cf R i.toNat (.lit (.string s)), i + 1, j + 1, eO, eQ, P ++ [s], l⟩)) := by
  rintro s l rfl hj hn
  obtain ⟨_, _, h7⟩ := nB (l := strs l) h6
  refine ⟨fun e => ⟨_, ?_, _, rfl, ⟨by simpa [aL] using h1, h2, by simp only; omega, by simp only; omega, h5, ?_⟩, rfl, ?_⟩, fun e => ⟨_, ?_, _, rfl, ⟨by simpa [aL, kl] using h1, by simp only; omega, by simp only; omega, by simp only [kl]; omega, ?_, ?_⟩, rfl, ?_⟩⟩
  ·simp only; omega
  ·simp only [show (j + 1).toNat = j.toNat + 1 by omega]; exact h7
  ·intro y hy
   have := ho y
   simp only [List.filter_cons, e, Bool.false_eq_true, if_false] at hy this ⊢
   exact this hy
  ·simp only [kl]; omega
  ·simp only [show (i + 1).toNat = i.toNat + 1 by omega]
   rw [vG _ _ _ (by omega), h5, ij]; rfl
  ·simp only [show (j + 1).toNat = j.toNat + 1 by omega]
   rw [vI _ _ _ _ (by omega)]; exact h7
  ·intro y hy
   have := ho y
   simp only [List.filter_cons, e, if_true, kl, List.append_assoc, List.singleton_append] at hy this ⊢
   exact this hy
 simp only [af, ax, aa0, aa2, aa1, Bool.not_eq_true', ab2]
 refine ⟨fun hj => ⟨⟨by omega, hj⟩, ?_⟩, fun hj => ?_⟩
 ·cases ws with
  | nil =>
   have := congrArg List.length h6
   rw [List.length_drop, a9] at this
   simp at this; omega
  | cons s l =>
   obtain ⟨_, hn, _⟩ := nB (l := strs l) h6
   have hn' : toStr (nth R j.toNat) = s := by rw [hn]; rfl
   have hf := fin s l rfl hj hn
   simp only [y3, kl] at hf
   rw [a8 (n := i + 1) (by omega) (by omega), a8 (n := j + 1) (by omega) (by omega), hn']
   exact ⟨fun e => hf.1 (by unfold cM rD; rw [e]; rfl), fun e => ⟨fun e2 => ⟨⟨by omega, by omega⟩, hf.2 (by unfold cM rD; rw [e, e2]; rfl)⟩, fun e2 => hf.1 (by unfold cM rD; rw [e, e2]; rfl)⟩⟩
 ·have hw : ws = [] := by
   have := congrArg List.length h6
   rw [List.length_drop, a9] at this
   cases ws with
   | nil => rfl
   | cons => simp at this; omega
  subst hw
  have := ho R ⟨rfl, by simp only [List.filter_nil, List.append_nil, hP]; exact h5⟩
  simp only [List.filter_nil, List.append_nil, hP, Int.toNat_of_nonneg h2] at this
  exact this
noncomputable def PD (κ : Kp) : Env := (J2 κ).aj 153 5 (aO 5 y3 wZ za)
theorem Vf (κ : Kp) : ay (PD κ) := (YO κ).aj (Su κ) (Wj κ)
theorem Zh (κ : Kp) : ah (PD κ) := (Su κ).aj aG
theorem Yh (κ : Kp) (a : DO) (K : AV → List Dn.Obj → Prop) : (bh (PD κ) 12 153 [.aB 0 0 (strs a.vs).length, JZ] (zk (strs a.vs) a.eO a.eQ) K) = (
 letI z1 := List.length (strs a.vs)
 letI z2 := AV.mp 2
 letI z3 := AV.mp 4
 letI z4 := Pg.toProgram (Env.P (uu κ))
 letI z5 := Pg.toProgram (Env.P (J2 κ))
 ag z4 155 2 = ag z4 155 2 ∧ ∃ (a_1 : DO), sp 19 [(0, AV.aB 0 0 z1), (1, AV.bL 154 [AV.ptr 1 0 [] 0, AV.ptr 3 0 [] 0]), (7, AV.int (↑z1 : Int)), (8, AV.int 0)] [Obj.row 9 (strs a.vs), Obj.box 114 z2, Dn.Obj.map 9 4 a.eO, Obj.box 114 z3, Dn.Obj.map 9 4 a.eQ] = sp 19 [(0, AV.aB 0 0 (List.length (strs a_1.vs))), (1, AV.bL 154 [AV.ptr 1 0 [] 0, AV.ptr 3 0 [] 0]), (7, AV.int (↑(List.length (strs a_1.vs)) : Int)), (8, AV.int a_1.i)] [Obj.row 9 (strs a_1.vs), Obj.box 114 z2, Dn.Obj.map 9 4 a_1.eO, Obj.box 114 z3, Dn.Obj.map 9 4 a_1.eQ] ∧ (a_1.vs.length ≤ 9223372036854775807 ∧ (0 : Int) ≤ a_1.i ∧ a_1.i ≤ (↑(a_1.vs.length) : Int) ∧ ∀ (s : ByteArray), List.Mem s (List.take a_1.i.toNat a_1.vs) → cM a_1.eO a_1.eQ s = true) ∧ aD (List.all a_1.vs (cM a_1.eO a_1.eQ)) (K (AV.ae 9 (List.take z1 (List.drop 0 (strs a_1.vs)))) [Obj.lG 9 (strs a_1.vs), Obj.box 114 z2, Dn.Obj.map 9 4 a_1.eO, Obj.box 114 z3, Dn.Obj.map 9 4 a_1.eQ]) (∀ (y : Int), ((0 : Int) ≤ y ∧ ∃ (h : y.toNat < a_1.vs.length), (∀ (s : ByteArray), List.Mem s (List.take y.toNat a_1.vs) → cM a_1.eO a_1.eQ s = true) ∧ cM a_1.eO a_1.eQ a_1.vs[y.toNat] = false) → aD (y == (-1 : Int)) (K (AV.ae 9 (List.take z1 (List.drop 0 (strs a_1.vs)))) [Obj.lG 9 (strs a_1.vs), Obj.box 114 z2, Dn.Obj.map 9 4 a_1.eO, Obj.box 114 z3, Dn.Obj.map 9 4 a_1.eQ]) (ag z5 153 5 = ag z5 153 5 ∧ ∃ (a_3 : GO), sp 42 [(0, AV.aB 0 0 z1), (1, AV.bL 154 [AV.ptr 1 0 [] 0, AV.ptr 3 0 [] 0]), (5, AV.int y), (6, AV.int (IntKind.wrap IntKind.i64 (y + (1 : Int))))] [Obj.row 9 (strs a_1.vs), Obj.box 114 z2, Dn.Obj.map 9 4 a_1.eO, Obj.box 114 z3, Dn.Obj.map 9 4 a_1.eQ] = sp 42 [(0, AV.aB 0 0 a_3.R.length), (1, AV.bL 154 [AV.ptr 1 0 [] 0, AV.ptr 3 0 [] 0]), (5, AV.int a_3.i), (6, AV.int a_3.j)] [Obj.row 9 a_3.R, Obj.box 114 z2, Dn.Obj.map 9 4 a_3.eO, Obj.box 114 z3, Dn.Obj.map 9 4 a_3.eQ] ∧ (a_3.R.length ≤ 9223372036854775807 ∧ (0 : Int) ≤ a_3.i ∧ a_3.i < a_3.j ∧ a_3.j ≤ (↑(a_3.R.length) : Int) ∧ List.take a_3.i.toNat a_3.R = strs a_3.P ∧ List.drop a_3.j.toNat a_3.R = strs a_3.ws) ∧ ∀ (y : List AV), y.length = a_3.R.length ∧ List.take (List.length (a_3.P ++ List.filter (cM a_3.eO a_3.eQ) a_3.ws)) y = strs (a_3.P ++ List.filter (cM a_3.eO a_3.eQ) a_3.ws) → bg (true && decide ((↑(List.length (a_3.P ++ List.filter (cM a_3.eO a_3.eQ) a_3.ws)) : Int) ≤ (↑(a_3.R.length) : Int)) && decide ((↑(a_3.R.length) : Int) ≤ (↑(a_3.R.length) : Int))) (bg (true && decide ((↑(List.length (a_3.P ++ List.filter (cM a_3.eO a_3.eQ) a_3.ws)) : Int) ≤ (↑(a_3.R.length) : Int))) (K (AV.ae 9 (List.take (Int.toNat ((↑(List.length (a_3.P ++ List.filter (cM a_3.eO a_3.eQ) a_3.ws)) : Int) - (0 : Int))) (List.drop 0 (dy y (0 + Int.toNat (↑(List.length (a_3.P ++ List.filter (cM a_3.eO a_3.eQ) a_3.ws)) : Int)) (Int.toNat ((↑(a_3.R.length) : Int) - (↑(List.length (a_3.P ++ List.filter (cM a_3.eO a_3.eQ) a_3.ws)) : Int))) (AV.str { data := #[] }))))) [Obj.lG 9 (dy y (0 + Int.toNat (↑(List.length (a_3.P ++ List.filter (cM a_3.eO a_3.eQ) a_3.ws)) : Int)) (Int.toNat ((↑(a_3.R.length) : Int) - (↑(List.length (a_3.P ++ List.filter (cM a_3.eO a_3.eQ) a_3.ws)) : Int))) (AV.str { data := #[] })), Obj.box 114 z2, Dn.Obj.map 9 4 a_3.eO, Obj.box 114 z3, Dn.Obj.map 9 4 a_3.eQ]))))) := by kernel_rfl
def CV (a : DO) : List AV × List Dn.Obj := ([.aB 0 0 a.vs.length, JZ], zk (strs a.vs) a.eO a.eQ)
def iW (a : DO) : Prop := a.vs.length ≤ aL
def Br (a : DO) : Out (AV × List Dn.Obj) := .all (fun _ : List AV => True) fun R => .one (.ae 9 (strs (a.vs.filter (cM a.eO a.eQ))), [.lG 9 R, .box 114 (.mp 2), .map 9 4 a.eO, .box 114 (.mp 4), .map 9 4 a.eQ])
theorem QF (κ : Kp) : bu (PD κ) 12 153 (aW CV iW Br) := by
 refine ba ?_
 rintro ⟨vs, i, eO, eQ⟩ K h1 ho
 simp only [iW] at h1
 simp only [CV]
 rw [← a9 vs]
 refine Eq.mpr (Yh κ ⟨vs, i, eO, eQ⟩ K) ?_
 refine ⟨rfl, ⟨vs, 0, eO, eQ⟩, rfl, ⟨h1, by simp only; omega, by simp only; omega, fun s hs => nomatch hs⟩, ?_⟩
 rw [af]
 refine ⟨fun e => ?_, fun e y hy => ?_⟩
 ·have hf : vs.filter (cM eO eQ) = vs := List.filter_eq_self.2 (List.all_eq_true.1 e)
  have := ho (strs vs) trivial
  simp only [hf] at this
  rw [ab0, List.take_length]
  exact this
 ·have hF := wB hy
  obtain ⟨h0, h2, h3, h4⟩ := hy
  simp only at h0 h2
  simp only [aL] at h1
  rw [af, beq_iff_eq, beq_eq_false_iff_ne]
  refine ⟨fun e2 => by omega, fun _ => ⟨rfl, ⟨strs vs, y, y + 1, eO, eQ, vs.take y.toNat, vs.drop (y.toNat + 1)⟩, ?_, ⟨by simp only [a9]; omega, h0, by simp only; omega, by simp only [a9]; omega, ?_, ?_⟩, ?_⟩⟩
  ·rw [a8 (n := y + 1) (by omega) (by omega)]
  ·simp only [strs, List.map_take]
  ·simp only [strs, List.map_drop, show (y + 1).toNat = y.toNat + 1 by omega]
  ·rintro R ⟨r1, r2⟩
   simp only at r1 r2
   rw [← hF] at r2 ⊢
   have hle : (vs.filter (cM eO eQ)).length ≤ vs.length := List.length_filter_le _ _
   rw [ax, ax]
   refine ⟨by simp [a9, hle], by simp [a9, hle], ?_⟩
   have := ho (dy R (0 + Int.toNat ((vs.filter (cM eO eQ)).length : Int)) (Int.toNat (((strs vs).length : Int) - ((vs.filter (cM eO eQ)).length : Int))) (.lit (.string (ByteArray.mk #[])))) trivial
   simp only [Int.toNat_natCast, Nat.zero_add, Int.sub_zero, ab0, qJ, r2] at this ⊢
   exact this
theorem QB (κ : Kp) : ∀ args st K, aW CV iW Br args st K → dF (Pr κ) 153 args st K := fun args st K h => jf (Vf κ) (Zh κ) (QF κ args st K h)
noncomputable def Hg (κ : Kp) : Env := (uu κ).au 153 (aW CV iW Br)
theorem Rs (κ : Kp) : ay (Hg κ) := (NW κ).lC (QB κ)
theorem ON (κ : Kp) : ah (Hg κ) := (LR κ).au aH
theorem XL (κ : Kp) (a : bQ) (k : Int) (K : AV → List Dn.Obj → Prop) : (bh (Hg κ) 12 127 [an a, .int k] [] K) = (
 letI z1 := Pg.toProgram (Env.P (FK κ))
 letI z2 := AV.mp 2
 letI z3 := Value × AV
 letI z4 := AV.mp 4
 letI z5 := (0 : Int)
 (∃ (a_1 : List AV), ([AV.ae 52 a.hl], aF) = ([AV.ae 52 a_1], aF) ∧ bn a_1 ∧ ∃ (a_2 : List AV × List z3), ([AV.mp 0, AV.ae 9 (List.take (List.length (aq (aa
 a_1))) (List.drop 0 (strs (aq (aa a_1)))))], [Dn.Obj.map 9 4 []]) = ([AV.mp 0, AV.ae 9 a_2.1], [Dn.Obj.map 9 4 a_2.2]) ∧ a7 a_2 ∧ ag z1 127 4 = ag z1 127 4 ∧ ∃
 (a_3 : MV), sp 53 [(1, AV.int k), (2, AV.ptr 0 0 [] 0), (5, AV.ptr 1 0 [] 0), (17, AV.ae 55 a.bl), (18, AV.int (↑(a.bl.length) : Int)), (19, AV.int 0)] [Obj.box
 41 (an a), Obj.box 114 z2, Dn.Obj.map 9 4 (eP a_2.2 a_2.1)] = sp 53 [(1, AV.int a_3.k), (2, AV.ptr 0 0 [] 0), (5, AV.ptr 1 0 [] 0), (17, AV.ae 55 a_3.a.bl),
 (18, AV.int (↑(List.length a_3.a.bl) : Int)), (19, AV.int a_3.i)] [Obj.box 41 (an a_3.a), Obj.box 114 z2, Dn.Obj.map 9 4 (bH a_3.vs)] ∧ ((aX (aa (aV 52 a_3.a.hl
 a_3.a.bl)) ≤ 100000 ∧ List.length a_3.a.bl ≤ 100000) ∧ z5 ≤ a_3.k ∧ z5 ≤ a_3.i ∧ a_3.i ≤ (↑(List.length a_3.a.bl) : Int)) ∧ bg (decide (z5 ≤ a_3.k) && decide
 (a_3.k < (↑(List.length a_3.a.bl) : Int))) ((∃ (a : List AV), ([AV.ae 52 (ai (ad (ad (nth a_3.a.bl a_3.k.toNat) 1) 1))], aF) = ([AV.ae 52 a], aF) ∧ bn a ∧ ∃
 (a_4 : List AV × List z3), ([AV.mp 0, AV.ae 9 (List.take (List.length (aq (aa a))) (List.drop 0 (strs (aq (aa a)))))], [Dn.Obj.map 9 4 []]) = ([AV.mp 0, AV.ae 9
 a_4.1], [Dn.Obj.map 9 4 a_4.2]) ∧ a7 a_4 ∧ ∃ (a : bQ), ([an a_3.a], aF) = ([an a], aF) ∧ (aM (aI a) = true ∧ aX (aa (aV 52 a.hl a.bl)) ≤ 100000 ∧ a.bl.length ≤
 100000) ∧ ∃ (a_5 : DO), ([AV.aB 0 0 (List.length (cU (aI a))), AV.bL 154 [AV.ptr 1 0 [] 0, AV.ptr 3 0 [] 0]], [Obj.row 9 (strs (cU (aI a))), Obj.box 114 z2,
 Dn.Obj.map 9 4 (eP a_4.2 a_4.1), Obj.box 114 z4, Dn.Obj.map 9 4 (bH (l6 a_3))]) = ([AV.aB 0 0 a_5.vs.length, AV.bL 154 [AV.ptr 1 0 [] 0, AV.ptr 3 0 [] 0]],
 [Obj.row 9 (strs a_5.vs), Obj.box 114 z2, Dn.Obj.map 9 4 a_5.eO, Obj.box 114 z4, Dn.Obj.map 9 4 a_5.eQ]) ∧ iW a_5 ∧ ∀ (y : List AV), True → K (AV.ae 9 (strs
 (List.filter (cM a_5.eO a_5.eQ) a_5.vs))) []) ∧ ∃ (a : List AV), ([AV.ae 52 (ai (ad (ad (nth a_3.a.bl a_3.k.toNat) 1) 1))], aF) = ([AV.ae 52 a], aF) ∧ bn a ∧ ∃
 (a_4 : List AV × List z3), ([AV.mp 0, AV.ae 9 (List.take (List.length (aq (aa a))) (List.drop 0 (strs (aq (aa a)))))], [Dn.Obj.map 9 4 []]) = ([AV.mp 0, AV.ae 9
 a_4.1], [Dn.Obj.map 9 4 a_4.2]) ∧ a7 a_4 ∧ ∃ (a : bQ), ([an a_3.a], aF) = ([an a], aF) ∧ (aM (aI a) = true ∧ aX (aa (aV 52 a.hl a.bl)) ≤ 100000 ∧ a.bl.length ≤
 100000) ∧ ∃ (a_5 : DO), ([AV.aB 0 0 (List.length (cU (aI a))), AV.bL 154 [AV.ptr 1 0 [] 0, AV.ptr 3 0 [] 0]], [Obj.row 9 (strs (cU (aI a))), Obj.box 114 z2,
 Dn.Obj.map 9 4 (eP a_4.2 a_4.1), Obj.box 114 z4, Dn.Obj.map 9 4 (bH (l6 a_3))]) = ([AV.aB 0 0 a_5.vs.length, AV.bL 154 [AV.ptr 1 0 [] 0, AV.ptr 3 0 [] 0]],
 [Obj.row 9 (strs a_5.vs), Obj.box 114 z2, Dn.Obj.map 9 4 a_5.eO, Obj.box 114 z4, Dn.Obj.map 9 4 a_5.eQ]) ∧ iW a_5 ∧ ∀ (y : List AV), True → K (AV.ae 9 (strs
 (List.filter (cM a_5.eO a_5.eQ) a_5.vs))) [])) ∧ ∃ (a_1 : List AV), ([AV.ae 52 a.hl], aF) = ([AV.ae 52 a_1], aF) ∧ bn a_1 ∧ ∃ (a_2 : List AV × List z3), ([AV.mp
 0, AV.ae 9 (List.take (List.length (aq (aa a_1))) (List.drop 0 (strs (aq (aa a_1)))))], [Dn.Obj.map 9 4 []]) = ([AV.mp 0, AV.ae 9 a_2.1], [Dn.Obj.map 9 4
 a_2.2]) ∧ a7 a_2 ∧ ag z1 127 4 = ag z1 127 4 ∧ ∃ (a_3 : MV), sp 53 [(1, AV.int k), (2, AV.ptr 0 0 [] 0), (5, AV.ptr 1 0 [] 0), (17, AV.ae 55 a.bl), (18, AV.int
 (↑(a.bl.length) : Int)), (19, AV.int 0)] [Obj.box 41 (an a), Obj.box 114 z2, Dn.Obj.map 9 4 (eP a_2.2 a_2.1)] = sp 53 [(1, AV.int a_3.k), (2, AV.ptr 0 0 [] 0),
 (5, AV.ptr 1 0 [] 0), (17, AV.ae 55 a_3.a.bl), (18, AV.int (↑(List.length a_3.a.bl) : Int)), (19, AV.int a_3.i)] [Obj.box 41 (an a_3.a), Obj.box 114 z2,
 Dn.Obj.map 9 4 (bH a_3.vs)] ∧ ((aX (aa (aV 52 a_3.a.hl a_3.a.bl)) ≤ 100000 ∧ List.length a_3.a.bl ≤ 100000) ∧ z5 ≤ a_3.k ∧ z5 ≤ a_3.i ∧ a_3.i ≤ (↑(List.length
 a_3.a.bl) : Int)) ∧ bg (decide (z5 ≤ a_3.k) && decide (a_3.k < (↑(List.length a_3.a.bl) : Int))) ((∃ (a : List AV), ([AV.ae 52 (ai (ad (ad (nth a_3.a.bl
 a_3.k.toNat) 1) 1))], aF) = ([AV.ae 52 a], aF) ∧ bn a ∧ ∃ (a_4 : List AV × List z3), ([AV.mp 0, AV.ae 9 (List.take (List.length (aq (aa a))) (List.drop 0 (strs
 (aq (aa a)))))], [Dn.Obj.map 9 4 []]) = ([AV.mp 0, AV.ae 9 a_4.1], [Dn.Obj.map 9 4 a_4.2]) ∧ a7 a_4 ∧ ∃ (a : bQ), ([an a_3.a], aF) = ([an a], aF) ∧ (aM (aI a) =
 true ∧ aX (aa (aV 52 a.hl a.bl)) ≤ 100000 ∧ a.bl.length ≤ 100000) ∧ ∃ (a_5 : DO), ([AV.aB 0 0 (List.length (cU (aI a))), AV.bL 154 [AV.ptr 1 0 [] 0, AV.ptr 3 0
 [] 0]], [Obj.row 9 (strs (cU (aI a))), Obj.box 114 z2, Dn.Obj.map 9 4 (eP a_4.2 a_4.1), Obj.box 114 z4, Dn.Obj.map 9 4 (bH (l6 a_3))]) = ([AV.aB 0 0
 a_5.vs.length, AV.bL 154 [AV.ptr 1 0 [] 0, AV.ptr 3 0 [] 0]], [Obj.row 9 (strs a_5.vs), Obj.box 114 z2, Dn.Obj.map 9 4 a_5.eO, Obj.box 114 z4, Dn.Obj.map 9 4
 a_5.eQ]) ∧ iW a_5 ∧ ∀ (y : List AV), True → K (AV.ae 9 (strs (List.filter (cM a_5.eO a_5.eQ) a_5.vs))) []) ∧ ∃ (a : List AV), ([AV.ae 52 (ai (ad (ad (nth
 a_3.a.bl a_3.k.toNat) 1) 1))], aF) = ([AV.ae 52 a], aF) ∧ bn a ∧ ∃ (a_4 : List AV × List z3), ([AV.mp 0, AV.ae 9 (List.take (List.length (aq (aa a))) (List.drop
 0 (strs (aq (aa a)))))], [Dn.Obj.map 9 4 []]) = ([AV.mp 0, AV.ae 9 a_4.1], [Dn.Obj.map 9 4 a_4.2]) ∧ a7 a_4 ∧ ∃ (a : bQ), ([an a_3.a], aF) = ([an a], aF) ∧ (aM
 (aI a) = true ∧ aX (aa (aV 52 a.hl a.bl)) ≤ 100000 ∧ a.bl.length ≤ 100000) ∧ ∃ (a_5 : DO), ([AV.aB 0 0 (List.length (cU (aI a))), AV.bL 154 [AV.ptr 1 0 [] 0,
 AV.ptr 3 0 [] 0]], [Obj.row 9 (strs (cU (aI a))), Obj.box 114 z2, Dn.Obj.map 9 4 (eP a_4.2 a_4.1), Obj.box 114 z4, Dn.Obj.map 9 4 (bH (l6 a_3))]) = ([AV.aB 0 0
 a_5.vs.length, AV.bL 154 [AV.ptr 1 0 [] 0, AV.ptr 3 0 [] 0]], [Obj.row 9 (strs a_5.vs), Obj.box 114 z2, Dn.Obj.map 9 4 a_5.eO, Obj.box 114 z4, Dn.Obj.map 9 4
 a_5.eQ]) ∧ iW a_5 ∧ ∀ (y : List AV), True → K (AV.ae 9 (strs (List.filter (cM a_5.eO a_5.eQ) a_5.vs))) [])) := by kernel_rfl
def I2 (a : bQ × Int) : List AV × List Dn.Obj := ([an a.1, .int a.2], [])
def wq (a : bQ × Int) : Prop := aM (aI a.1) = true ∧ dh a.1 ∧ 0 ≤ a.2 ∧ a.2 < a.1.bl.length
def K7 (a : bQ × Int) : Out (AV × List Dn.Obj) := .one (.ae 9 (strs (dw (aI a.1) a.2.toNat)), [])
theorem Zb (κ : Kp) : bu (Hg κ) 12 127 (aW I2 wq K7) := by
 refine ba ?_
 rintro ⟨a, k⟩ K ⟨h1, h2, h3, h4⟩ ho
 refine Eq.mpr (XL κ a k K) ?_
 simp only at h1 h2 h3 h4
 have hc := mV h2
 have hv := bZ (aa a.hl)
 have hk : k.toNat < a.bl.length := by omega
 have hlit := jx h2 hk
 simp only [and_self]
 refine ⟨a.hl, rfl, hc, ⟨strs (aq (aa a.hl)), []⟩, ?_, ?_, trivial, ⟨a, k, 0, aq (aa a.hl)⟩, rfl, ⟨h2, h3, by simp only; omega, by simp only; omega⟩, ?_⟩
 ·simp only [ab0, cm]
 ·simp only [a7, a9, aL]; omega
 rw [ax, aa1, aa0, aa0]
 have hin : aq (aa (ai (ad (ad (nth a.bl k.toNat) 1) 1))) = aq (de (aI a).body k.toNat).a.l := by
  rw [show (aI a).body = cu a.bl from rfl, jm _ hk, lt_eq]
 have hcl : aX (aa (ai (ad (ad (nth a.bl k.toNat) 1) 1))) ≤ 100000 := by
  rw [lt_eq] at hlit
  simp only [ik] at hlit; omega
 have hvl := bZ (aa (ai (ad (ad (nth a.bl k.toNat) 1) 1)))
 refine ⟨⟨h3, h4⟩, _, rfl, hcl, ⟨strs (aq (aa (ai (ad (ad (nth a.bl k.toNat) 1) 1)))), []⟩, ?_, ?_, a, rfl, ⟨h1, h2⟩, ⟨cU (aI a), 0, eP [] (strs (aq (aa (ai (ad (ad (nth a.bl k.toNat) 1) 1))))), bH (l6 ⟨a, k, 0, aq (aa a.hl)⟩)⟩, rfl, ?_, ?_⟩
 ·simp only [ab0, cm]
 ·simp only [a7, a9, aL]; omega
 ·have h5 : (eB (aI a)).length ≤ 100000 := by
   have h6 := bZ (aa (aV 52 a.hl a.bl))
   rw [im 52 a.rel a.hl a.bl] at h6
   exact Nat.le_trans h6 h2.1
  have h7 := kt (eB (aI a)) []
  simp only [iW, cU, h1, aa7, aL]; omega
 ·intro R _
  have hk2 : (fun s => cM (eP [] (strs (aq (aa (ai (ad (ad (nth a.bl k.toNat) 1) 1)))))) (bH (l6 ⟨a, k, 0, aq (aa a.hl)⟩)) s) = fun v => (aq (de (aI a).body k.toNat).a.l).contains v && (Li (aI a) k.toNat).contains v := by
   funext s
   unfold cM
   rw [oG, hin]
   congr 1
   exact oG _ s
  have hk3 : List.filter (cM (eP [] (strs (aq (aa (ai (ad (ad (nth a.bl k.toNat) 1) 1)))))) (bH (l6 ⟨a, k, 0, aq (aa a.hl)⟩))) (cU (aI a)) = dw (aI a) k.toNat := by
   unfold dw
   exact congrFun (congrArg _ hk2) _
  simp only [hk3]
  exact ho
noncomputable def JD (κ : Kp) : Env := (Hg κ).au 127 (aW I2 wq K7)
theorem YC (κ : Kp) : ay (JD κ) := (Rs κ).au (ON κ) (Zb κ)
theorem Sn (κ : Kp) : ah (JD κ) := (ON κ).au aH
end Go.Proofs.YtdpmikfheebicaaGreatDoor
