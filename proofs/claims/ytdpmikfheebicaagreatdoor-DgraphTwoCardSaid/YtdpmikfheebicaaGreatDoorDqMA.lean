import Derived.Test.YtdpmikfheebicaaGreatDoorDqM9
import Derived.Test.YtdpmikfheebicaaGreatDoorDqM1
namespace Go.Proofs.YtdpmikfheebicaaGreatDoor
open Go Go.Dn Go.Rl Go.Proofs
attribute [local irreducible] bh vc
set_option maxRecDepth 20000
theorem WT (κ : Kp) (N : Nat) (ls : List (List Value)) (fs : List AV) (a b : Int) (K : AV → List Dn.Obj → Prop) : (bh (OK κ) 12 47 [.ptr 0 0 [] 0, .int a, .int b] (re N ls fs) K) = (
 letI z1 := AV.agg [AV.aB 1 0 N, AV.aB 2 0 fs.length]
 letI z2 := AV.bool false
 aD (a == b) (K (AV.bool true) [Obj.box 82 z1, Obj.rows 48 3 ls none, Obj.row 68 fs]) (bg (decide ((0 : Int) ≤ a) && decide (a < (↑(fs.length) : Int))) (aD
 (Dn.toBool (cF (List.zip (yw (nth fs (0 + a.toNat))) (uF (nth fs (0 + a.toNat)))) (Value.int IntKind.i64 b) z2)) (bg (decide ((0 : Int) ≤ b) && decide (b <
 (↑(fs.length) : Int))) (K (AV.bool (Dn.toBool (cF (List.zip (yw (nth fs (0 + b.toNat))) (uF (nth fs (0 + b.toNat)))) (Value.int IntKind.i64 a) z2))) [Obj.box 82
 z1, Obj.rows 48 3 ls none, Obj.row 68 fs])) (K z2 [Obj.box 82 z1, Obj.rows 48 3 ls none, Obj.row 68 fs])))) := by kernel_rfl
theorem w6 : ∀ l : List Int, (l.map fb).zip (l.map fun _ => AV.lit (.bool true)) = gb l
 | [] => rfl
 | a :: l => by
  have ih := w6 l
  simp only [ac0, List.zip_cons_cons, gb] at ih ⊢
  rw [ih]
theorem zx (n m : Nat) (L : Gr) (k : Nat) (a : Int) (h0 : 0 ≤ a) (h : a < k) : nth (a6 n m L k) (0 + a.toNat) = MQ (gp n m L a) := by
 rw [Nat.zero_add, br _ _ (by rw [jn]; omega)]
 simp only [a6, List.getElem_map, List.getElem_range]
 rw [show ((a.toNat : Nat) : Int) = a by omega]
theorem Cs (n m : Nat) (L : Gr) (k : Nat) (a b : Int) (h0 : 0 ≤ a) (h : a < k) : Dn.toBool (cF (List.zip (yw (nth (a6 n m L k) (0 + a.toNat))) (uF (nth (a6 n m L k) (0 + a.toNat)))) (Value.int IntKind.i64 b) (AV.lit (Value.bool false))) = (gp n m L a).contains b := by
 rw [zx n m L k a h0 h]
 simp only [yw, uF]
 rw [w6, kE]
 rfl
structure I7 where
 n : Nat
 m : Nat
 L : Gr
 a : Int
 b : Int
abbrev my (n m : Nat) (L : Gr) : List Dn.Obj := re n (cB L) (a6 n m L n)
def Ni (x : I7) : List AV × List Dn.Obj := ([.ptr 0 0 [] 0, .int x.a, .int x.b], my x.n x.m x.L)
def HG (x : I7) : Prop := (0 ≤ x.a ∧ x.a < x.n) ∧ 0 ≤ x.b ∧ x.b < x.n
def HS (x : I7) : Out (AV × List Dn.Obj) := .one (.bool (fm x.n x.m x.L x.a x.b), my x.n x.m x.L)
theorem UB (κ : Kp) : bu (OK κ) 12 47 (aW Ni HG HS) := by
 refine ba ?_
 rintro ⟨n, m, L, a, b⟩ K ⟨⟨ha, ha'⟩, hb, hb'⟩ ho
 simp only at ha ha' hb hb'
 refine Eq.mpr (WT κ n (cB L) (a6 n m L n) a b K) ?_
 simp only [HS, Out.run, fm, my, re, jn] at ho
 rw [Cs n m L n a b ha ha', Cs n m L n b a hb hb', jn]
 simp only [ax, af, aa1, aa0, beq_iff_eq, beq_eq_false_iff_ne]
 refine ⟨fun e => ?_, fun e => ⟨⟨ha, ha'⟩, fun h => ⟨⟨hb, hb'⟩, ?_⟩, fun h => ?_⟩⟩
 ·rw [aa6 e, Bool.true_or] at ho; exact ho
 ·rw [aa4 e, h, Bool.false_or, ab9] at ho; exact ho
 ·rw [aa4 e, h, Bool.false_or, Bool.false_and] at ho; exact ho
noncomputable def IP (κ : Kp) : Env := (OK κ).au 47 (aW Ni HG HS)
theorem Vx (κ : Kp) : ay (IP κ) := (Vp κ).au (SN κ) (UB κ)
theorem SS (κ : Kp) : ah (IP κ) := (SN κ).au aH
theorem Ui (κ : Kp) (N i : Nat) (ls : List (List Value)) (fs ws : List AV) (a : Int) (I : Nat → S → Prop) (n : Nat) (K : Exit → S → Prop) : (vc (IP κ) 12 39 none 3 (ag (Pr κ).toProgram 39 3) (sp 25 [(0, .ptr 0 0 [] 0), (1, .int a), (5, .aB 3 0 ws.length), (11, .int N), (12, .int i)] (re N ls fs ++ [.row 3 ws])) (bK (IP κ) 39 3 3 I n K)) = (
 letI z1 := IntKind.wrap IntKind.i64 ((↑i : Int) + (1 : Int))
 letI z2 := AV.agg [AV.aB 1 0 N, AV.aB 2 0 fs.length]
 aD (decide ((↑i : Int) < (↑N : Int))) (∃ (a_1 : I7), ([AV.ptr 0 0 [] 0, AV.int a, AV.int (↑i : Int)], [Obj.box 82 z2, Obj.rows 48 3 ls none, Obj.row 68 fs]) =
 ([AV.ptr 0 0 [] 0, AV.int a_1.a, AV.int a_1.b], [Obj.box 82 (AV.agg [AV.aB 1 0 a_1.n, AV.aB 2 0 (List.length (a6 a_1.n a_1.m a_1.L a_1.n))]), Obj.rows 48 3 (cB
 a_1.L) none, Obj.row 68 (a6 a_1.n a_1.m a_1.L a_1.n)]) ∧ (((0 : Int) ≤ a_1.a ∧ a_1.a < (↑(a_1.n) : Int)) ∧ (0 : Int) ≤ a_1.b ∧ a_1.b < (↑(a_1.n) : Int)) ∧ aD
 (fm a_1.n a_1.m a_1.L a_1.a a_1.b) (bg (decide ((ws.length + 1 + 1) * 9 ≤ 70368744177664)) (∃ (m : Nat), m < n ∧ I m (sp 25 [(0, AV.ptr 0 0 [] 0), (1, AV.int
 a), (5, AV.aB 3 0 (ws.length + 1)), (11, AV.int (↑N : Int)), (12, AV.int z1)] [Obj.box 82 (AV.agg [AV.aB 1 0 a_1.n, AV.aB 2 0 (List.length (a6 a_1.n a_1.m a_1.L
 a_1.n))]), Obj.rows 48 3 (cB a_1.L) none, Obj.row 68 (a6 a_1.n a_1.m a_1.L a_1.n), Obj.row 3 (List.take ws.length ws ++ [AV.int (↑i : Int)])]))) (∃ (m : Nat), m
 < n ∧ I m (sp 25 [(0, AV.ptr 0 0 [] 0), (1, AV.int a), (5, AV.aB 3 0 ws.length), (11, AV.int (↑N : Int)), (12, AV.int z1)] [Obj.box 82 (AV.agg [AV.aB 1 0 a_1.n,
 AV.aB 2 0 (List.length (a6 a_1.n a_1.m a_1.L a_1.n))]), Obj.rows 48 3 (cB a_1.L) none, Obj.row 68 (a6 a_1.n a_1.m a_1.L a_1.n), Obj.row 3 ws]))) (K (Exit.exit
 0) (sp 25 [(5, AV.aB 3 0 ws.length)] [Obj.box 82 z2, Obj.rows 48 3 ls none, Obj.row 68 fs, Obj.row 3 ws]))) := by kernel_rfl
def uc (n m : Nat) (L : Gr) (a : Int) (i : Nat) : List Int := (gH i).filter (fm n m L a)
theorem Ev (n m : Nat) (L : Gr) (a : Int) (i : Nat) : uc n m L a (i + 1) = bif fm n m L a i then uc n m L a i ++ [(i : Int)] else uc n m L a i := by
 unfold uc gH
 rw [List.range_succ, List.map_append, List.filter_append]
 cases h : fm n m L a i <;> simp [h]
theorem zN (n m : Nat) (L : Gr) (a : Int) (i : Nat) : (uc n m L a i).length ≤ i := by
 have := List.length_filter_le (fm n m L a) (gH i)
 simpa [uc, gH] using this
structure Ln where
 n : Nat
 m : Nat
 L : Gr
 a : Int
 i : Nat
abbrev JS (x : Ln) : S := sp 25 [(0, .ptr 0 0 [] 0), (1, .int x.a), (5, .aB 3 0 (iA (uc x.n x.m x.L x.a x.i)).length), (11, .int x.n), (12, .int x.i)] (my x.n x.m x.L ++ [.row 3 (iA (uc x.n x.m x.L x.a x.i))])
def Ho (x : Ln) : Prop := (0 ≤ x.a ∧ x.a < x.n) ∧ x.i ≤ x.n ∧ x.n ≤ 60
def KM (x : Ln) : Out (Exit × S) := .one (.exit 0, sp 25 [(5, .aB 3 0 (iA (gl x.n x.m x.L x.a)).length)] (my x.n x.m x.L ++ [.row 3 (iA (gl x.n x.m x.L x.a))]))
theorem Us (κ : Kp) : bq (IP κ) 12 39 3 (aO 3 JS Ho KM) := by
 refine aR (fun x => x.n - x.i) ?_
 rintro ⟨n, m, L, a, i⟩ K ⟨ha, hi, hn⟩ ho
 simp only at ha hi hn
 rw [show (IP κ).P = Pr κ from rfl]
 refine Eq.mpr (Ui κ n i (cB L) (a6 n m L n) (iA (uc n m L a i)) a _ _ K) ?_
 have hl := zN n m L a i
 rw [af, aa0, aa2]
 refine ⟨fun h => ⟨⟨n, m, L, a, i⟩, rfl, ⟨ha, by simp only; omega, h⟩, ?_⟩, fun h => ?_⟩
 ·rw [a8 (n := (i : Int) + 1) (by omega) (by omega), af, ax, aa0, List.take_length]
  have hs := Ev n m L a i
  refine ⟨fun e => ⟨by rw [gU]; omega, _, ?_, ⟨n, m, L, a, i + 1⟩, ?_, ⟨ha, by simp only; omega, hn⟩, rfl, ho⟩, fun e => ⟨_, ?_, ⟨n, m, L, a, i + 1⟩, ?_, ⟨ha, by simp only; omega, hn⟩, rfl, ho⟩⟩
  ·simp only; omega
  ·simp only at e
   rw [e, aa7] at hs
   simp only [JS, hs, xp, ab8]
   rfl
  ·simp only; omega
  ·simp only at e
   rw [e, aa5] at hs
   simp only [JS, hs]
   rfl
 ·obtain rfl : n = i := by omega
  exact ho
noncomputable def M9 (κ : Kp) : Env := (IP κ).aj 39 3 (aO 3 JS Ho KM)
theorem Ya (κ : Kp) : ay (M9 κ) := (Vx κ).aj (SS κ) (Us κ)
theorem RO (κ : Kp) : ah (M9 κ) := (SS κ).aj aG
theorem WO (κ : Kp) (N : Nat) (ls : List (List Value)) (fs : List AV) (a : Int) (K : AV → List Dn.Obj → Prop) : (bh (M9 κ) 12 39 [.ptr 0 0 [] 0, .int a] (re N ls fs) K) = (
 letI z1 := Pg.toProgram (Env.P (IP κ))
 ag z1 39 3 = ag z1 39 3 ∧ ∃ (a_1 : Ln), sp 25 [(0, AV.ptr 0 0 [] 0), (1, AV.int a), (5, AV.aB 3 0 0), (11, AV.int (↑N : Int)), (12, AV.int 0)] [Obj.box 82
 (AV.agg [AV.aB 1 0 N, AV.aB 2 0 fs.length]), Obj.rows 48 3 ls none, Obj.row 68 fs, Obj.row 3 []] = sp 25 [(0, AV.ptr 0 0 [] 0), (1, AV.int a_1.a), (5, AV.aB 3 0
 (List.length (iA (uc a_1.n a_1.m a_1.L a_1.a a_1.i)))), (11, AV.int (↑(a_1.n) : Int)), (12, AV.int (↑(a_1.i) : Int))] [Obj.box 82 (AV.agg [AV.aB 1 0 a_1.n,
 AV.aB 2 0 (List.length (a6 a_1.n a_1.m a_1.L a_1.n))]), Obj.rows 48 3 (cB a_1.L) none, Obj.row 68 (a6 a_1.n a_1.m a_1.L a_1.n), Obj.row 3 (iA (uc a_1.n a_1.m
 a_1.L a_1.a a_1.i))] ∧ (((0 : Int) ≤ a_1.a ∧ a_1.a < (↑(a_1.n) : Int)) ∧ a_1.i ≤ a_1.n ∧ a_1.n ≤ 60) ∧ K (AV.ae 3 (List.take (List.length (iA (gl a_1.n a_1.m
 a_1.L a_1.a))) (List.drop 0 (iA (gl a_1.n a_1.m a_1.L a_1.a))))) [Obj.box 82 (AV.agg [AV.aB 1 0 a_1.n, AV.aB 2 0 (List.length (a6 a_1.n a_1.m a_1.L a_1.n))]),
 Obj.rows 48 3 (cB a_1.L) none, Obj.row 68 (a6 a_1.n a_1.m a_1.L a_1.n)]) := by kernel_rfl
def OW (x : Ln) : List AV × List Dn.Obj := ([.ptr 0 0 [] 0, .int x.a], my x.n x.m x.L)
def Gx (x : Ln) : Prop := (0 ≤ x.a ∧ x.a < x.n) ∧ x.n ≤ 60
def Ll (x : Ln) : Out (AV × List Dn.Obj) := .one (.ae 3 (iA (gl x.n x.m x.L x.a)), my x.n x.m x.L)
theorem U9 (κ : Kp) : bu (M9 κ) 12 39 (aW OW Gx Ll) := by
 refine ba ?_
 rintro ⟨n, m, L, a, i⟩ K ⟨ha, hn⟩ ho
 refine Eq.mpr (WO κ n (cB L) (a6 n m L n) a K) ?_
 refine ⟨rfl, ⟨n, m, L, a, 0⟩, rfl, ⟨ha, Nat.zero_le _, hn⟩, ?_⟩
 rw [ab0, List.take_length]
 exact ho
noncomputable def Kc (κ : Kp) : Env := (M9 κ).au 39 (aW OW Gx Ll)
theorem WB (κ : Kp) : ay (Kc κ) := (Ya κ).au (RO κ) (U9 κ)
theorem SI (κ : Kp) : ah (Kc κ) := (RO κ).au aH
theorem Uz (κ : Kp) (N : Nat) (a : Int) (ls : List (List Value)) (fs : List AV) (es : List (Value × AV)) (ks met : List Value) (vs : List AV) (I : Nat → S → Prop) (n : Nat) (K : Exit → S → Prop) : (vc (Kc κ) 12 38 none 4 (ag (Pr κ).toProgram 38 6) (sp 43 [(0, .ptr 0 0 [] 0), (1, .mp 3), (5, .int a), (11, .int N), (12, .int a), (25, .ptr 4 0 [] 0)] (re N ls fs ++ [.map 3 4 es, .fit 3 4 ks vs met])) (bK (Kc κ) 38 6 4 I n K)) = (
 letI z1 := AV.agg [AV.aB 1 0 N, AV.aB 2 0 fs.length]
 (∀ (n_1 : Int) (v : AV), List.Mem (Value.int IntKind.i64 n_1, v) (List.zip ks vs) → iw met (Value.int IntKind.i64 n_1) = false → aD (!Dn.toBool (cF es
 (Value.int IntKind.i64 n_1) (AV.bool false))) (∃ (a_3 : I7), ([AV.ptr 0 0 [] 0, AV.int a, AV.int n_1], [Obj.box 82 z1, Obj.rows 48 3 ls none, Obj.row 68 fs]) =
 ([AV.ptr 0 0 [] 0, AV.int a_3.a, AV.int a_3.b], [Obj.box 82 (AV.agg [AV.aB 1 0 a_3.n, AV.aB 2 0 (List.length (a6 a_3.n a_3.m a_3.L a_3.n))]), Obj.rows 48 3 (cB
 a_3.L) none, Obj.row 68 (a6 a_3.n a_3.m a_3.L a_3.n)]) ∧ (((0 : Int) ≤ a_3.a ∧ a_3.a < (↑(a_3.n) : Int)) ∧ (0 : Int) ≤ a_3.b ∧ a_3.b < (↑(a_3.n) : Int)) ∧ aD
 (!fm a_3.n a_3.m a_3.L a_3.a a_3.b) (K (Exit.exit 1) (sp 43 [(0, AV.ptr 0 0 [] 0), (1, AV.mp 3), (11, AV.int (↑N : Int)), (12, AV.int a)] [Obj.box 82 (AV.agg
 [AV.aB 1 0 a_3.n, AV.aB 2 0 (List.length (a6 a_3.n a_3.m a_3.L a_3.n))]), Obj.rows 48 3 (cB a_3.L) none, Obj.row 68 (a6 a_3.n a_3.m a_3.L a_3.n), Dn.Obj.map 3 4
 es])) (∃ (m : Nat), m < n ∧ I m (sp 43 [(0, AV.ptr 0 0 [] 0), (1, AV.mp 3), (5, AV.int a), (11, AV.int (↑N : Int)), (12, AV.int a), (25, AV.ptr 4 0 [] 0)]
 [Obj.box 82 (AV.agg [AV.aB 1 0 a_3.n, AV.aB 2 0 (List.length (a6 a_3.n a_3.m a_3.L a_3.n))]), Obj.rows 48 3 (cB a_3.L) none, Obj.row 68 (a6 a_3.n a_3.m a_3.L
 a_3.n), Dn.Obj.map 3 4 es, Obj.fit 3 4 ks vs (Value.int IntKind.i64 n_1 :: met)]))) (∃ (m : Nat), m < n ∧ I m (sp 43 [(0, AV.ptr 0 0 [] 0), (1, AV.mp 3), (5,
 AV.int a), (11, AV.int (↑N : Int)), (12, AV.int a), (25, AV.ptr 4 0 [] 0)] [Obj.box 82 z1, Obj.rows 48 3 ls none, Obj.row 68 fs, Dn.Obj.map 3 4 es, Obj.fit 3 4
 ks vs (Value.int IntKind.i64 n_1 :: met)]))) ∧ (iX met (List.zip ks vs) = true → K (Exit.exit 2) (sp 43 [(5, AV.int a)] [Obj.box 82 z1, Obj.rows 48 3 ls none,
 Obj.row 68 fs, Dn.Obj.map 3 4 es]))) := by kernel_rfl
theorem EX (n i : Nat) (h : i < n) : (gH n).drop i = (i : Int) :: (gH n).drop (i + 1) := by
 rw [ab1 (by simpa [gH] using h)]
 congr 1
 simp [gH]
def ux (n m : Nat) (L : Gr) (done : List Int) (i : Nat) : Int := (((gH n).drop i).find? (gP n m L done)).getD (-1)
theorem D1 {n : Nat} (m : Nat) (L : Gr) (done : List Int) {i : Nat} (h : i < n) : ux n m L done i = bif gP n m L done i then (i : Int) else ux n m L done (i + 1) := by
 unfold ux
 rw [EX n i h, List.find?_cons]
 cases gP n m L done i <;> rfl
theorem FV (n m : Nat) (L : Gr) (done : List Int) : ux n m L done n = -1 := by
 unfold ux
 rw [aa8 (by simp [gH])]; rfl
structure CW where
 n : Nat
 m : Nat
 L : Gr
 done : List Int
 i : Nat
 met : List Value
def tw (x : CW) : Bool := (gp x.n x.m x.L x.i).all fun b => x.done.contains b || fm x.n x.m x.L x.i b
abbrev J7 (x : CW) : S := sp 43 [(0, .ptr 0 0 [] 0), (1, .mp 3), (5, .int x.i), (11, .int x.n), (12, .int x.i), (25, .ptr 4 0 [] 0)] (my x.n x.m x.L ++ [.map 3 4 (gb x.done), .fit 3 4 ((gp x.n x.m x.L x.i).map fb) ((gp x.n x.m x.L x.i).map fun _ => .lit (.bool true)) x.met])
def Bs (x : CW) : Prop := WG x.n x.m x.L ∧ x.i < x.n ∧ ∀ b : Int, iw x.met (fb b) = true → b ∈ gp x.n x.m x.L x.i → (x.done.contains b || fm x.n x.m x.L x.i b) = true
def CZ (x : CW) : Out (Exit × S) := .aD (tw x)
 (.one (.exit 2, sp 43 [(5, .int x.i)] (my x.n x.m x.L ++ [.map 3 4 (gb x.done)])))
 (.one (.exit 1, sp 43 [(0, .ptr 0 0 [] 0), (1, .mp 3), (11, .int x.n), (12, .int x.i)] (my x.n x.m x.L ++ [.map 3 4 (gb x.done)])))
theorem th (c b : Int) (met : List Value) : iw (fb c :: met) (fb b) = (decide (c = b) || iw met (fb b)) := by
 simp only [iw, cv, fb]
 by_cases h : c = b
 ·subst h; simp
 ·rw [aa4 h]; simp [h]
theorem zP : ∀ {l : List Int} {met : List Value}, iX met (gb l) = true → ∀ b, b ∈ l → iw met (fb b) = true
 | [], _, _, b, hb => nomatch hb
 | a :: l, met, h, b, hb => by
  simp only [gb, ac0, iX, aa1] at h
  rcases List.mem_cons.1 hb with rfl | hb
  ·exact h.1
  ·exact zP (l := l) h.2 b hb
theorem I4 {x : Int} {v : AV} {l : List Int} (h : (fb x, v) ∈ gb l) : x ∈ l := by
 obtain ⟨k, h1, h2⟩ := List.mem_map.1 h
 cases h2; exact h1
theorem W1 (κ : Kp) : bq (Kc κ) 12 38 6 (aO 4 J7 Bs CZ) := by
 refine aR (fun x => (gp x.n x.m x.L x.i).countP fun b => !iw x.met (fb b)) ?_
 rintro ⟨n, m, L, done, i, met⟩ K ⟨hG, hi, hm⟩ ho
 simp only at hG hi hm
 rw [show (Kc κ).P = Pr κ from rfl]
 refine Eq.mpr (Uz κ n i (cB L) (a6 n m L n) (gb done) ((gp n m L i).map fb) met ((gp n m L i).map fun _ => .lit (.bool true)) _ _ K) ?_
 have hi0 : (0 : Int) ≤ i := by omega
 have ho2 := ho
 simp only [CZ, Out.run, af] at ho2
 rw [w6]
 refine ⟨fun b v hbv hb => ?_, fun hs => ?_⟩
 ·have hf : b ∈ gp n m L i := I4 hbv
  have hr := Rc.lb hG hi0 ((wN hG hi0).1 hf)
  have hn : (done.contains b || fm n m L i b) = true → ∃ k, k < (gp n m L i).countP (fun b => !iw met (fb b)) ∧ fF J7 Bs CZ (fun x => (gp x.n x.m x.L x.i).countP fun b => !iw x.met (fb b)) K k (J7 ⟨n, m, L, done, i, fb b :: met⟩) := fun hok => by
   refine ⟨_, ?_, ⟨n, m, L, done, i, fb b :: met⟩, rfl, ⟨hG, hi, fun c hc hcf => ?_⟩, rfl, ho⟩
   ·refine mO (fun c _ hc => ?_) ⟨b, hf, ?_, ?_⟩
    ·rw [th] at hc
     cases h : iw met (fb c) with
     | true => rw [h] at hc; simp at hc
     | false => rfl
    ·simp only [fb] at hb ⊢; rw [hb]; rfl
    ·rw [th]; simp
   ·rw [th] at hc
    by_cases e : b = c
    ·subst e; exact hok
    ·rw [aa4 e, Bool.false_or] at hc
     exact hm c hc hcf
  have hg : Dn.toBool (cF (gb done) (Value.int IntKind.i64 b) (AV.lit (Value.bool false))) = done.contains b := by rw [kE]; rfl
  rw [hg]
  simp only [af]
  refine ⟨fun e => ⟨⟨n, m, L, i, b⟩, rfl, ⟨⟨hi0, by simp only; omega⟩, hr⟩, fun e2 => ?_, fun e2 => ?_⟩, fun e => ?_⟩
  ·have h1 : tw ⟨n, m, L, done, i, met⟩ = false := by
    rw [← Bool.not_eq_true, tw, List.all_eq_true]
    intro h
    have := h b hf
    simp only at this e2 e
    rw [ab5] at this
    rcases this with h | h
    ·rw [h] at e; cases e
    ·rw [h] at e2; cases e2
   exact ho2.2 h1
  ·exact hn (by simp only at e2 ⊢; rw [ab5]; right; simpa using e2)
  ·exact hn (by rw [ab5]; left; simpa using e)
 ·have h1 : tw ⟨n, m, L, done, i, met⟩ = true := by
   rw [tw, List.all_eq_true]
   exact fun b hb => hm b (zP hs b hb) hb
  exact ho2.1 h1
noncomputable def Ag (κ : Kp) : Env := (Kc κ).aj 38 6 (aO 4 J7 Bs CZ)
theorem UC (κ : Kp) : ay (Ag κ) := (WB κ).aj (SI κ) (W1 κ)
theorem SW (κ : Kp) : ah (Ag κ) := (SI κ).aj aG
theorem VS (κ : Kp) (N i : Nat) (ls : List (List Value)) (fs : List AV) (es : List (Value × AV)) (I : Nat → S → Prop) (n : Nat) (K : Exit → S → Prop) : (vc (Ag κ) 12 38 none 4 (ag (Pr κ).toProgram 38 2) (sp 43 [(0, .ptr 0 0 [] 0), (1, .mp 3), (11, .int N), (12, .int i)] (re N ls fs ++ [.map 3 4 es])) (bK (Ag κ) 38 2 4 I n K)) = (
 letI z1 := AV.agg [AV.aB 1 0 N, AV.aB 2 0 fs.length]
 letI z2 := nth fs (0 + Int.toNat (↑i : Int))
 letI z3 := Pg.toProgram (Env.P (Kc κ))
 aD (decide ((↑i : Int) < (↑N : Int))) (aD (Dn.toBool (cF es (Value.int IntKind.i64 (↑i : Int)) (AV.bool false))) (∃ (m : Nat), m < n ∧ I m (sp 43 [(0, AV.ptr 0
 0 [] 0), (1, AV.mp 3), (11, AV.int (↑N : Int)), (12, AV.int (IntKind.wrap IntKind.i64 ((↑i : Int) + (1 : Int))))] [Obj.box 82 z1, Obj.rows 48 3 ls none, Obj.row
 68 fs, Dn.Obj.map 3 4 es])) (bg (true && decide ((↑i : Int) < (↑(fs.length) : Int))) (ag z3 38 6 = ag z3 38 6 ∧ ∃ (a : CW), sp 43 [(0, AV.ptr 0 0 [] 0), (1,
 AV.mp 3), (5, AV.int (↑i : Int)), (11, AV.int (↑N : Int)), (12, AV.int (↑i : Int)), (25, AV.ptr 4 0 [] 0)] [Obj.box 82 z1, Obj.rows 48 3 ls none, Obj.row 68 fs,
 Dn.Obj.map 3 4 es, Obj.fit 3 4 (yw z2) (uF z2) []] = sp 43 [(0, AV.ptr 0 0 [] 0), (1, AV.mp 3), (5, AV.int (↑(a.i) : Int)), (11, AV.int (↑(a.n) : Int)), (12,
 AV.int (↑(a.i) : Int)), (25, AV.ptr 4 0 [] 0)] [Obj.box 82 (AV.agg [AV.aB 1 0 a.n, AV.aB 2 0 (List.length (a6 a.n a.m a.L a.n))]), Obj.rows 48 3 (cB a.L) none,
 Obj.row 68 (a6 a.n a.m a.L a.n), Dn.Obj.map 3 4 (gb a.done), Obj.fit 3 4 (List.map fb (gp a.n a.m a.L (↑(a.i) : Int))) (List.map (fun (x : Int) => AV.bool true)
 (gp a.n a.m a.L (↑(a.i) : Int))) a.met] ∧ (WG a.n a.m a.L ∧ a.i < a.n ∧ ∀ (b : Int), iw a.met (Value.int IntKind.i64 b) = true → List.Mem b (gp a.n a.m a.L
 (↑(a.i) : Int)) → (List.contains a.done b || fm a.n a.m a.L (↑(a.i) : Int) b) = true) ∧ aD (tw a) (K Exit.ret (sp 43 [(4, AV.int (↑(a.i) : Int))] [Obj.box 82
 (AV.agg [AV.aB 1 0 a.n, AV.aB 2 0 (List.length (a6 a.n a.m a.L a.n))]), Obj.rows 48 3 (cB a.L) none, Obj.row 68 (a6 a.n a.m a.L a.n), Dn.Obj.map 3 4 (gb
 a.done)])) (∃ (m : Nat), m < n ∧ I m (sp 43 [(0, AV.ptr 0 0 [] 0), (1, AV.mp 3), (11, AV.int (↑(a.n) : Int)), (12, AV.int (IntKind.wrap IntKind.i64 ((↑(a.i) :
 Int) + (1 : Int))))] [Obj.box 82 (AV.agg [AV.aB 1 0 a.n, AV.aB 2 0 (List.length (a6 a.n a.m a.L a.n))]), Obj.rows 48 3 (cB a.L) none, Obj.row 68 (a6 a.n a.m a.L
 a.n), Dn.Obj.map 3 4 (gb a.done)]))))) (K (Exit.exit 0) (sp 43 [] [Obj.box 82 z1, Obj.rows 48 3 ls none, Obj.row 68 fs, Dn.Obj.map 3 4 es]))) := by kernel_rfl
abbrev Ke (x : CW) : S := sp 43 [(0, .ptr 0 0 [] 0), (1, .mp 3), (11, .int x.n), (12, .int x.i)] (my x.n x.m x.L ++ [.map 3 4 (gb x.done)])
def Aj (x : CW) : Prop := WG x.n x.m x.L ∧ x.i ≤ x.n ∧ x.n ≤ 60
def zX (x : CW) : Out (Exit × S) := .aD (decide (ux x.n x.m x.L x.done x.i < 0))
 (.one (.exit 0, sp 43 [] (my x.n x.m x.L ++ [.map 3 4 (gb x.done)])))
 (.one (.ret, sp 43 [(4, .int (ux x.n x.m x.L x.done x.i))] (my x.n x.m x.L ++ [.map 3 4 (gb x.done)])))
theorem x1 (n m : Nat) (L : Gr) (done : List Int) (i : Nat) (met : List Value) : gP n m L done i = (!done.contains (i : Int) && tw ⟨n, m, L, done, i, met⟩) := rfl
theorem TP (κ : Kp) : bq (Ag κ) 12 38 2 (aO 4 Ke Aj zX) := by
 refine aR (fun x => x.n - x.i) ?_
 rintro ⟨n, m, L, done, i, met⟩ K ⟨hG, hi, hn⟩ ho
 simp only at hG hi hn
 rw [show (Ag κ).P = Pr κ from rfl]
 refine Eq.mpr (VS κ n i (cB L) (a6 n m L n) (gb done) _ _ K) ?_
 have ho2 := ho
 simp only [zX, Out.run, af] at ho2
 have hg : Dn.toBool (cF (gb done) (Value.int IntKind.i64 i) (AV.lit (Value.bool false))) = done.contains (i : Int) := by rw [kE]; rfl
 rw [hg, af, aa0, aa2]
 refine ⟨fun h => ?_, fun h => ?_⟩
 ·have hi' : i < n := by omega
  have hs := D1 m L done hi'
  have next : gP n m L done i = false → ∃ k, k < n - i ∧ fF Ke Aj zX (fun x => x.n - x.i) K k (Ke ⟨n, m, L, done, i + 1, []⟩) := fun e => by
   rw [e, aa5] at hs
   refine ⟨_, ?_, ⟨n, m, L, done, i + 1, []⟩, rfl, ⟨hG, hi', hn⟩, rfl, ?_⟩
   ·simp only; omega
   ·simp only [zX, Out.run, ← hs]; exact ho
  rw [af]
  refine ⟨fun e => ?_, fun e => ?_⟩
  ·rw [a8 (n := (i : Int) + 1) (by omega) (by omega)]
   exact next (by rw [x1 n m L done i [], e]; rfl)
  ·rw [ax, ab9, aa0, jn, zx n m L n i (by omega) h]
   refine ⟨h, rfl, ⟨n, m, L, done, i, []⟩, ?_, ⟨hG, hi', fun b hb => (nomatch hb)⟩, ?_⟩
   ·simp only [jn]
    rfl
   ·rw [af]
    refine ⟨fun e2 => ?_, fun e2 => ?_⟩
    ·have hf : gP n m L done i = true := by rw [x1 n m L done i [], e, e2]; rfl
     rw [hf, aa7] at hs
     have := ho2.2 (by rw [hs, aa2]; omega)
     rw [hs] at this
     exact this
    ·rw [a8 (n := (i : Int) + 1) (by omega) (by omega)]
     exact next (by rw [x1 n m L done i [], e2, Bool.and_false])
 ·obtain rfl : i = n := by omega
  rw [FV] at ho2
  exact ho2.1 rfl
theorem Uk (κ : Kp) (ls : List (List Value)) (es : List (Value × AV)) (I : Nat → S → Prop) (n : Nat) (K : Exit → S → Prop) : (vc (Ag κ) 12 38 none 3 (ag (Pr κ).toProgram 38 2) (sp 43 [(0, .ptr 0 0 [] 0), (1, .mp 2), (11, .int 0), (12, .int 0)] (uq 0 ls ++ [.map 3 4 es])) (bK (Ag κ) 38 2 3 I n K)) = (
 K (Exit.exit 0) (sp 43 [] [Obj.box 82 (AV.agg [AV.aB 1 0 0, AV.nil]), Obj.rows 48 3 ls none, Dn.Obj.map 3 4 es])) := by kernel_rfl
structure Js where
 ls : List (List Value)
 es : List (Value × AV)
abbrev N7 (x : Js) : S := sp 43 [(0, .ptr 0 0 [] 0), (1, .mp 2), (11, .int 0), (12, .int 0)] (uq 0 x.ls ++ [.map 3 4 x.es])
def Lj (x : Js) : Out (Exit × S) := .one (.exit 0, sp 43 [] (uq 0 x.ls ++ [.map 3 4 x.es]))
theorem WY (κ : Kp) : bq (Ag κ) 12 38 2 (aO 3 N7 (fun _ => True) Lj) := by
 refine aR (fun _ => 0) ?_
 rintro ⟨ls, es⟩ K _ ho
 rw [show (Ag κ).P = Pr κ from rfl]
 exact Eq.mpr (Uk κ ls es _ _ K) ho
def NA (s : S) : Bool := Nat.beq s.st.length 4
noncomputable def L8 (κ : Kp) : Env := (Ag κ).aj 38 2 (pr NA (aO 4 Ke Aj zX) (aO 3 N7 (fun _ => True) Lj))
theorem Y5 (κ : Kp) : ay (L8 κ) := (UC κ).aj (SW κ) (mA (TP κ) (WY κ))
theorem Sa (κ : Kp) : ah (L8 κ) := (SW κ).aj (ju aG aG)
theorem Wt (κ : Kp) (N : Nat) (ls : List (List Value)) (fs : List AV) (es : List (Value × AV)) (K : AV → List Dn.Obj → Prop) : (bh (L8 κ) 12 38 [.ptr 0 0 [] 0, .mp 3] (re N ls fs ++ [.map 3 4 es]) K) = (
 letI z1 := Pg.toProgram (Env.P (Ag κ))
 ag z1 38 2 = ag z1 38 2 ∧ ∃ (a : CW), sp 43 [(0, AV.ptr 0 0 [] 0), (1, AV.mp 3), (11, AV.int (↑N : Int)), (12, AV.int 0)] [Obj.box 82 (AV.agg [AV.aB 1 0 N,
 AV.aB 2 0 fs.length]), Obj.rows 48 3 ls none, Obj.row 68 fs, Dn.Obj.map 3 4 es] = sp 43 [(0, AV.ptr 0 0 [] 0), (1, AV.mp 3), (11, AV.int (↑(a.n) : Int)), (12,
 AV.int (↑(a.i) : Int))] [Obj.box 82 (AV.agg [AV.aB 1 0 a.n, AV.aB 2 0 (List.length (a6 a.n a.m a.L a.n))]), Obj.rows 48 3 (cB a.L) none, Obj.row 68 (a6 a.n a.m
 a.L a.n), Dn.Obj.map 3 4 (gb a.done)] ∧ (WG a.n a.m a.L ∧ a.i ≤ a.n ∧ a.n ≤ 60) ∧ aD (decide (ux a.n a.m a.L a.done a.i < (0 : Int))) (K (AV.int (-1)) [Obj.box
 82 (AV.agg [AV.aB 1 0 a.n, AV.aB 2 0 (List.length (a6 a.n a.m a.L a.n))]), Obj.rows 48 3 (cB a.L) none, Obj.row 68 (a6 a.n a.m a.L a.n), Dn.Obj.map 3 4 (gb
 a.done)]) (K (AV.int (ux a.n a.m a.L a.done a.i)) [Obj.box 82 (AV.agg [AV.aB 1 0 a.n, AV.aB 2 0 (List.length (a6 a.n a.m a.L a.n))]), Obj.rows 48 3 (cB a.L)
 none, Obj.row 68 (a6 a.n a.m a.L a.n), Dn.Obj.map 3 4 (gb a.done)])) := by kernel_rfl
def Ot (x : CW) : List AV × List Dn.Obj := ([.ptr 0 0 [] 0, .mp 3], my x.n x.m x.L ++ [.map 3 4 (gb x.done)])
def FI (x : CW) : Prop := WG x.n x.m x.L ∧ x.n ≤ 60
def H4 (x : CW) : Out (AV × List Dn.Obj) := .one (.int (fE x.n x.m x.L x.done), my x.n x.m x.L ++ [.map 3 4 (gb x.done)])
theorem Jm (n m : Nat) (L : Gr) (done : List Int) (h : fE n m L done < 0) : fE n m L done = -1 := by
 unfold fE at h ⊢
 cases e : (gH n).find? (gP n m L done) with
 | none => rfl
 | some a =>
  rw [e] at h
  have := (mc.1 (List.mem_of_find?_eq_some e)).1
  simp only [Option.getD_some] at h; omega
theorem WH (κ : Kp) : bu (L8 κ) 12 38 (aW Ot FI H4) := by
 refine ba ?_
 rintro ⟨n, m, L, done, i, met⟩ K ⟨hG, hn⟩ ho
 refine Eq.mpr (Wt κ n (cB L) (a6 n m L n) (gb done) K) ?_
 refine ⟨rfl, ⟨n, m, L, done, 0, []⟩, rfl, ⟨hG, Nat.zero_le _, hn⟩, ?_⟩
 simp only [H4, Out.run] at ho
 rw [show ux n m L done 0 = fE n m L done from rfl, af]
 refine ⟨fun e => ?_, fun _ => ho⟩
 rw [Jm n m L done (of_decide_eq_true e)] at ho
 exact ho
theorem WR (κ : Kp) (ls : List (List Value)) (es : List (Value × AV)) (K : AV → List Dn.Obj → Prop) : (bh (L8 κ) 12 38 [.ptr 0 0 [] 0, .mp 2] (uq 0 ls ++ [.map 3 4 es]) K) = (
 letI z1 := AV.agg [AV.aB 1 0 0, AV.nil]
 letI z2 := Pg.toProgram (Env.P (Ag κ))
 ag z2 38 2 = ag z2 38 2 ∧ ∃ (a : Js), sp 43 [(0, AV.ptr 0 0 [] 0), (1, AV.mp 2), (11, AV.int 0), (12, AV.int 0)] [Obj.box 82 z1, Obj.rows 48 3 ls none,
 Dn.Obj.map 3 4 es] = sp 43 [(0, AV.ptr 0 0 [] 0), (1, AV.mp 2), (11, AV.int 0), (12, AV.int 0)] [Obj.box 82 z1, Obj.rows 48 3 a.ls none, Dn.Obj.map 3 4 a.es] ∧
 True ∧ K (AV.int (-1)) [Obj.box 82 z1, Obj.rows 48 3 a.ls none, Dn.Obj.map 3 4 a.es]) := by kernel_rfl
def N8 (x : Js) : List AV × List Dn.Obj := ([.ptr 0 0 [] 0, .mp 2], uq 0 x.ls ++ [.map 3 4 x.es])
def KV (x : Js) : Out (AV × List Dn.Obj) := .one (.int (-1), uq 0 x.ls ++ [.map 3 4 x.es])
theorem X4 (κ : Kp) : bu (L8 κ) 12 38 (aW N8 (fun _ => True) KV) := by
 refine ba ?_
 rintro ⟨ls, es⟩ K _ ho
 refine Eq.mpr (WR κ ls es K) ?_
 exact ⟨rfl, ⟨ls, es⟩, rfl, trivial, ho⟩
def Ow (st : List Dn.Obj) : Bool := Nat.beq st.length 4
noncomputable def Nx (κ : Kp) : Env := (L8 κ).au 38 (BN Ow (aW Ot FI H4) (aW N8 (fun _ => True) KV))
theorem VZ (κ : Kp) : ay (Nx κ) := (Y5 κ).au (Sa κ) (wS (WH κ) (X4 κ))
theorem SX (κ : Kp) : ah (Nx κ) := (Sa κ).au (pX aH aH)
def Ka (op : Int) : List AV × List Dn.Obj := ([.int op], [])
def Ht (op : Int) : Out (AV × List Dn.Obj) := .one (.bool (gh op), [])
def HC (op : Int) : Out (AV × List Dn.Obj) := .one (.bool (fR op), [])
def xt (_ : Int) : Prop := True
theorem Tw (κ : Kp) (op : Int) (K : AV → List Dn.Obj → Prop) : (bh (Nx κ) 12 53 [.int op] [] K) = (
 K (AV.bool (op == (1 : Int))) []) := by kernel_rfl
theorem VX (κ : Kp) : bu (Nx κ) 12 53 (aW Ka xt Ht) := by
 refine ba ?_
 rintro op K _ ho
 refine Eq.mpr (Tw κ op K) ?_
 simp only [Ht, Out.run, gh] at ho
 rw [Lb]; exact ho
noncomputable def Om (κ : Kp) : Env := (Nx κ).au 53 (aW Ka xt Ht)
theorem UW (κ : Kp) : ay (Om κ) := (VZ κ).au (SX κ) (VX κ)
theorem RL (κ : Kp) : ah (Om κ) := (SX κ).au aH
theorem UX (κ : Kp) (op : Int) (K : AV → List Dn.Obj → Prop) : (bh (Om κ) 12 72 [.int op] [] K) = (
 aD (op == (2 : Int)) (K (AV.bool true) []) (K (AV.bool (decide (op ≥ (7 : Int)))) [])) := by kernel_rfl
theorem Xm (κ : Kp) : bu (Om κ) 12 72 (aW Ka xt HC) := by
 refine ba ?_
 rintro op K _ ho
 refine Eq.mpr (UX κ op K) ?_
 simp only [HC, Out.run, fR] at ho
 rw [Lb]
 cases h : decide (op = 2) <;> rw [h] at ho <;> exact ho
noncomputable def Aq (κ : Kp) : Env := (Om κ).au 72 (aW Ka xt HC)
theorem Vw (κ : Kp) : ay (Aq κ) := (UW κ).au (RL κ) (Xm κ)
theorem S4 (κ : Kp) : ah (Aq κ) := (RL κ).au aH
structure Cv where
 n : Nat
 m : Nat
 L : Gr
 ds : List AV
 rs : List AV
 a : bQ
 h : Int
def jw (isf : Int → Bool) (n m : Nat) (L : Gr) (ds : List AV) (h : Int) (bl : List AV) : Bool := bl.any fun l => isf (toInt (ad l 0)) && fm n m L h (cX (toStr (ad (ad l 1) 0)) ds)
def qc (isf : Int → Bool) (x : Cv) : Prop := (0 ≤ x.h ∧ x.h < x.n) ∧ x.ds.length ≤ aL ∧ x.a.bl.length ≤ aL ∧ 0 ≤ x.a.i ∧ x.a.i ≤ x.a.bl.length ∧ ∀ l, l ∈ x.a.bl → isf (toInt (ad l 0)) = true → 0 ≤ cX (toStr (ad (ad l 1) 0)) x.ds ∧ cX (toStr (ad (ad l 1) 0)) x.ds < x.n
def x4 (isf : Int → Bool) (x : Cv) : Prop := x.h = cX x.a.rel x.ds ∧ (0 ≤ x.h ∧ x.h < x.n) ∧ x.ds.length ≤ aL ∧ x.a.bl.length ≤ aL ∧ ∀ l, l ∈ x.a.bl → isf (toInt (ad l 0)) = true → 0 ≤ cX (toStr (ad (ad l 1) 0)) x.ds ∧ cX (toStr (ad (ad l 1) 0)) x.ds < x.n
theorem VW (κ : Kp) (N : Nat) (ls : List (List Value)) (ds rs fs : List AV) (a : bQ) (h : Int) (I : Nat → S → Prop) (n : Nat) (K : Exit → S → Prop) : (vc (Aq κ) 12 119 none 8 (ag (Pr κ).toProgram 119 2) (sp 19 [(0, .ae 55 a.bl), (1, .bL 78 [.ptr 4 0 [] 0, .ptr 6 0 [] 0, .ptr 3 0 [] 0, .ptr 7 0 [] 0]), (7, .int a.bl.length), (8, .int a.i)] (re N ls fs ++ [.box 66 (.ptr 0 0 [] 0), .box 25 (iK ds rs), .box 41 (an a), .box 85 (.bL 53 []), .box 3 (.int h)])) (bK (Aq κ) 119 2 8 I n K)) = (
 letI z1 := AV.agg [AV.ae 62 ds, AV.ae 41 rs]
 letI z2 := AV.agg [AV.aB 1 0 N, AV.aB 2 0 fs.length]
 letI z3 := AV.ptr 0 0 [] 0
 letI z4 := IntKind.wrap IntKind.i64 (a.i + (1 : Int))
 letI z5 := AV.bL 53 []
 aD (decide (a.i < (↑(a.bl.length) : Int))) (bg (decide ((0 : Int) ≤ a.i) && decide (a.i < (↑(a.bl.length) : Int))) (∃ (a_1 : List AV × ByteArray), ([AV.ae 62
 ds, AV.str (toStr (ad (ad (nth a.bl a.i.toNat) 1) 0))], aF) = ([AV.ae 62 a_1.1, AV.str a_1.2], aF) ∧ ie a_1 ∧ ∃ (a_2 : Int), ([AV.int (toInt (ad (nth a.bl
 a.i.toNat) 0))], aF) = ([AV.int a_2], aF) ∧ True ∧ aD (gh a_2) (∃ (a_3 : I7), ([AV.ptr 0 0 [] 0, AV.int h, AV.int (cX a_1.2 a_1.1)], [Obj.box 82 z2, Obj.rows 48
 3 ls none, Obj.row 68 fs]) = ([AV.ptr 0 0 [] 0, AV.int a_3.a, AV.int a_3.b], [Obj.box 82 (AV.agg [AV.aB 1 0 a_3.n, AV.aB 2 0 (List.length (a6 a_3.n a_3.m a_3.L
 a_3.n))]), Obj.rows 48 3 (cB a_3.L) none, Obj.row 68 (a6 a_3.n a_3.m a_3.L a_3.n)]) ∧ (((0 : Int) ≤ a_3.a ∧ a_3.a < (↑(a_3.n) : Int)) ∧ (0 : Int) ≤ a_3.b ∧
 a_3.b < (↑(a_3.n) : Int)) ∧ aD (fm a_3.n a_3.m a_3.L a_3.a a_3.b) (K Exit.ret (sp 19 [(4, AV.int a.i)] [Obj.box 82 (AV.agg [AV.aB 1 0 a_3.n, AV.aB 2 0
 (List.length (a6 a_3.n a_3.m a_3.L a_3.n))]), Obj.rows 48 3 (cB a_3.L) none, Obj.row 68 (a6 a_3.n a_3.m a_3.L a_3.n), Obj.box 66 z3, Obj.box 25 z1, Obj.box 41
 (an a), Obj.box 85 z5, Obj.box 3 (AV.int h)])) (∃ (m : Nat), m < n ∧ I m (sp 19 [(0, AV.ae 55 a.bl), (1, AV.bL 78 [AV.ptr 4 0 [] 0, AV.ptr 6 0 [] 0, AV.ptr 3 0
 [] 0, AV.ptr 7 0 [] 0]), (7, AV.int (↑(a.bl.length) : Int)), (8, AV.int z4)] [Obj.box 82 (AV.agg [AV.aB 1 0 a_3.n, AV.aB 2 0 (List.length (a6 a_3.n a_3.m a_3.L
 a_3.n))]), Obj.rows 48 3 (cB a_3.L) none, Obj.row 68 (a6 a_3.n a_3.m a_3.L a_3.n), Obj.box 66 z3, Obj.box 25 z1, Obj.box 41 (an a), Obj.box 85 z5, Obj.box 3
 (AV.int h)]))) (∃ (m : Nat), m < n ∧ I m (sp 19 [(0, AV.ae 55 a.bl), (1, AV.bL 78 [AV.ptr 4 0 [] 0, AV.ptr 6 0 [] 0, AV.ptr 3 0 [] 0, AV.ptr 7 0 [] 0]), (7,
 AV.int (↑(a.bl.length) : Int)), (8, AV.int z4)] [Obj.box 82 z2, Obj.rows 48 3 ls none, Obj.row 68 fs, Obj.box 66 z3, Obj.box 25 z1, Obj.box 41 (an a), Obj.box
 85 z5, Obj.box 3 (AV.int h)])))) (K (Exit.exit 0) (sp 19 [] [Obj.box 82 z2, Obj.rows 48 3 ls none, Obj.row 68 fs, Obj.box 66 z3, Obj.box 25 z1, Obj.box 41 (an
 a), Obj.box 85 z5, Obj.box 3 (AV.int h)]))) := by kernel_rfl
abbrev Kl (x : Cv) : S := (sp 19 [(0, .ae 55 x.a.bl), (1, .bL 78 [.ptr 4 0 [] 0, .ptr 6 0 [] 0, .ptr 3 0 [] 0, .ptr 7 0 [] 0]), (7, .int x.a.bl.length), (8, .int x.a.i)] (re x.n (cB x.L) (a6 x.n x.m x.L x.n) ++ [.box 66 (.ptr 0 0 [] 0), .box 25 (iK x.ds x.rs), .box 41 (an x.a), .box 85 (.bL 53 []), .box 3 (.int x.h)]))
def Cg (x : Cv) : Out (Exit × S) := .all (fun j : Int => 0 ≤ j) fun j => .aD (jw gh x.n x.m x.L x.ds x.h (x.a.bl.drop x.a.i.toNat))
 (.one (.ret, sp 19 [(4, .int j)] (my x.n x.m x.L ++ [.box 66 (.ptr 0 0 [] 0), .box 25 (iK x.ds x.rs), .box 41 (an x.a), .box 85 (.bL 53 []), .box 3 (.int x.h)])))
 (.one (.exit 0, sp 19 [] (my x.n x.m x.L ++ [.box 66 (.ptr 0 0 [] 0), .box 25 (iK x.ds x.rs), .box 41 (an x.a), .box 85 (.bL 53 []), .box 3 (.int x.h)])))
theorem Vz (κ : Kp) : bq (Aq κ) 12 119 2 (aO 8 Kl (qc gh) Cg) := by
 refine aR (fun x => x.a.bl.length - x.a.i.toNat) ?_
 rintro ⟨n, m, L, ds, rs, ⟨xs, more, rel, hl, bl, line, i⟩, h⟩ K ⟨hh, hd, hb, h0, h1, hm⟩ ho
 simp only at hh hd hb h0 h1 hm
 rw [show (Aq κ).P = Pr κ from rfl]
 refine Eq.mpr (VW κ n (cB L) ds rs (a6 n m L n) ⟨xs, more, rel, hl, bl, line, i⟩ h _ _ K) ?_
 simp only [aL] at hb
 rw [af, ax, aa1, aa0, aa0, aa2]
 refine ⟨fun hi => ⟨⟨h0, hi⟩, (ds, toStr (ad (ad (nth bl i.toNat) 1) 0)), rfl, hd, toInt (ad (nth bl i.toNat) 0), rfl, trivial, ?_⟩, fun hi => ?_⟩
 ·have hi : i < (bl.length : Int) := hi
  have hk : i.toNat < bl.length := by omega
  have hx : nth bl i.toNat ∈ bl := by rw [br _ _ hk]; exact List.getElem_mem _
  have hs : jw gh n m L ds h (bl.drop i.toNat) = ((gh (toInt (ad (nth bl i.toNat) 0)) && fm n m L h (cX (toStr (ad (ad (nth bl i.toNat) 1) 0)) ds)) || jw gh n m L ds h (bl.drop (i.toNat + 1))) := by
   rw [ab1 hk, ← br bl i.toNat hk]; rfl
  have next : (gh (toInt (ad (nth bl i.toNat) 0)) && fm n m L h (cX (toStr (ad (ad (nth bl i.toNat) 1) 0)) ds)) = false → ∃ k, k < bl.length - i.toNat ∧ fF Kl (qc gh) Cg (fun x => x.a.bl.length - x.a.i.toNat) K k (Kl ⟨n, m, L, ds, rs, ⟨xs, more, rel, hl, bl, line, i + 1⟩, h⟩) := fun e => by
   rw [e, Bool.false_or] at hs
   refine ⟨_, ?_, ⟨n, m, L, ds, rs, ⟨xs, more, rel, hl, bl, line, i + 1⟩, h⟩, rfl, ⟨hh, hd, by simpa [aL] using hb, by simp only; omega, by simp only; omega, hm⟩, rfl, ?_⟩
   ·simp only; omega
   ·simp only [Cg, Out.run, show (i + 1).toNat = i.toNat + 1 by omega, ← hs]
    exact ho
  rw [a8 (n := i + 1) (by omega) (by omega), af]
  refine ⟨fun e => ⟨⟨n, m, L, h, cX (toStr (ad (ad (nth bl i.toNat) 1) 0)) ds⟩, rfl, ⟨hh, hm _ hx e⟩, ?_⟩, fun e => ?_⟩
  ·rw [af]
   refine ⟨fun e2 => ?_, fun e2 => ?_⟩
   ·have := ho i h0
    simp only at e2
    simp only [Out.run] at this
    rw [hs, e, e2] at this
    exact this
   ·exact next (by rw [e, ab9]; exact e2)
  ·exact next (by rw [e, Bool.false_and])
 ·have := ho 0 (by omega)
  simp only at hi
  simp only [Out.run] at this
  rw [aa8 (by omega)] at this
  exact this
theorem Tx (κ : Kp) (N : Nat) (ls : List (List Value)) (ds rs fs : List AV) (a : bQ) (h : Int) (I : Nat → S → Prop) (n : Nat) (K : Exit → S → Prop) : (vc (Aq κ) 12 119 none 8 (ag (Pr κ).toProgram 119 2) (sp 19 [(0, .ae 55 a.bl), (1, .bL 78 [.ptr 4 0 [] 0, .ptr 6 0 [] 0, .ptr 3 0 [] 0, .ptr 7 0 [] 0]), (7, .int a.bl.length), (8, .int a.i)] (re N ls fs ++ [.box 66 (.ptr 0 0 [] 0), .box 25 (iK ds rs), .box 41 (an a), .box 85 (.bL 72 []), .box 3 (.int h)])) (bK (Aq κ) 119 2 8 I n K)) = (
 letI z1 := AV.agg [AV.ae 62 ds, AV.ae 41 rs]
 letI z2 := AV.agg [AV.aB 1 0 N, AV.aB 2 0 fs.length]
 letI z3 := AV.ptr 0 0 [] 0
 letI z4 := IntKind.wrap IntKind.i64 (a.i + (1 : Int))
 letI z5 := AV.bL 72 []
 aD (decide (a.i < (↑(a.bl.length) : Int))) (bg (decide ((0 : Int) ≤ a.i) && decide (a.i < (↑(a.bl.length) : Int))) (∃ (a_1 : List AV × ByteArray), ([AV.ae 62
 ds, AV.str (toStr (ad (ad (nth a.bl a.i.toNat) 1) 0))], aF) = ([AV.ae 62 a_1.1, AV.str a_1.2], aF) ∧ ie a_1 ∧ ∃ (a_2 : Int), ([AV.int (toInt (ad (nth a.bl
 a.i.toNat) 0))], aF) = ([AV.int a_2], aF) ∧ True ∧ aD (fR a_2) (∃ (a_3 : I7), ([AV.ptr 0 0 [] 0, AV.int h, AV.int (cX a_1.2 a_1.1)], [Obj.box 82 z2, Obj.rows 48
 3 ls none, Obj.row 68 fs]) = ([AV.ptr 0 0 [] 0, AV.int a_3.a, AV.int a_3.b], [Obj.box 82 (AV.agg [AV.aB 1 0 a_3.n, AV.aB 2 0 (List.length (a6 a_3.n a_3.m a_3.L
 a_3.n))]), Obj.rows 48 3 (cB a_3.L) none, Obj.row 68 (a6 a_3.n a_3.m a_3.L a_3.n)]) ∧ (((0 : Int) ≤ a_3.a ∧ a_3.a < (↑(a_3.n) : Int)) ∧ (0 : Int) ≤ a_3.b ∧
 a_3.b < (↑(a_3.n) : Int)) ∧ aD (fm a_3.n a_3.m a_3.L a_3.a a_3.b) (K Exit.ret (sp 19 [(4, AV.int a.i)] [Obj.box 82 (AV.agg [AV.aB 1 0 a_3.n, AV.aB 2 0
 (List.length (a6 a_3.n a_3.m a_3.L a_3.n))]), Obj.rows 48 3 (cB a_3.L) none, Obj.row 68 (a6 a_3.n a_3.m a_3.L a_3.n), Obj.box 66 z3, Obj.box 25 z1, Obj.box 41
 (an a), Obj.box 85 z5, Obj.box 3 (AV.int h)])) (∃ (m : Nat), m < n ∧ I m (sp 19 [(0, AV.ae 55 a.bl), (1, AV.bL 78 [AV.ptr 4 0 [] 0, AV.ptr 6 0 [] 0, AV.ptr 3 0
 [] 0, AV.ptr 7 0 [] 0]), (7, AV.int (↑(a.bl.length) : Int)), (8, AV.int z4)] [Obj.box 82 (AV.agg [AV.aB 1 0 a_3.n, AV.aB 2 0 (List.length (a6 a_3.n a_3.m a_3.L
 a_3.n))]), Obj.rows 48 3 (cB a_3.L) none, Obj.row 68 (a6 a_3.n a_3.m a_3.L a_3.n), Obj.box 66 z3, Obj.box 25 z1, Obj.box 41 (an a), Obj.box 85 z5, Obj.box 3
 (AV.int h)]))) (∃ (m : Nat), m < n ∧ I m (sp 19 [(0, AV.ae 55 a.bl), (1, AV.bL 78 [AV.ptr 4 0 [] 0, AV.ptr 6 0 [] 0, AV.ptr 3 0 [] 0, AV.ptr 7 0 [] 0]), (7,
 AV.int (↑(a.bl.length) : Int)), (8, AV.int z4)] [Obj.box 82 z2, Obj.rows 48 3 ls none, Obj.row 68 fs, Obj.box 66 z3, Obj.box 25 z1, Obj.box 41 (an a), Obj.box
 85 z5, Obj.box 3 (AV.int h)])))) (K (Exit.exit 0) (sp 19 [] [Obj.box 82 z2, Obj.rows 48 3 ls none, Obj.row 68 fs, Obj.box 66 z3, Obj.box 25 z1, Obj.box 41 (an
 a), Obj.box 85 z5, Obj.box 3 (AV.int h)]))) := by kernel_rfl
abbrev Jx (x : Cv) : S := (sp 19 [(0, .ae 55 x.a.bl), (1, .bL 78 [.ptr 4 0 [] 0, .ptr 6 0 [] 0, .ptr 3 0 [] 0, .ptr 7 0 [] 0]), (7, .int x.a.bl.length), (8, .int x.a.i)] (re x.n (cB x.L) (a6 x.n x.m x.L x.n) ++ [.box 66 (.ptr 0 0 [] 0), .box 25 (iK x.ds x.rs), .box 41 (an x.a), .box 85 (.bL 72 []), .box 3 (.int x.h)]))
def Dr (x : Cv) : Out (Exit × S) := .all (fun j : Int => 0 ≤ j) fun j => .aD (jw fR x.n x.m x.L x.ds x.h (x.a.bl.drop x.a.i.toNat))
 (.one (.ret, sp 19 [(4, .int j)] (my x.n x.m x.L ++ [.box 66 (.ptr 0 0 [] 0), .box 25 (iK x.ds x.rs), .box 41 (an x.a), .box 85 (.bL 72 []), .box 3 (.int x.h)])))
 (.one (.exit 0, sp 19 [] (my x.n x.m x.L ++ [.box 66 (.ptr 0 0 [] 0), .box 25 (iK x.ds x.rs), .box 41 (an x.a), .box 85 (.bL 72 []), .box 3 (.int x.h)])))
theorem TN (κ : Kp) : bq (Aq κ) 12 119 2 (aO 8 Jx (qc fR) Dr) := by
 refine aR (fun x => x.a.bl.length - x.a.i.toNat) ?_
 rintro ⟨n, m, L, ds, rs, ⟨xs, more, rel, hl, bl, line, i⟩, h⟩ K ⟨hh, hd, hb, h0, h1, hm⟩ ho
 simp only at hh hd hb h0 h1 hm
 rw [show (Aq κ).P = Pr κ from rfl]
 refine Eq.mpr (Tx κ n (cB L) ds rs (a6 n m L n) ⟨xs, more, rel, hl, bl, line, i⟩ h _ _ K) ?_
 simp only [aL] at hb
 rw [af, ax, aa1, aa0, aa0, aa2]
 refine ⟨fun hi => ⟨⟨h0, hi⟩, (ds, toStr (ad (ad (nth bl i.toNat) 1) 0)), rfl, hd, toInt (ad (nth bl i.toNat) 0), rfl, trivial, ?_⟩, fun hi => ?_⟩
 ·have hi : i < (bl.length : Int) := hi
  have hk : i.toNat < bl.length := by omega
  have hx : nth bl i.toNat ∈ bl := by rw [br _ _ hk]; exact List.getElem_mem _
  have hs : jw fR n m L ds h (bl.drop i.toNat) = ((fR (toInt (ad (nth bl i.toNat) 0)) && fm n m L h (cX (toStr (ad (ad (nth bl i.toNat) 1) 0)) ds)) || jw fR n m L ds h (bl.drop (i.toNat + 1))) := by
   rw [ab1 hk, ← br bl i.toNat hk]; rfl
  have next : (fR (toInt (ad (nth bl i.toNat) 0)) && fm n m L h (cX (toStr (ad (ad (nth bl i.toNat) 1) 0)) ds)) = false → ∃ k, k < bl.length - i.toNat ∧ fF Jx (qc fR) Dr (fun x => x.a.bl.length - x.a.i.toNat) K k (Jx ⟨n, m, L, ds, rs, ⟨xs, more, rel, hl, bl, line, i + 1⟩, h⟩) := fun e => by
   rw [e, Bool.false_or] at hs
   refine ⟨_, ?_, ⟨n, m, L, ds, rs, ⟨xs, more, rel, hl, bl, line, i + 1⟩, h⟩, rfl, ⟨hh, hd, by simpa [aL] using hb, by simp only; omega, by simp only; omega, hm⟩, rfl, ?_⟩
   ·simp only; omega
   ·simp only [Dr, Out.run, show (i + 1).toNat = i.toNat + 1 by omega, ← hs]
    exact ho
  rw [a8 (n := i + 1) (by omega) (by omega), af]
  refine ⟨fun e => ⟨⟨n, m, L, h, cX (toStr (ad (ad (nth bl i.toNat) 1) 0)) ds⟩, rfl, ⟨hh, hm _ hx e⟩, ?_⟩, fun e => ?_⟩
  ·rw [af]
   refine ⟨fun e2 => ?_, fun e2 => ?_⟩
   ·have := ho i h0
    simp only at e2
    simp only [Out.run] at this
    rw [hs, e, e2] at this
    exact this
   ·exact next (by rw [e, ab9]; exact e2)
  ·exact next (by rw [e, Bool.false_and])
 ·have := ho 0 (by omega)
  simp only at hi
  simp only [Out.run] at this
  rw [aa8 (by omega)] at this
  exact this
def Qr (s : S) : Bool := match ar s.st 6 with | .box _ (.bL f _) => Nat.beq f 53 | _ => false
noncomputable def L0 (κ : Kp) : Env := (Aq κ).aj 119 2 (pr Qr (aO 8 Kl (qc gh) Cg) (aO 8 Jx (qc fR) Dr))
theorem Yf (κ : Kp) : ay (L0 κ) := (Vw κ).aj (S4 κ) (mA (Vz κ) (TN κ))
theorem SG (κ : Kp) : ah (L0 κ) := (S4 κ).aj (ju aG aG)
theorem VL (κ : Kp) (N : Nat) (ls : List (List Value)) (ds rs fs : List AV) (a : bQ) (K : AV → List Dn.Obj → Prop) : (bh (L0 κ) 12 52 [.ptr 0 0 [] 0, iK ds rs, an a, .bL 53 []] (re N ls fs) K) = (
 letI z1 := Pg.toProgram (Env.P (Aq κ))
 letI z2 := (0 : Int)
 ∃ (a_1 : List AV × ByteArray), ([AV.ae 62 ds, AV.str a.rel], aF) = ([AV.ae 62 a_1.1, AV.str a_1.2], aF) ∧ ie a_1 ∧ ag z1 119 2 = ag z1 119 2 ∧ ∃ (a_2 : Cv), sp
 19 [(0, AV.ae 55 a.bl), (1, AV.bL 78 [AV.ptr 4 0 [] 0, AV.ptr 6 0 [] 0, AV.ptr 3 0 [] 0, AV.ptr 7 0 [] 0]), (7, AV.int (↑(a.bl.length) : Int)), (8, AV.int 0)]
 [Obj.box 82 (AV.agg [AV.aB 1 0 N, AV.aB 2 0 fs.length]), Obj.rows 48 3 ls none, Obj.row 68 fs, Obj.box 66 (AV.ptr 0 0 [] 0), Obj.box 25 (AV.agg [AV.ae 62 ds,
 AV.ae 41 rs]), Obj.box 41 (an a), Obj.box 85 (AV.bL 53 []), Obj.box 3 (AV.int (cX a_1.2 a_1.1))] = sp 19 [(0, AV.ae 55 a_2.a.bl), (1, AV.bL 78 [AV.ptr 4 0 [] 0,
 AV.ptr 6 0 [] 0, AV.ptr 3 0 [] 0, AV.ptr 7 0 [] 0]), (7, AV.int (↑(List.length a_2.a.bl) : Int)), (8, AV.int a_2.a.i)] [Obj.box 82 (AV.agg [AV.aB 1 0 a_2.n,
 AV.aB 2 0 (List.length (a6 a_2.n a_2.m a_2.L a_2.n))]), Obj.rows 48 3 (cB a_2.L) none, Obj.row 68 (a6 a_2.n a_2.m a_2.L a_2.n), Obj.box 66 (AV.ptr 0 0 [] 0),
 Obj.box 25 (AV.agg [AV.ae 62 a_2.ds, AV.ae 41 a_2.rs]), Obj.box 41 (an a_2.a), Obj.box 85 (AV.bL 53 []), Obj.box 3 (AV.int a_2.h)] ∧ ((z2 ≤ a_2.h ∧ a_2.h <
 (↑(a_2.n) : Int)) ∧ a_2.ds.length ≤ 9223372036854775807 ∧ List.length a_2.a.bl ≤ 9223372036854775807 ∧ z2 ≤ a_2.a.i ∧ a_2.a.i ≤ (↑(List.length a_2.a.bl) : Int)
 ∧ ∀ (l : AV), List.Mem l a_2.a.bl → gh (toInt (ad l 0)) = true → z2 ≤ cX (toStr (ad (ad l 1) 0)) a_2.ds ∧ cX (toStr (ad (ad l 1) 0)) a_2.ds < (↑(a_2.n) : Int))
 ∧ ∀ (y : Int), z2 ≤ y → aD (jw gh a_2.n a_2.m a_2.L a_2.ds a_2.h (List.drop (Int.toNat a_2.a.i) a_2.a.bl)) (K (AV.bool (decide (y ≥ z2))) [Obj.box 82 (AV.agg
 [AV.aB 1 0 a_2.n, AV.aB 2 0 (List.length (a6 a_2.n a_2.m a_2.L a_2.n))]), Obj.rows 48 3 (cB a_2.L) none, Obj.row 68 (a6 a_2.n a_2.m a_2.L a_2.n)]) (K (AV.bool
 false) [Obj.box 82 (AV.agg [AV.aB 1 0 a_2.n, AV.aB 2 0 (List.length (a6 a_2.n a_2.m a_2.L a_2.n))]), Obj.rows 48 3 (cB a_2.L) none, Obj.row 68 (a6 a_2.n a_2.m
 a_2.L a_2.n)])) := by kernel_rfl
def Lz (x : Cv) : List AV × List Dn.Obj := ([.ptr 0 0 [] 0, iK x.ds x.rs, an x.a, .bL 53 []], my x.n x.m x.L)
def Ai (x : Cv) : Out (AV × List Dn.Obj) := .one (.bool (jw gh x.n x.m x.L x.ds x.h x.a.bl), my x.n x.m x.L)
theorem XG (κ : Kp) : bu (L0 κ) 12 52 (aW Lz (x4 gh) Ai) := by
 refine ba ?_
 rintro ⟨n, m, L, ds, rs, ⟨xs, more, rel, hl, bl, line, i⟩, h⟩ K ⟨he, hh, hd, hb, hm⟩ ho
 simp only at he hh hd hb hm
 refine Eq.mpr (VL κ n (cB L) ds rs (a6 n m L n) ⟨xs, more, rel, hl, bl, line, i⟩ K) ?_
 simp only [Ai, Out.run] at ho
 refine ⟨(ds, rel), rfl, hd, rfl, ⟨n, m, L, ds, rs, ⟨xs, more, rel, hl, bl, line, 0⟩, h⟩, by simp only [he], ⟨hh, hd, hb, by simp only; omega, by simp only; omega, hm⟩, fun j hj => ?_⟩
 show aD (jw gh n m L ds h bl) (K (.bool (decide (j ≥ 0))) (my n m L)) (K (.bool false) (my n m L))
 rw [af, aa6 (show j ≥ 0 from hj)]
 exact ⟨fun e => by rw [e] at ho; exact ho, fun e => by rw [e] at ho; exact ho⟩
theorem UO (κ : Kp) (N : Nat) (ls : List (List Value)) (ds rs fs : List AV) (a : bQ) (K : AV → List Dn.Obj → Prop) : (bh (L0 κ) 12 52 [.ptr 0 0 [] 0, iK ds rs, an a, .bL 72 []] (re N ls fs) K) = (
 letI z1 := Pg.toProgram (Env.P (Aq κ))
 letI z2 := (0 : Int)
 ∃ (a_1 : List AV × ByteArray), ([AV.ae 62 ds, AV.str a.rel], aF) = ([AV.ae 62 a_1.1, AV.str a_1.2], aF) ∧ ie a_1 ∧ ag z1 119 2 = ag z1 119 2 ∧ ∃ (a_2 : Cv), sp
 19 [(0, AV.ae 55 a.bl), (1, AV.bL 78 [AV.ptr 4 0 [] 0, AV.ptr 6 0 [] 0, AV.ptr 3 0 [] 0, AV.ptr 7 0 [] 0]), (7, AV.int (↑(a.bl.length) : Int)), (8, AV.int 0)]
 [Obj.box 82 (AV.agg [AV.aB 1 0 N, AV.aB 2 0 fs.length]), Obj.rows 48 3 ls none, Obj.row 68 fs, Obj.box 66 (AV.ptr 0 0 [] 0), Obj.box 25 (AV.agg [AV.ae 62 ds,
 AV.ae 41 rs]), Obj.box 41 (an a), Obj.box 85 (AV.bL 72 []), Obj.box 3 (AV.int (cX a_1.2 a_1.1))] = sp 19 [(0, AV.ae 55 a_2.a.bl), (1, AV.bL 78 [AV.ptr 4 0 [] 0,
 AV.ptr 6 0 [] 0, AV.ptr 3 0 [] 0, AV.ptr 7 0 [] 0]), (7, AV.int (↑(List.length a_2.a.bl) : Int)), (8, AV.int a_2.a.i)] [Obj.box 82 (AV.agg [AV.aB 1 0 a_2.n,
 AV.aB 2 0 (List.length (a6 a_2.n a_2.m a_2.L a_2.n))]), Obj.rows 48 3 (cB a_2.L) none, Obj.row 68 (a6 a_2.n a_2.m a_2.L a_2.n), Obj.box 66 (AV.ptr 0 0 [] 0),
 Obj.box 25 (AV.agg [AV.ae 62 a_2.ds, AV.ae 41 a_2.rs]), Obj.box 41 (an a_2.a), Obj.box 85 (AV.bL 72 []), Obj.box 3 (AV.int a_2.h)] ∧ ((z2 ≤ a_2.h ∧ a_2.h <
 (↑(a_2.n) : Int)) ∧ a_2.ds.length ≤ 9223372036854775807 ∧ List.length a_2.a.bl ≤ 9223372036854775807 ∧ z2 ≤ a_2.a.i ∧ a_2.a.i ≤ (↑(List.length a_2.a.bl) : Int)
 ∧ ∀ (l : AV), List.Mem l a_2.a.bl → fR (toInt (ad l 0)) = true → z2 ≤ cX (toStr (ad (ad l 1) 0)) a_2.ds ∧ cX (toStr (ad (ad l 1) 0)) a_2.ds < (↑(a_2.n) : Int))
 ∧ ∀ (y : Int), z2 ≤ y → aD (jw fR a_2.n a_2.m a_2.L a_2.ds a_2.h (List.drop (Int.toNat a_2.a.i) a_2.a.bl)) (K (AV.bool (decide (y ≥ z2))) [Obj.box 82 (AV.agg
 [AV.aB 1 0 a_2.n, AV.aB 2 0 (List.length (a6 a_2.n a_2.m a_2.L a_2.n))]), Obj.rows 48 3 (cB a_2.L) none, Obj.row 68 (a6 a_2.n a_2.m a_2.L a_2.n)]) (K (AV.bool
 false) [Obj.box 82 (AV.agg [AV.aB 1 0 a_2.n, AV.aB 2 0 (List.length (a6 a_2.n a_2.m a_2.L a_2.n))]), Obj.rows 48 3 (cB a_2.L) none, Obj.row 68 (a6 a_2.n a_2.m
 a_2.L a_2.n)])) := by kernel_rfl
def Lp (x : Cv) : List AV × List Dn.Obj := ([.ptr 0 0 [] 0, iK x.ds x.rs, an x.a, .bL 72 []], my x.n x.m x.L)
def Bc (x : Cv) : Out (AV × List Dn.Obj) := .one (.bool (jw fR x.n x.m x.L x.ds x.h x.a.bl), my x.n x.m x.L)
theorem VV (κ : Kp) : bu (L0 κ) 12 52 (aW Lp (x4 fR) Bc) := by
 refine ba ?_
 rintro ⟨n, m, L, ds, rs, ⟨xs, more, rel, hl, bl, line, i⟩, h⟩ K ⟨he, hh, hd, hb, hm⟩ ho
 simp only at he hh hd hb hm
 refine Eq.mpr (UO κ n (cB L) ds rs (a6 n m L n) ⟨xs, more, rel, hl, bl, line, i⟩ K) ?_
 simp only [Bc, Out.run] at ho
 refine ⟨(ds, rel), rfl, hd, rfl, ⟨n, m, L, ds, rs, ⟨xs, more, rel, hl, bl, line, 0⟩, h⟩, by simp only [he], ⟨hh, hd, hb, by simp only; omega, by simp only; omega, hm⟩, fun j hj => ?_⟩
 show aD (jw fR n m L ds h bl) (K (.bool (decide (j ≥ 0))) (my n m L)) (K (.bool false) (my n m L))
 rw [af, aa6 (show j ≥ 0 from hj)]
 exact ⟨fun e => by rw [e] at ho; exact ho, fun e => by rw [e] at ho; exact ho⟩
def A4 (sel : List AV → Bool) (a b : cK) : cK := fun args st K => bif sel args then a args st K else b args st K
theorem uX {sel : List AV → Bool} {a b : cK} (ha : a.jb) (hb : b.jb) : (A4 sel a b).jb := fun args st K K' hK h => by
 unfold A4 at h ⊢
 cases hs : sel args <;> simp only [hs] at h ⊢
 ·exact hb _ _ _ _ hK h
 ·exact ha _ _ _ _ hK h
theorem Dq {E : Env} {N f : Nat} {sel : List AV → Bool} {a b : cK} (ha : bu E N f a) (hb : bu E N f b) : bu E N f (A4 sel a b) := fun args st K h => by
 unfold A4 at h
 cases hs : sel args <;> rw [hs] at h
 ·exact hb _ _ _ h
 ·exact ha _ _ _ h
def PO : List AV → Bool
 | [_, _, _, .bL f _] => Nat.beq f 53
 | _ => false
noncomputable def By (κ : Kp) : Env := (L0 κ).au 52 (A4 PO (aW Lz (x4 gh) Ai) (aW Lp (x4 fR) Bc))
theorem WV (κ : Kp) : ay (By κ) := (Yf κ).au (SG κ) (Dq (XG κ) (VV κ))
theorem Tl (κ : Kp) : ah (By κ) := (SG κ).au (uX aH aH)
theorem Zm (κ : Kp) (N i : Nat) (ls : List (List Value)) (ds rs fs : List AV) (I : Nat → S → Prop) (n : Nat) (K : Exit → S → Prop) : (vc (By κ) 12 37 none 3 (ag (Pr κ).toProgram 37 2) (sp 38 [(0, .ptr 0 0 [] 0), (3, .ptr 3 0 [] 0), (11, .ae 41 rs), (12, .int rs.length), (13, .int i)] (re N ls fs ++ [.box 25 (iK ds rs)])) (bK (By κ) 37 2 3 I n K)) = (
 letI z1 := nth rs (Int.toNat (↑i : Int))
 letI z2 := IntKind.wrap IntKind.i64 ((↑i : Int) + (1 : Int))
 letI z3 := AV.agg [AV.ae 62 ds, AV.ae 41 rs]
 letI z4 := toInt (ad z1 2)
 letI z5 := toStr (ad (ad z1 0) 0)
 letI z6 := AV.agg [AV.aB 1 0 N, AV.aB 2 0 fs.length]
 letI z7 := ai (ad (ad z1 0) 1)
 letI z8 := ai (ad z1 1)
 aD (decide ((↑i : Int) < (↑(rs.length) : Int))) (bg (true && decide ((↑i : Int) < (↑(rs.length) : Int))) (∃ (a : Cv), ([AV.ptr 0 0 [] 0, AV.agg [AV.ae 62 ds,
 AV.ae 41 rs], AV.agg [AV.agg [AV.str z5, AV.ae 52 z7], AV.ae 55 z8, AV.int z4], AV.bL 72 []], [Obj.box 82 z6, Obj.rows 48 3 ls none, Obj.row 68 fs]) = ([AV.ptr
 0 0 [] 0, AV.agg [AV.ae 62 a.ds, AV.ae 41 a.rs], an a.a, AV.bL 72 []], [Obj.box 82 (AV.agg [AV.aB 1 0 a.n, AV.aB 2 0 (List.length (a6 a.n a.m a.L a.n))]),
 Obj.rows 48 3 (cB a.L) none, Obj.row 68 (a6 a.n a.m a.L a.n)]) ∧ (a.h = cX a.a.rel a.ds ∧ ((0 : Int) ≤ a.h ∧ a.h < (↑(a.n) : Int)) ∧ a.ds.length ≤
 9223372036854775807 ∧ List.length a.a.bl ≤ 9223372036854775807 ∧ ∀ (l : AV), List.Mem l a.a.bl → fR (toInt (ad l 0)) = true → (0 : Int) ≤ cX (toStr (ad (ad l 1)
 0)) a.ds ∧ cX (toStr (ad (ad l 1) 0)) a.ds < (↑(a.n) : Int)) ∧ aD (jw fR a.n a.m a.L a.ds a.h a.a.bl) (K Exit.ret (sp 38 [(4, AV.int z4), (5, AV.int 70)]
 [Obj.box 82 (AV.agg [AV.aB 1 0 a.n, AV.aB 2 0 (List.length (a6 a.n a.m a.L a.n))]), Obj.rows 48 3 (cB a.L) none, Obj.row 68 (a6 a.n a.m a.L a.n)])) (∃ (a_1 :
 bQ), ([AV.agg [AV.agg [AV.str z5, AV.ae 52 z7], AV.ae 55 z8, AV.int z4]], aF) = ([an a_1], aF) ∧ (aX (aa (aV 52 a_1.hl a_1.bl)) ≤ 100000 ∧ a_1.bl.length ≤
 100000) ∧ aD (aM (aI a_1)) (aD (jH (aI a_1)) (aD (Ge (aI a_1)) (∃ (a_2 : Cv), ([AV.ptr 0 0 [] 0, AV.agg [AV.ae 62 ds, AV.ae 41 rs], AV.agg [AV.agg [AV.str z5,
 AV.ae 52 z7], AV.ae 55 z8, AV.int z4], AV.bL 53 []], [Obj.box 82 (AV.agg [AV.aB 1 0 a.n, AV.aB 2 0 (List.length (a6 a.n a.m a.L a.n))]), Obj.rows 48 3 (cB a.L)
 none, Obj.row 68 (a6 a.n a.m a.L a.n)]) = ([AV.ptr 0 0 [] 0, AV.agg [AV.ae 62 a_2.ds, AV.ae 41 a_2.rs], an a_2.a, AV.bL 53 []], [Obj.box 82 (AV.agg [AV.aB 1 0
 a_2.n, AV.aB 2 0 (List.length (a6 a_2.n a_2.m a_2.L a_2.n))]), Obj.rows 48 3 (cB a_2.L) none, Obj.row 68 (a6 a_2.n a_2.m a_2.L a_2.n)]) ∧ (a_2.h = cX a_2.a.rel
 a_2.ds ∧ ((0 : Int) ≤ a_2.h ∧ a_2.h < (↑(a_2.n) : Int)) ∧ a_2.ds.length ≤ 9223372036854775807 ∧ List.length a_2.a.bl ≤ 9223372036854775807 ∧ ∀ (l : AV),
 List.Mem l a_2.a.bl → gh (toInt (ad l 0)) = true → (0 : Int) ≤ cX (toStr (ad (ad l 1) 0)) a_2.ds ∧ cX (toStr (ad (ad l 1) 0)) a_2.ds < (↑(a_2.n) : Int)) ∧ aD
 (jw gh a_2.n a_2.m a_2.L a_2.ds a_2.h a_2.a.bl) (K Exit.ret (sp 38 [(4, AV.int z4), (5, AV.int 71)] [Obj.box 82 (AV.agg [AV.aB 1 0 a_2.n, AV.aB 2 0 (List.length
 (a6 a_2.n a_2.m a_2.L a_2.n))]), Obj.rows 48 3 (cB a_2.L) none, Obj.row 68 (a6 a_2.n a_2.m a_2.L a_2.n)])) (∃ (m : Nat), m < n ∧ I m (sp 38 [(0, AV.ptr 0 0 []
 0), (3, AV.ptr 3 0 [] 0), (11, AV.ae 41 rs), (12, AV.int (↑(rs.length) : Int)), (13, AV.int z2)] [Obj.box 82 (AV.agg [AV.aB 1 0 a_2.n, AV.aB 2 0 (List.length
 (a6 a_2.n a_2.m a_2.L a_2.n))]), Obj.rows 48 3 (cB a_2.L) none, Obj.row 68 (a6 a_2.n a_2.m a_2.L a_2.n), Obj.box 25 z3]))) (∃ (m : Nat), m < n ∧ I m (sp 38 [(0,
 AV.ptr 0 0 [] 0), (3, AV.ptr 3 0 [] 0), (11, AV.ae 41 rs), (12, AV.int (↑(rs.length) : Int)), (13, AV.int z2)] [Obj.box 82 (AV.agg [AV.aB 1 0 a.n, AV.aB 2 0
 (List.length (a6 a.n a.m a.L a.n))]), Obj.rows 48 3 (cB a.L) none, Obj.row 68 (a6 a.n a.m a.L a.n), Obj.box 25 z3]))) (∃ (m : Nat), m < n ∧ I m (sp 38 [(0,
 AV.ptr 0 0 [] 0), (3, AV.ptr 3 0 [] 0), (11, AV.ae 41 rs), (12, AV.int (↑(rs.length) : Int)), (13, AV.int z2)] [Obj.box 82 (AV.agg [AV.aB 1 0 a.n, AV.aB 2 0
 (List.length (a6 a.n a.m a.L a.n))]), Obj.rows 48 3 (cB a.L) none, Obj.row 68 (a6 a.n a.m a.L a.n), Obj.box 25 z3]))) (∃ (m : Nat), m < n ∧ I m (sp 38 [(0,
 AV.ptr 0 0 [] 0), (3, AV.ptr 3 0 [] 0), (11, AV.ae 41 rs), (12, AV.int (↑(rs.length) : Int)), (13, AV.int z2)] [Obj.box 82 (AV.agg [AV.aB 1 0 a.n, AV.aB 2 0
 (List.length (a6 a.n a.m a.L a.n))]), Obj.rows 48 3 (cB a.L) none, Obj.row 68 (a6 a.n a.m a.L a.n), Obj.box 25 z3]))))) (K (Exit.exit 0) (sp 38 [] [Obj.box 82
 z6, Obj.rows 48 3 ls none, Obj.row 68 fs]))) := by kernel_rfl
theorem Xh (κ : Kp) (ls : List (List Value)) (ds : List AV) (I : Nat → S → Prop) (n : Nat) (K : Exit → S → Prop) : (vc (By κ) 12 37 none 2 (ag (Pr κ).toProgram 37 2) (sp 38 [(0, .ptr 0 0 [] 0), (3, .ptr 2 0 [] 0), (11, .ae 41 []), (12, .int 0), (13, .int 0)] (uq 0 ls ++ [.box 25 (iK ds [])])) (bK (By κ) 37 2 2 I n K)) = (
 K (Exit.exit 0) (sp 38 [] [Obj.box 82 (AV.agg [AV.aB 1 0 0, AV.nil]), Obj.rows 48 3 ls none])) := by kernel_rfl
def tM (r : AV) : Bool := aM (aI (eF r)) && jH (aI (eF r)) && Ge (aI (eF r))
def O2 (ds : List AV) (r : AV) : Int := cX (toStr (ad (ad r 0) 0)) ds
def yg (isf : Int → Bool) (n m : Nat) (L : Gr) (ds : List AV) (r : AV) : Bool := jw isf n m L ds (O2 ds r) (ai (ad r 1))
def ry (n m : Nat) (L : Gr) (ds : List AV) : List AV → Int × Int
 | [] => (0, 0)
 | r :: rs => bif yg fR n m L ds r then (toInt (ad r 2), 70) else bif tM r && yg gh n m L ds r then (toInt (ad r 2), 71) else ry n m L ds rs
structure zr (n : Nat) (ds : List AV) (r : AV) : Prop where
 hd : 0 ≤ O2 ds r ∧ O2 ds r < n
 at_ : ∀ l, l ∈ ai (ad r 1) → dj (toInt (ad l 0)) = true → 0 ≤ cX (toStr (ad (ad l 1) 0)) ds ∧ cX (toStr (ad (ad l 1) 0)) ds < n
 le : (ai (ad r 1)).length ≤ aL
 Rp : dh (eF r)
theorem FD {op : Int} (h : gh op = true) : dj op = true := by
 have : op = 1 := by simpa [gh] using h
 subst this; rfl
theorem GM {op : Int} (h : fR op = true) : dj op = true := by
 unfold fR at h
 unfold dj
 by_cases e : op = 2
 ·subst e; rfl
 ·rw [aa4 e, aa5, aa0] at h
  cases decide (op < 3)
  ·rw [aa5, aa0]; omega
  ·rfl
structure KK where
 n : Nat
 m : Nat
 L : Gr
 ds : List AV
 rs : List AV
 i : Nat
abbrev Ko (x : KK) : S := sp 38 [(0, .ptr 0 0 [] 0), (3, .ptr 3 0 [] 0), (11, .ae 41 x.rs), (12, .int x.rs.length), (13, .int x.i)] (my x.n x.m x.L ++ [.box 25 (iK x.ds x.rs)])
def BZ (x : KK) : Prop := x.ds.length ≤ aL ∧ x.rs.length ≤ aL ∧ x.i ≤ x.rs.length ∧ ∀ r, r ∈ x.rs → zr x.n x.ds r
def yv (x : KK) : Out (Exit × S) := .aD (decide ((ry x.n x.m x.L x.ds (x.rs.drop x.i)).2 = 0))
 (.one (.exit 0, sp 38 [] (my x.n x.m x.L)))
 (.one (.ret, sp 38 [(4, .int (ry x.n x.m x.L x.ds (x.rs.drop x.i)).1), (5, .int (ry x.n x.m x.L x.ds (x.rs.drop x.i)).2)] (my x.n x.m x.L)))
theorem YF (κ : Kp) : bq (By κ) 12 37 2 (aO 3 Ko BZ yv) := by
 refine aR (fun x => x.rs.length - x.i) ?_
 rintro ⟨n, m, L, ds, rs, i⟩ K ⟨hd, hr, hi, hg⟩ ho
 simp only at hd hr hi hg
 rw [show (By κ).P = Pr κ from rfl]
 refine Eq.mpr (Zm κ n i (cB L) ds rs (a6 n m L n) _ _ K) ?_
 have ho2 := ho
 simp only [yv, Out.run, af, aa0, aa2] at ho2
 simp only [aL] at hr
 rw [af, aa0, aa2, ax, ab9, aa0]
 refine ⟨fun h => ⟨h, ?_⟩, fun h => ?_⟩
 ·have hk : i < rs.length := by omega
  have hx : nth rs i ∈ rs := by rw [br _ _ hk]; exact List.getElem_mem _
  have hG := hg _ hx
  have hs : ry n m L ds (rs.drop i) = bif yg fR n m L ds (nth rs i) then (toInt (ad (nth rs i) 2), 70) else bif tM (nth rs i) && yg gh n m L ds (nth rs i) then (toInt (ad (nth rs i) 2), 71) else ry n m L ds (rs.drop (i + 1)) := by
   rw [ab1 hk, ← br rs i hk]; rfl
  have next : yg fR n m L ds (nth rs i) = false → (tM (nth rs i) && yg gh n m L ds (nth rs i)) = false → ∃ k, k < rs.length - i ∧ fF Ko BZ yv (fun x => x.rs.length - x.i) K k (Ko ⟨n, m, L, ds, rs, i + 1⟩) := fun e1 e2 => by
   rw [e1, e2, aa5, aa5] at hs
   refine ⟨_, ?_, ⟨n, m, L, ds, rs, i + 1⟩, rfl, ⟨hd, by simpa [aL] using hr, hk, hg⟩, rfl, ?_⟩
   ·simp only; omega
   ·simp only [yv, Out.run, ← hs]; exact ho
  rw [Int.toNat_natCast, a8 (n := (i : Int) + 1) (by omega) (by omega)]
  refine ⟨⟨n, m, L, ds, rs, eF (nth rs i), O2 ds (nth rs i)⟩, rfl, ⟨rfl, hG.hd, hd, hG.le, fun l hl h => hG.at_ l hl (GM h)⟩, ?_⟩
  rw [af]
  refine ⟨fun e => ?_, fun e => ?_⟩
  ·have e : yg fR n m L ds (nth rs i) = true := e
   rw [e, aa7] at hs
   have := ho2.2 (by rw [hs]; exact fun h => nomatch h)
   rw [hs] at this
   exact this
  ·have e : yg fR n m L ds (nth rs i) = false := e
   refine ⟨eF (nth rs i), rfl, hG.Rp, ?_⟩
   rw [af]
   refine ⟨fun e1 => ?_, fun e1 => next e (by unfold tM; rw [e1]; rfl)⟩
   rw [af]
   refine ⟨fun e2 => ?_, fun e2 => next e (by unfold tM; rw [e1, e2]; rfl)⟩
   rw [af]
   refine ⟨fun e3 => ?_, fun e3 => next e (by unfold tM; rw [e1, e2, e3]; rfl)⟩
   have hv : tM (nth rs i) = true := by unfold tM; rw [e1, e2, e3]; rfl
   refine ⟨⟨n, m, L, ds, rs, eF (nth rs i), O2 ds (nth rs i)⟩, rfl, ⟨rfl, hG.hd, hd, hG.le, fun l hl h => hG.at_ l hl (FD h)⟩, ?_⟩
   rw [af]
   refine ⟨fun e4 => ?_, fun e4 => next e (by have e4 : yg gh n m L ds (nth rs i) = false := e4; rw [e4, Bool.and_false])⟩
   have e4 : yg gh n m L ds (nth rs i) = true := e4
   rw [e, hv, e4, aa5, Bool.and_true, aa7] at hs
   have := ho2.2 (by rw [hs]; exact fun h => nomatch h)
   rw [hs] at this
   exact this
 ·rw [aa8 (by omega)] at ho2
  exact ho2.1 rfl
structure MP where
 ls : List (List Value)
 ds : List AV
abbrev Nd (x : MP) : S := sp 38 [(0, .ptr 0 0 [] 0), (3, .ptr 2 0 [] 0), (11, .ae 41 []), (12, .int 0), (13, .int 0)] (uq 0 x.ls ++ [.box 25 (iK x.ds [])])
def Lo (x : MP) : Out (Exit × S) := .one (.exit 0, sp 38 [] (uq 0 x.ls))
theorem Yg (κ : Kp) : bq (By κ) 12 37 2 (aO 2 Nd (fun _ => True) Lo) := by
 refine aR (fun _ => 0) ?_
 rintro ⟨ls, ds⟩ K _ ho
 rw [show (By κ).P = Pr κ from rfl]
 exact Eq.mpr (Xh κ ls ds _ _ K) ho
noncomputable def Mx (κ : Kp) : Env := (By κ).aj 37 2 (pr NA (aO 3 Ko BZ yv) (aO 2 Nd (fun _ => True) Lo))
theorem WK (κ : Kp) : ay (Mx κ) := (WV κ).aj (Tl κ) (mA (YF κ) (Yg κ))
theorem RI (κ : Kp) : ah (Mx κ) := (Tl κ).aj (ju aG aG)
theorem WJ (κ : Kp) (N : Nat) (ls : List (List Value)) (ds rs fs : List AV) (K : AV → List Dn.Obj → Prop) : (bh (Mx κ) 12 37 [.ptr 0 0 [] 0, iK ds rs] (re N ls fs) K) = (
 letI z1 := Pg.toProgram (Env.P (By κ))
 ag z1 37 2 = ag z1 37 2 ∧ ∃ (a : KK), sp 38 [(0, AV.ptr 0 0 [] 0), (3, AV.ptr 3 0 [] 0), (11, AV.ae 41 rs), (12, AV.int (↑(rs.length) : Int)), (13, AV.int 0)]
 [Obj.box 82 (AV.agg [AV.aB 1 0 N, AV.aB 2 0 fs.length]), Obj.rows 48 3 ls none, Obj.row 68 fs, Obj.box 25 (AV.agg [AV.ae 62 ds, AV.ae 41 rs])] = sp 38 [(0,
 AV.ptr 0 0 [] 0), (3, AV.ptr 3 0 [] 0), (11, AV.ae 41 a.rs), (12, AV.int (↑(a.rs.length) : Int)), (13, AV.int (↑(a.i) : Int))] [Obj.box 82 (AV.agg [AV.aB 1 0
 a.n, AV.aB 2 0 (List.length (a6 a.n a.m a.L a.n))]), Obj.rows 48 3 (cB a.L) none, Obj.row 68 (a6 a.n a.m a.L a.n), Obj.box 25 (AV.agg [AV.ae 62 a.ds, AV.ae 41
 a.rs])] ∧ (a.ds.length ≤ 9223372036854775807 ∧ a.rs.length ≤ 9223372036854775807 ∧ a.i ≤ a.rs.length ∧ ∀ (r : AV), List.Mem r a.rs → zr a.n a.ds r) ∧ aD (decide
 (Prod.snd (ry a.n a.m a.L a.ds (List.drop a.i a.rs)) = (0 : Int))) (K (AV.bj [AV.int 0, AV.int 0]) [Obj.box 82 (AV.agg [AV.aB 1 0 a.n, AV.aB 2 0 (List.length
 (a6 a.n a.m a.L a.n))]), Obj.rows 48 3 (cB a.L) none, Obj.row 68 (a6 a.n a.m a.L a.n)]) (K (AV.bj [AV.int (Prod.fst (ry a.n a.m a.L a.ds (List.drop a.i a.rs))),
 AV.int (Prod.snd (ry a.n a.m a.L a.ds (List.drop a.i a.rs)))]) [Obj.box 82 (AV.agg [AV.aB 1 0 a.n, AV.aB 2 0 (List.length (a6 a.n a.m a.L a.n))]), Obj.rows 48 3
 (cB a.L) none, Obj.row 68 (a6 a.n a.m a.L a.n)])) := by kernel_rfl
theorem VJ (κ : Kp) (ls : List (List Value)) (ds : List AV) (K : AV → List Dn.Obj → Prop) : (bh (Mx κ) 12 37 [.ptr 0 0 [] 0, iK ds []] (uq 0 ls) K) = (
 letI z1 := AV.agg [AV.aB 1 0 0, AV.nil]
 letI z2 := Pg.toProgram (Env.P (By κ))
 ag z2 37 2 = ag z2 37 2 ∧ ∃ (a : MP), sp 38 [(0, AV.ptr 0 0 [] 0), (3, AV.ptr 2 0 [] 0), (11, AV.ae 41 []), (12, AV.int 0), (13, AV.int 0)] [Obj.box 82 z1,
 Obj.rows 48 3 ls none, Obj.box 25 (AV.agg [AV.ae 62 ds, AV.ae 41 []])] = sp 38 [(0, AV.ptr 0 0 [] 0), (3, AV.ptr 2 0 [] 0), (11, AV.ae 41 []), (12, AV.int 0),
 (13, AV.int 0)] [Obj.box 82 z1, Obj.rows 48 3 a.ls none, Obj.box 25 (AV.agg [AV.ae 62 a.ds, AV.ae 41 []])] ∧ True ∧ K (AV.bj [AV.int 0, AV.int 0]) [Obj.box 82
 z1, Obj.rows 48 3 a.ls none]) := by kernel_rfl
def Lx (x : KK) : List AV × List Dn.Obj := ([.ptr 0 0 [] 0, iK x.ds x.rs], my x.n x.m x.L)
def DI (x : KK) : Prop := x.ds.length ≤ aL ∧ x.rs.length ≤ aL ∧ ∀ r, r ∈ x.rs → zr x.n x.ds r
def Bv (x : KK) : Out (AV × List Dn.Obj) := .one (.bj [.int (ry x.n x.m x.L x.ds x.rs).1, .int (ry x.n x.m x.L x.ds x.rs).2], my x.n x.m x.L)
theorem zg (n m : Nat) (L : Gr) (ds : List AV) : ∀ rs : List AV, (ry n m L ds rs).2 = 0 → ry n m L ds rs = (0, 0)
 | [], _ => rfl
 | r :: rs, h => by
  rw [ry] at h ⊢
  cases e : yg fR n m L ds r with
  | true => rw [e, aa7] at h; cases h
  | false =>
   rw [e, aa5] at h
   rw [aa5]
   cases e2 : tM r && yg gh n m L ds r with
   | true => rw [e2, aa7] at h; cases h
   | false =>
    rw [e2, aa5] at h
    rw [aa5]
    exact zg n m L ds rs h
theorem W2 (κ : Kp) : bu (Mx κ) 12 37 (aW Lx DI Bv) := by
 refine ba ?_
 rintro ⟨n, m, L, ds, rs, i⟩ K ⟨hd, hr, hg⟩ ho
 refine Eq.mpr (WJ κ n (cB L) ds rs (a6 n m L n) K) ?_
 refine ⟨rfl, ⟨n, m, L, ds, rs, 0⟩, rfl, ⟨hd, hr, Nat.zero_le _, hg⟩, ?_⟩
 simp only [Bv, Out.run] at ho
 rw [ab0, af]
 refine ⟨fun e => ?_, fun _ => ho⟩
 rw [zg n m L ds rs (of_decide_eq_true e)] at ho
 exact ho
def K3 (x : MP) : List AV × List Dn.Obj := ([.ptr 0 0 [] 0, iK x.ds []], uq 0 x.ls)
def FB (x : MP) : Out (AV × List Dn.Obj) := .one (.bj [.int 0, .int 0], uq 0 x.ls)
theorem Vy (κ : Kp) : bu (Mx κ) 12 37 (aW K3 (fun _ => True) FB) := by
 refine ba ?_
 rintro ⟨ls, ds⟩ K _ ho
 refine Eq.mpr (VJ κ ls ds K) ?_
 exact ⟨rfl, ⟨ls, ds⟩, rfl, trivial, ho⟩
noncomputable def Pq (κ : Kp) : Env := (Mx κ).au 37 (BN OI (aW Lx DI Bv) (aW K3 (fun _ => True) FB))
theorem UT (κ : Kp) : ay (Pq κ) := (WK κ).au (RI κ) (wS (W2 κ) (Vy κ))
theorem S9 (κ : Kp) : ah (Pq κ) := (RI κ).au (pX aH aH)
theorem Vb (κ : Kp) (ds rs : List AV) (a b n : Int) (K : AV → List Dn.Obj → Prop) : (bh (Pq κ) 12 46 [iK ds rs, .int a, .int b, .int n] [] K) = (
 ∃ (a_1 : qB), ([AV.agg [AV.ae 62 ds, AV.ae 41 rs]], aF) = ([AV.agg [AV.ae 62 a_1.1, AV.ae 41 a_1.2]], aF) ∧ (a_1.1.length ≤ 9223372036854775807 ∧
 a_1.2.length ≤ 9223372036854775807 ∧ ∀ (x : AV), List.Mem x a_1.2 → aX (aa (aV 52 (bQ.hl (eF x)) (bQ.bl (eF x)))) ≤ 100000 ∧ List.length (bQ.bl
 (eF x)) ≤ 100000) ∧ aD (Prod.snd (gA a_1.1 a_1.2) == (0 : Int)) (aD (decide ((if b < a then b else a) < (0 : Int))) (K (AV.int 2) []) (aD (decide ((if b
 > a then b else a) ≥ n)) (K (AV.int 2) []) (K (AV.int (Prod.snd (gA a_1.1 a_1.2))) []))) (K (AV.int (Prod.snd (gA a_1.1 a_1.2))) [])) := by kernel_rfl
def Fo (a b n : Int) : Bool := (decide (0 ≤ a) && decide (a < n)) && (decide (0 ≤ b) && decide (b < n))
def uz (ds rs : List AV) (a b n : Int) : Int := bif decide ((gA ds rs).2 = 0) then (bif Fo a b n then 0 else 2) else (gA ds rs).2
structure On where
 ds : List AV
 rs : List AV
 a : Int
 b : Int
 n : Int
def Nf (x : On) : List AV × List Dn.Obj := ([iK x.ds x.rs, .int x.a, .int x.b, .int x.n], [])
def Gq (x : On) : Prop := iU x.ds x.rs
def FU (x : On) : Out (AV × List Dn.Obj) := .one (.int (uz x.ds x.rs x.a x.b x.n), [])
theorem ZC (κ : Kp) : bu (Pq κ) 12 46 (aW Nf Gq FU) := by
 refine ba ?_
 rintro ⟨ds, rs, a, b, n⟩ K hs ho
 refine Eq.mpr (Vb κ ds rs a b n K) ?_
 simp only [FU, Out.run, uz] at ho
 refine ⟨(ds, rs), rfl, hs, ?_⟩
 simp only [Lb, af, aa0, aa2]
 refine ⟨fun e => ?_, fun e => ?_⟩
 ·rw [aa6 e, aa7] at ho
  by_cases h1 : Fo a b n = true
  ·have h2 := h1
   simp only [Fo, aa1, aa0] at h2
   rw [h1, aa7] at ho
   refine ⟨fun h => ?_, fun _ => ⟨fun h => ?_, fun _ => by rw [e]; exact ho⟩⟩
   ·split at h <;> omega
   ·split at h <;> omega
  ·have h2 := h1
   simp only [Fo, aa1, aa0] at h2
   rw [(by simpa using h1 : Fo a b n = false), aa5] at ho
   refine ⟨fun _ => ho, fun h3 => ⟨fun _ => ho, fun h4 => ?_⟩⟩
   exfalso
   apply h2
   split at h3 <;> split at h4 <;> omega
 ·rw [aa4 e, aa5] at ho
  exact ho
noncomputable def IQ (κ : Kp) : Env := (Pq κ).au 46 (aW Nf Gq FU)
theorem US (κ : Kp) : ay (IQ κ) := (UT κ).au (S9 κ) (ZC κ)
theorem Sc (κ : Kp) : ah (IQ κ) := (S9 κ).au aH
theorem Ub (κ : Kp) (N i : Nat) (ls : List (List Value)) (fs gs l : List AV) (es : List (Value × AV)) (I : Nat → S → Prop) (n : Nat) (K : Exit → S → Prop) : (vc (IQ κ) 12 15 none 0 (ag (Pr κ).toProgram 15 15) (sp 63 [(7, .ptr 0 0 [] 0), (10, .aB 3 0 gs.length), (11, .mp 4), (13, .ae 3 l), (49, .ae 3 l), (50, .int l.length), (51, .int i)] (re N ls fs ++ [.row 48 gs, .map 3 4 es])) (bK (IQ κ) 15 15 0 I n K)) = (
 letI z1 := AV.agg [AV.aB 1 0 N, AV.aB 2 0 fs.length]
 aD (decide ((↑i : Int) < (↑(l.length) : Int))) (bg (true && decide ((↑i : Int) < (↑(l.length) : Int))) (∃ (m : Nat), m < n ∧ I m (sp 63 [(7, AV.ptr 0 0 [] 0),
 (10, AV.aB 3 0 gs.length), (11, AV.mp 4), (13, AV.ae 3 l), (49, AV.ae 3 l), (50, AV.int (↑(l.length) : Int)), (51, AV.int (IntKind.wrap IntKind.i64 ((↑i : Int)
 + (1 : Int))))] [Obj.box 82 z1, Obj.rows 48 3 ls none, Obj.row 68 fs, Obj.row 48 gs, Dn.Obj.map 3 4 (dU es (Value.int IntKind.i64 (toInt (nth l (Int.toNat (↑i :
 Int))))) (AV.bool true))]))) (K (Exit.exit 2) (sp 63 [(7, AV.ptr 0 0 [] 0), (10, AV.aB 3 0 gs.length), (11, AV.mp 4), (13, AV.ae 3 l)] [Obj.box 82 z1, Obj.rows
 48 3 ls none, Obj.row 68 fs, Obj.row 48 gs, Dn.Obj.map 3 4 es]))) := by kernel_rfl
def kD (gs : List (List Int)) : List AV := gs.map fun g => .ae 3 (iA g)
theorem J4 (a b : List (List Int)) : kD (a ++ b) = kD a ++ kD b := by simp [kD]
theorem Jy (a : List (List Int)) : (kD a).length = a.length := by simp [kD]
structure Pt where
 n : Nat
 m : Nat
 L : Gr
 gs : List (List Int)
 l : List Int
 done : List Int
 i : Nat
abbrev L1 (x : Pt) : S := sp 63 [(7, .ptr 0 0 [] 0), (10, .aB 3 0 (kD x.gs).length), (11, .mp 4), (13, .ae 3 (iA x.l)), (49, .ae 3 (iA x.l)), (50, .int (iA x.l).length), (51, .int x.i)] (my x.n x.m x.L ++ [.row 48 (kD x.gs), .map 3 4 (gb x.done)])
def Gp (x : Pt) : Prop := x.i ≤ x.l.length ∧ x.l.length ≤ 60
def Cy (x : Pt) : Out (Exit × S) := .one (.exit 2, sp 63 [(7, .ptr 0 0 [] 0), (10, .aB 3 0 (kD x.gs).length), (11, .mp 4), (13, .ae 3 (iA x.l))] (my x.n x.m x.L ++ [.row 48 (kD x.gs), .map 3 4 (gb (ur x.done (x.l.drop x.i)))]))
theorem Me : ∀ (l : List Int) (k : Nat) (h : k < l.length), toInt (nth (iA l) k) = l[k] := fun l k h => by
 rw [br _ _ (by rw [gU]; exact h)]
 simp [iA, toInt]
theorem UG (κ : Kp) : bq (IQ κ) 12 15 15 (aO 0 L1 Gp Cy) := by
 refine aR (fun x => x.l.length - x.i) ?_
 rintro ⟨n, m, L, gs, l, done, i⟩ K ⟨hi, hl⟩ ho
 simp only at hi hl
 rw [show (IQ κ).P = Pr κ from rfl]
 refine Eq.mpr (Ub κ n i (cB L) (a6 n m L n) (kD gs) (iA l) (gb done) _ _ K) ?_
 simp only [Cy, Out.run] at ho
 rw [af, ax, ab9, aa0, aa2, gU]
 refine ⟨fun h => ⟨h, ?_⟩, fun h => ?_⟩
 ·have hk : i < l.length := by omega
  rw [Int.toNat_natCast, Me l i hk, a8 (n := (i : Int) + 1) (by omega) (by omega), show Value.int IntKind.i64 l[i] = fb l[i] from rfl, pb]
  refine ⟨_, ?_, ⟨n, m, L, gs, l, bif done.contains l[i] then done else done ++ [l[i]], i + 1⟩, ?_, ⟨hk, hl⟩, rfl, ?_⟩
  ·simp only; omega
  ·simp only [L1, gU]; rfl
  ·rw [ab1 hk] at ho
   simp only [Cy, Out.run]
   exact ho
 ·rw [aa8 (by omega)] at ho
  exact ho
noncomputable def A1 (κ : Kp) : Env := (IQ κ).aj 15 15 (aO 0 L1 Gp Cy)
theorem Ul (κ : Kp) : ay (A1 κ) := (US κ).aj (Sc κ) (UG κ)
theorem RW (κ : Kp) : ah (A1 κ) := (Sc κ).aj aG
theorem ZL (κ : Kp) (N : Nat) (a : Int) (ls : List (List Value)) (fs : List AV) (gs : List (List Int)) (es : List (Value × AV)) (I : Nat → S → Prop) (n : Nat) (K : Exit → S → Prop) : (vc (A1 κ) 12 15 none 0 (ag (Pr κ).toProgram 15 11) (sp 63 [(7, .ptr 0 0 [] 0), (10, .aB 3 0 (kD gs).length), (11, .mp 4), (12, .int a)] (re N ls fs ++ [.row 48 (kD gs), .map 3 4 es])) (bK (A1 κ) 15 11 0 I n K)) = (
 letI z1 := Pg.toProgram (Env.P (IQ κ))
 aD (decide (a ≥ (0 : Int))) (∃ (a_1 : Ln), ([AV.ptr 0 0 [] 0, AV.int a], [Obj.box 82 (AV.agg [AV.aB 1 0 N, AV.aB 2 0 fs.length]), Obj.rows 48 3 ls none, Obj.row
 68 fs]) = ([AV.ptr 0 0 [] 0, AV.int a_1.a], [Obj.box 82 (AV.agg [AV.aB 1 0 a_1.n, AV.aB 2 0 (List.length (a6 a_1.n a_1.m a_1.L a_1.n))]), Obj.rows 48 3 (cB
 a_1.L) none, Obj.row 68 (a6 a_1.n a_1.m a_1.L a_1.n)]) ∧ (((0 : Int) ≤ a_1.a ∧ a_1.a < (↑(a_1.n) : Int)) ∧ a_1.n ≤ 60) ∧ ag z1 15 15 = ag z1 15 15 ∧ ∃ (a : Pt),
 sp 63 [(7, AV.ptr 0 0 [] 0), (10, AV.aB 3 0 (List.length (kD gs))), (11, AV.mp 4), (13, AV.ae 3 (iA (gl a_1.n a_1.m a_1.L a_1.a))), (49, AV.ae 3 (iA (gl a_1.n
 a_1.m a_1.L a_1.a))), (50, AV.int (↑(List.length (iA (gl a_1.n a_1.m a_1.L a_1.a))) : Int)), (51, AV.int 0)] [Obj.box 82 (AV.agg [AV.aB 1 0 a_1.n, AV.aB 2 0
 (List.length (a6 a_1.n a_1.m a_1.L a_1.n))]), Obj.rows 48 3 (cB a_1.L) none, Obj.row 68 (a6 a_1.n a_1.m a_1.L a_1.n), Obj.row 48 (kD gs), Dn.Obj.map 3 4 es] =
 sp 63 [(7, AV.ptr 0 0 [] 0), (10, AV.aB 3 0 (List.length (kD a.gs))), (11, AV.mp 4), (13, AV.ae 3 (iA a.l)), (49, AV.ae 3 (iA a.l)), (50, AV.int (↑(List.length
 (iA a.l)) : Int)), (51, AV.int (↑(a.i) : Int))] [Obj.box 82 (AV.agg [AV.aB 1 0 a.n, AV.aB 2 0 (List.length (a6 a.n a.m a.L a.n))]), Obj.rows 48 3 (cB a.L) none,
 Obj.row 68 (a6 a.n a.m a.L a.n), Obj.row 48 (kD a.gs), Dn.Obj.map 3 4 (gb a.done)] ∧ (a.i ≤ a.l.length ∧ a.l.length ≤ 60) ∧ bg (decide ((List.length (kD a.gs) +
 1 + 1) * 25 ≤ 70368744177664)) (∃ (a_2 : CW), ([AV.ptr 0 0 [] 0, AV.mp 3], [Obj.box 82 (AV.agg [AV.aB 1 0 a.n, AV.aB 2 0 (List.length (a6 a.n a.m a.L a.n))]),
 Obj.rows 48 3 (cB a.L) none, Obj.row 68 (a6 a.n a.m a.L a.n), Dn.Obj.map 3 4 (gb (ur a.done (List.drop a.i a.l)))]) = ([AV.ptr 0 0 [] 0, AV.mp 3], [Obj.box 82
 (AV.agg [AV.aB 1 0 a_2.n, AV.aB 2 0 (List.length (a6 a_2.n a_2.m a_2.L a_2.n))]), Obj.rows 48 3 (cB a_2.L) none, Obj.row 68 (a6 a_2.n a_2.m a_2.L a_2.n),
 Dn.Obj.map 3 4 (gb a_2.done)]) ∧ (WG a_2.n a_2.m a_2.L ∧ a_2.n ≤ 60) ∧ ∃ (m : Nat), m < n ∧ I m (sp 63 [(7, AV.ptr 0 0 [] 0), (10, AV.aB 3 0 (List.length (kD
 a.gs) + 1)), (11, AV.mp 4), (12, AV.int (fE a_2.n a_2.m a_2.L a_2.done))] [Obj.box 82 (AV.agg [AV.aB 1 0 a_2.n, AV.aB 2 0 (List.length (a6 a_2.n a_2.m a_2.L
 a_2.n))]), Obj.rows 48 3 (cB a_2.L) none, Obj.row 68 (a6 a_2.n a_2.m a_2.L a_2.n), Obj.row 48 (List.take (List.length (kD a.gs)) (kD a.gs) ++ [AV.ae 3 (iA
 a.l)]), Dn.Obj.map 3 4 (gb a_2.done)]))) (K (Exit.exit 0) (sp 63 [(10, AV.aB 0 0 (List.length (kD gs)))] [Obj.row 48 (kD gs)]))) := by kernel_rfl
theorem TL (κ : Kp) (ls : List (List Value)) (es : List (Value × AV)) (I : Nat → S → Prop) (n : Nat) (K : Exit → S → Prop) : (vc (A1 κ) 12 15 none 0 (ag (Pr κ).toProgram 15 11) (sp 63 [(7, .ptr 0 0 [] 0), (10, .aB 2 0 0), (11, .mp 3), (12, .int (-1))] (uq 0 ls ++ [.row 48 [], .map 3 4 es])) (bK (A1 κ) 15 11 0 I n K)) = (
 K (Exit.exit 0) (sp 63 [(10, AV.aB 0 0 0)] [Obj.row 48 []])) := by kernel_rfl
structure Py where
 n : Nat
 m : Nat
 L : Gr
 gs : List (List Int)
 done : List Int
abbrev LL (x : Py) : S := sp 63 [(7, .ptr 0 0 [] 0), (10, .aB 3 0 (kD x.gs).length), (11, .mp 4), (12, .int (fE x.n x.m x.L x.done))] (my x.n x.m x.L ++ [.row 48 (kD x.gs), .map 3 4 (gb x.done)])
def FY (x : Py) : Prop := WG x.n x.m x.L ∧ x.n ≤ 60 ∧ x.gs.length + yf x.n x.done ≤ x.n
def Ck (x : Py) : Out (Exit × S) := .one (.exit 0, sp 63 [(10, .aB 0 0 (kD (x.gs ++ q8 x.n x.m x.L x.done)).length)] [.row 48 (kD (x.gs ++ q8 x.n x.m x.L x.done))])
theorem Ex (n m : Nat) (L : Gr) (a : Int) : (gl n m L a).length ≤ n := zN n m L a n
theorem UQ (κ : Kp) : bq (A1 κ) 12 15 11 (aO 0 LL FY Ck) := by
 refine aR (fun x => yf x.n x.done) ?_
 rintro ⟨n, m, L, gs, done⟩ K ⟨hG, hn, hl⟩ ho
 simp only at hG hn hl
 rw [show (A1 κ).P = Pr κ from rfl]
 refine Eq.mpr (ZL κ n (fE n m L done) (cB L) (a6 n m L n) gs (gb done) _ _ K) ?_
 simp only [Ck, Out.run] at ho
 have hg := y6 (n := n) (m := m) (L := L) done
 rw [af, aa0, aa2]
 refine ⟨fun h => ?_, fun h => ?_⟩
 ·have h1 := (uQ (n := n) (m := m) (L := L) (done := done) h).1
  have h2 := wE (n := n) (m := m) (L := L) (done := done) h
  have h3 := Ex n m L (fE n m L done)
  rw [aa4 (by omega), aa5] at hg
  rw [hg] at ho
  refine ⟨⟨n, m, L, fE n m L done, 0⟩, rfl, ⟨h1, hn⟩, rfl, ⟨n, m, L, gs, gl n m L (fE n m L done), done, 0⟩, rfl, ⟨Nat.zero_le _, by simp only; omega⟩, ?_⟩
  rw [ax, aa0]
  refine ⟨by rw [Jy]; simp only; omega, ⟨n, m, L, ur done (gl n m L (fE n m L done)), 0, []⟩, rfl, ⟨hG, hn⟩, _, h2, ⟨n, m, L, gs ++ [gl n m L (fE n m L done)], ur done (gl n m L (fE n m L done))⟩, ?_, ⟨hG, hn, ?_⟩, rfl, ?_⟩
  ·rw [List.take_length]
   simp only [LL, J4, ab8]
   rfl
  ·simp only [ab8, List.length_singleton]; omega
  ·simp only [Ck, Out.run, List.append_assoc, List.singleton_append]
   exact ho
 ·rw [aa6 (show fE n m L done < 0 by omega), aa7] at hg
  rw [hg, List.append_nil] at ho
  exact ho
abbrev OH (x : Js) : S := sp 63 [(7, .ptr 0 0 [] 0), (10, .aB 2 0 0), (11, .mp 3), (12, .int (-1))] (uq 0 x.ls ++ [.row 48 [], .map 3 4 x.es])
def K5 (_ : Js) : Out (Exit × S) := .one (.exit 0, sp 63 [(10, .aB 0 0 0)] [.row 48 []])
theorem Zj (κ : Kp) : bq (A1 κ) 12 15 11 (aO 0 OH (fun _ => True) K5) := by
 refine aR (fun _ => 0) ?_
 rintro ⟨ls, es⟩ K _ ho
 rw [show (A1 κ).P = Pr κ from rfl]
 exact Eq.mpr (TL κ ls es _ _ K) ho
noncomputable def Mk (κ : Kp) : Env := (A1 κ).aj 15 11 (pr Na (aO 0 LL FY Ck) (aO 0 OH (fun _ => True) K5))
theorem Tj (κ : Kp) : ay (Mk κ) := (Ul κ).aj (RW κ) (mA (UQ κ) (Zj κ))
theorem Pu (κ : Kp) : ah (Mk κ) := (RW κ).aj (ju aG aG)
theorem kz {ds rs : List AV} (h : (gA ds rs).2 = 0) : rf ds rs := by
 have h1 := (BB.1 h).1
 simp only [ez, aa1, aa0, List.all_eq_true] at h1
 refine ⟨h1.1.1.1, h1.1.1.2, fun r hr => ?_, OD h⟩
 have h2 := h1.2 r hr
 simp only [mK, aM, aa1, aa0] at h2
 have h3 := h2.1.1.2
 simpa [rm, cu] using h3
theorem GF {ds rs : List AV} (hs : iU ds rs) (h : (gA ds rs).2 = 0) : ∀ r, r ∈ rs → zr ds.length ds r := by
 intro r hr
 have h1 := yR h hr
 refine ⟨h1.1, h1.2, ?_, hs.2.2 r hr⟩
 have := (kz h).bs r hr
 simp only [aL]; omega
def sX (ds rs : List AV) : Int × Int := bif decide ((gA ds rs).2 = 0) then ry ds.length (jy ds rs) (mw ds rs) ds rs else gA ds rs
def Fe (ds rs : List AV) : List (List Int) := q8 ds.length (jy ds rs) (mw ds rs) []
theorem Wy (κ : Kp) (ds rs : List AV) (K : AV → List Dn.Obj → Prop) : (bh (Mk κ) 12 15 [iK ds rs] [] K) = (
 letI z1 := AV.agg [AV.aB 1 0 0, AV.nil]
 letI z2 := Pg.toProgram (Env.P (A1 κ))
 ∃ (a : qB), ([AV.agg [AV.ae 62 ds, AV.ae 41 rs]], aF) = ([AV.agg [AV.ae 62 a.1, AV.ae 41 a.2]], aF) ∧ (a.1.length ≤ 9223372036854775807 ∧ a.2.length ≤
 9223372036854775807 ∧ ∀ (x : AV), List.Mem x a.2 → aX (aa (aV 52 (bQ.hl (eF x)) (bQ.bl (eF x)))) ≤ 100000 ∧ List.length (bQ.bl (eF x)) ≤ 100000) ∧ aD (Prod.snd
 (gA a.1 a.2) != (0 : Int)) (K (AV.bj [AV.nil, AV.int (Prod.fst (gA a.1 a.2)), AV.int (Prod.snd (gA a.1 a.2))]) []) (∃ (a : qB), ([AV.agg [AV.ae 62 ds, AV.ae 41
 rs]], aF) = ([AV.agg [AV.ae 62 a.1, AV.ae 41 a.2]], aF) ∧ rf a.1 a.2 ∧ aD (Nat.beq a.1.length 0) (∃ (a_1 : MP), ([AV.ptr 0 0 [] 0, AV.agg [AV.ae 62 ds, AV.ae 41
 rs]], [Obj.box 82 (AV.agg [AV.aB 1 0 a.1.length, AV.nil]), Obj.rows 48 3 (cB (mw a.1 a.2)) none]) = ([AV.ptr 0 0 [] 0, AV.agg [AV.ae 62 a_1.ds, AV.ae 41 []]],
 [Obj.box 82 z1, Obj.rows 48 3 a_1.ls none]) ∧ True ∧ ∃ (a : Js), ([AV.ptr 0 0 [] 0, AV.mp 2], [Obj.box 82 z1, Obj.rows 48 3 a_1.ls none, Dn.Obj.map 3 4 []]) =
 ([AV.ptr 0 0 [] 0, AV.mp 2], [Obj.box 82 z1, Obj.rows 48 3 a.ls none, Dn.Obj.map 3 4 a.es]) ∧ True ∧ ag z2 15 11 = ag z2 15 11 ∧ ∃ (a_2 : Js), sp 63 [(7, AV.ptr
 0 0 [] 0), (10, AV.aB 2 0 0), (11, AV.mp 3), (12, AV.int (-1))] [Obj.box 82 z1, Obj.rows 48 3 a.ls none, Obj.row 48 [], Dn.Obj.map 3 4 a.es] = sp 63 [(7, AV.ptr
 0 0 [] 0), (10, AV.aB 2 0 0), (11, AV.mp 3), (12, AV.int (-1))] [Obj.box 82 z1, Obj.rows 48 3 a_2.ls none, Obj.row 48 [], Dn.Obj.map 3 4 a_2.es] ∧ True ∧ K
 (AV.bj [AV.aB 0 0 0, AV.int 0, AV.int 0]) [Obj.row 48 []]) (∃ (a_1 : KK), ([AV.ptr 0 0 [] 0, AV.agg [AV.ae 62 ds, AV.ae 41 rs]], [Obj.box 82 (AV.agg [AV.aB 1 0
 a.1.length, AV.aB 2 0 (List.length (a6 a.1.length (jy a.1 a.2) (mw a.1 a.2) a.1.length))]), Obj.rows 48 3 (cB (mw a.1 a.2)) none, Obj.row 68 (a6 a.1.length (jy
 a.1 a.2) (mw a.1 a.2) a.1.length)]) = ([AV.ptr 0 0 [] 0, AV.agg [AV.ae 62 a_1.ds, AV.ae 41 a_1.rs]], [Obj.box 82 (AV.agg [AV.aB 1 0 a_1.n, AV.aB 2 0
 (List.length (a6 a_1.n a_1.m a_1.L a_1.n))]), Obj.rows 48 3 (cB a_1.L) none, Obj.row 68 (a6 a_1.n a_1.m a_1.L a_1.n)]) ∧ (a_1.ds.length ≤ 9223372036854775807 ∧
 a_1.rs.length ≤ 9223372036854775807 ∧ ∀ (r : AV), List.Mem r a_1.rs → zr a_1.n a_1.ds r) ∧ aD (Prod.snd (ry a_1.n a_1.m a_1.L a_1.ds a_1.rs) != (0 : Int)) (K
 (AV.bj [AV.nil, AV.int (Prod.fst (ry a_1.n a_1.m a_1.L a_1.ds a_1.rs)), AV.int (Prod.snd (ry a_1.n a_1.m a_1.L a_1.ds a_1.rs))]) []) (∃ (a : CW), ([AV.ptr 0 0
 [] 0, AV.mp 3], [Obj.box 82 (AV.agg [AV.aB 1 0 a_1.n, AV.aB 2 0 (List.length (a6 a_1.n a_1.m a_1.L a_1.n))]), Obj.rows 48 3 (cB a_1.L) none, Obj.row 68 (a6
 a_1.n a_1.m a_1.L a_1.n), Dn.Obj.map 3 4 []]) = ([AV.ptr 0 0 [] 0, AV.mp 3], [Obj.box 82 (AV.agg [AV.aB 1 0 a.n, AV.aB 2 0 (List.length (a6 a.n a.m a.L a.n))]),
 Obj.rows 48 3 (cB a.L) none, Obj.row 68 (a6 a.n a.m a.L a.n), Dn.Obj.map 3 4 (gb a.done)]) ∧ (WG a.n a.m a.L ∧ a.n ≤ 60) ∧ ag z2 15 11 = ag z2 15 11 ∧ ∃ (a_2 :
 Py), sp 63 [(7, AV.ptr 0 0 [] 0), (10, AV.aB 3 0 0), (11, AV.mp 4), (12, AV.int (fE a.n a.m a.L a.done))] [Obj.box 82 (AV.agg [AV.aB 1 0 a.n, AV.aB 2 0
 (List.length (a6 a.n a.m a.L a.n))]), Obj.rows 48 3 (cB a.L) none, Obj.row 68 (a6 a.n a.m a.L a.n), Obj.row 48 [], Dn.Obj.map 3 4 (gb a.done)] = sp 63 [(7,
 AV.ptr 0 0 [] 0), (10, AV.aB 3 0 (List.length (kD a_2.gs))), (11, AV.mp 4), (12, AV.int (fE a_2.n a_2.m a_2.L a_2.done))] [Obj.box 82 (AV.agg [AV.aB 1 0 a_2.n,
 AV.aB 2 0 (List.length (a6 a_2.n a_2.m a_2.L a_2.n))]), Obj.rows 48 3 (cB a_2.L) none, Obj.row 68 (a6 a_2.n a_2.m a_2.L a_2.n), Obj.row 48 (kD a_2.gs),
 Dn.Obj.map 3 4 (gb a_2.done)] ∧ (WG a_2.n a_2.m a_2.L ∧ a_2.n ≤ 60 ∧ a_2.gs.length + yf a_2.n a_2.done ≤ a_2.n) ∧ K (AV.bj [AV.aB 0 0 (List.length (kD (a_2.gs
 ++ q8 a_2.n a_2.m a_2.L a_2.done))), AV.int 0, AV.int 0]) [Obj.row 48 (kD (a_2.gs ++ q8 a_2.n a_2.m a_2.L a_2.done))])))) := by kernel_rfl
def Ee (x : qB) : List AV × List Dn.Obj := ([iK x.1 x.2], [])
def HO (x : qB) : Prop := iU x.1 x.2
def B8 (x : qB) : Out (AV × List Dn.Obj) := .aD (decide ((sX x.1 x.2).2 = 0))
 (.one (.bj [.aB 0 0 (kD (Fe x.1 x.2)).length, .int 0, .int 0], [.row 48 (kD (Fe x.1 x.2))]))
 (.one (.bj [.nil, .int (sX x.1 x.2).1, .int (sX x.1 x.2).2], []))
theorem QS (κ : Kp) : bu (Mk κ) 12 15 (aW Ee HO B8) := by
 refine ba ?_
 rintro ⟨ds, rs⟩ K hs ho
 refine Eq.mpr (Wy κ ds rs K) ?_
 have ho : aD (decide ((sX ds rs).2 = 0)) (K (.bj [.aB 0 0 (kD (Fe ds rs)).length, .int 0, .int 0]) [.row 48 (kD (Fe ds rs))]) (K (.bj [.nil, .int (sX ds rs).1, .int (sX ds rs).2]) []) := ho
 rw [af, aa0, aa2] at ho
 have hs : iU ds rs := hs
 refine ⟨(ds, rs), rfl, hs, ?_⟩
 rw [af]
 by_cases hc : (gA ds rs).2 = 0
 ·refine ⟨fun e => absurd hc (by simpa using e), fun _ => ⟨(ds, rs), rfl, kz hc, ?_⟩⟩
  have hf := kz hc
  have hg := GF hs hc
  rw [show sX ds rs = ry ds.length (jy ds rs) (mw ds rs) ds rs by unfold sX; rw [aa6 hc]; rfl] at ho
  rw [af]
  refine ⟨fun e => ?_, fun e => ?_⟩
  ·obtain rfl : ds = [] := List.eq_nil_of_length_eq_zero (Nat.eq_of_beq_eq_true e)
   obtain rfl : rs = [] := by
    cases rs with
    | nil => rfl
    | cons r rs => have := (hg r (by simp)).hd; simp only [List.length_nil] at this; omega
   refine ⟨⟨cB (mw [] []), []⟩, rfl, trivial, ⟨_, []⟩, rfl, trivial, rfl, ⟨_, _⟩, rfl, trivial, ?_⟩
   have h1 := ho.1 rfl
   have h2 : Fe [] [] = [] := by
    unfold Fe
    rw [y6]; rfl
   rw [h2] at h1
   exact h1
  ·refine ⟨⟨ds.length, jy ds rs, mw ds rs, ds, rs, 0⟩, rfl, ⟨hs.1, hs.2.1, hg⟩, ?_⟩
   rw [af]
   refine ⟨fun e2 => ho.2 (by simpa using e2), fun e2 => ?_⟩
   have h1 := ho.1 (by simpa using e2)
   exact ⟨⟨ds.length, jy ds rs, mw ds rs, [], 0, []⟩, rfl, ⟨hf.wg, hf.hd⟩, rfl, ⟨ds.length, jy ds rs, mw ds rs, [], []⟩, rfl, ⟨hf.wg, hf.hd, by simp only [List.length_nil, Nat.zero_add]; exact Im _ _⟩, h1⟩
 ·rw [show sX ds rs = gA ds rs by unfold sX; rw [aa4 hc]; rfl] at ho
  exact ⟨fun _ => ho.2 hc, fun e => absurd (by simpa using e) hc⟩
noncomputable def NM (κ : Kp) : Env := (Mk κ).au 15 (aW Ee HO B8)
theorem Wp (κ : Kp) : ay (NM κ) := (Tj κ).au (Pu κ) (QS κ)
theorem R6 (κ : Kp) : ah (NM κ) := (Pu κ).au aH
theorem Xp (κ : Kp) (ds rs : List AV) (a b : Int) (K : AV → List Dn.Obj → Prop) : (bh (NM κ) 12 18 [iK ds rs, .int a, .int b] [] K) = (
 letI z1 := (0 : Int)
 ∃ (a_1 : On), ([AV.agg [AV.ae 62 ds, AV.ae 41 rs], AV.int a, AV.int b, AV.int (↑(ds.length) : Int)], aF) = ([AV.agg [AV.ae 62 a_1.ds, AV.ae 41 a_1.rs], AV.int
 a_1.a, AV.int a_1.b, AV.int a_1.n], aF) ∧ (a_1.ds.length ≤ 9223372036854775807 ∧ a_1.rs.length ≤ 9223372036854775807 ∧ ∀ (x : AV), List.Mem x a_1.rs → aX (aa
 (aV 52 (bQ.hl (eF x)) (bQ.bl (eF x)))) ≤ 100000 ∧ List.length (bQ.bl (eF x)) ≤ 100000) ∧ aD (uz a_1.ds a_1.rs a_1.a a_1.b a_1.n != z1) (K (AV.bj [AV.bool false,
 AV.int (uz a_1.ds a_1.rs a_1.a a_1.b a_1.n)]) []) (∃ (a_2 : qB), ([AV.agg [AV.ae 62 ds, AV.ae 41 rs]], aF) = ([AV.agg [AV.ae 62 a_2.1, AV.ae 41 a_2.2]], aF) ∧
 rf a_2.1 a_2.2 ∧ aD (Nat.beq a_2.1.length 0) (∃ (a_3 : I7), ([AV.ptr 0 0 [] 0, AV.int a, AV.int b], [Obj.box 82 (AV.agg [AV.aB 1 0 a_2.1.length, AV.nil]),
 Obj.rows 48 3 (cB (mw a_2.1 a_2.2)) none]) = ([AV.ptr 0 0 [] 0, AV.int a_3.a, AV.int a_3.b], [Obj.box 82 (AV.agg [AV.aB 1 0 a_3.n, AV.aB 2 0 (List.length (a6
 a_3.n a_3.m a_3.L a_3.n))]), Obj.rows 48 3 (cB a_3.L) none, Obj.row 68 (a6 a_3.n a_3.m a_3.L a_3.n)]) ∧ ((z1 ≤ a_3.a ∧ a_3.a < (↑(a_3.n) : Int)) ∧ z1 ≤ a_3.b ∧
 a_3.b < (↑(a_3.n) : Int)) ∧ K (AV.bj [AV.bool (fm a_3.n a_3.m a_3.L a_3.a a_3.b), AV.int 0]) []) (∃ (a_3 : I7), ([AV.ptr 0 0 [] 0, AV.int a, AV.int b], [Obj.box
 82 (AV.agg [AV.aB 1 0 a_2.1.length, AV.aB 2 0 (List.length (a6 a_2.1.length (jy a_2.1 a_2.2) (mw a_2.1 a_2.2) a_2.1.length))]), Obj.rows 48 3 (cB (mw a_2.1
 a_2.2)) none, Obj.row 68 (a6 a_2.1.length (jy a_2.1 a_2.2) (mw a_2.1 a_2.2) a_2.1.length)]) = ([AV.ptr 0 0 [] 0, AV.int a_3.a, AV.int a_3.b], [Obj.box 82
 (AV.agg [AV.aB 1 0 a_3.n, AV.aB 2 0 (List.length (a6 a_3.n a_3.m a_3.L a_3.n))]), Obj.rows 48 3 (cB a_3.L) none, Obj.row 68 (a6 a_3.n a_3.m a_3.L a_3.n)]) ∧
 ((z1 ≤ a_3.a ∧ a_3.a < (↑(a_3.n) : Int)) ∧ z1 ≤ a_3.b ∧ a_3.b < (↑(a_3.n) : Int)) ∧ K (AV.bj [AV.bool (fm a_3.n a_3.m a_3.L a_3.a a_3.b), AV.int 0]) []))) := by kernel_rfl
structure AQ where
 ds : List AV
 rs : List AV
 a : Int
 b : Int
def Mr (ds rs : List AV) (a b : Int) : Bool := fm ds.length (jy ds rs) (mw ds rs) a b
def IX (x : AQ) : List AV × List Dn.Obj := ([iK x.ds x.rs, .int x.a, .int x.b], [])
def xk (x : AQ) : Prop := iU x.ds x.rs
def lE (ds rs : List AV) (a b : Int) : Int := uz ds rs a b ds.length
def iR (ds rs : List AV) (a b : Int) : Bool := decide (uz ds rs a b ds.length = 0) && Mr ds rs a b
def Ij (x : AQ) : Out (AV × List Dn.Obj) := .one (.bj [.bool (iR x.ds x.rs x.a x.b), .int (lE x.ds x.rs x.a x.b)], [])
theorem rI {ds rs : List AV} {a b n : Int} (h : uz ds rs a b n = 0) : (gA ds rs).2 = 0 ∧ (0 ≤ a ∧ a < n) ∧ 0 ≤ b ∧ b < n := by
 unfold uz at h
 by_cases hc : (gA ds rs).2 = 0
 ·rw [aa6 hc, aa7] at h
  cases e : Fo a b n with
  | true =>
   simp only [Fo, aa1, aa0] at e
   exact ⟨hc, e⟩
  | false => rw [e] at h; cases h
 ·rw [aa4 hc, aa5] at h
  exact absurd h hc
theorem Yz (κ : Kp) : bu (NM κ) 12 18 (aW IX xk Ij) := by
 refine ba ?_
 rintro ⟨ds, rs, a, b⟩ K hs ho
 refine Eq.mpr (Xp κ ds rs a b K) ?_
 simp only [Ij, Out.run, iR, lE] at ho
 refine ⟨⟨ds, rs, a, b, ds.length⟩, rfl, hs, ?_⟩
 rw [af]
 refine ⟨fun e => ?_, fun e => ?_⟩
 ·have e : uz ds rs a b ds.length ≠ 0 := by simpa using e
  rw [aa4 e, Bool.false_and] at ho
  exact ho
 ·have e : uz ds rs a b ds.length = 0 := by simpa using e
  obtain ⟨hc, ha, hb⟩ := rI e
  rw [e] at ho
  have hf := kz hc
  refine ⟨(ds, rs), rfl, hf, ?_⟩
  rw [af]
  refine ⟨fun e2 => ?_, fun _ => ⟨⟨ds.length, jy ds rs, mw ds rs, a, b⟩, rfl, ⟨ha, hb⟩, ho⟩⟩
  have := Nat.eq_of_beq_eq_true e2
  simp only at this; omega
noncomputable def NS (κ : Kp) : Env := (NM κ).au 18 (aW IX xk Ij)
theorem YX (κ : Kp) : ay (NS κ) := (Wp κ).au (R6 κ) (Yz κ)
theorem Sv (κ : Kp) : ah (NS κ) := (R6 κ).au aH
theorem X3 (κ : Kp) (ds rs : List AV) (a b : Int) (K : AV → List Dn.Obj → Prop) : (bh (NS κ) 12 19 [iK ds rs, .int a, .int b] [] K) = (
 ∃ (a_1 : On), ([AV.agg [AV.ae 62 ds, AV.ae 41 rs], AV.int a, AV.int b, AV.int (↑(ds.length) : Int)], aF) = ([AV.agg [AV.ae 62 a_1.ds, AV.ae 41 a_1.rs],
 AV.int a_1.a, AV.int a_1.b, AV.int a_1.n], aF) ∧ (a_1.ds.length ≤ 9223372036854775807 ∧ a_1.rs.length ≤ 9223372036854775807 ∧ ∀ (x : AV), List.Mem x a_1.rs →
 aX (aa (aV 52 (bQ.hl (eF x)) (bQ.bl (eF x)))) ≤ 100000 ∧ List.length (bQ.bl (eF x)) ≤ 100000) ∧ aD (uz a_1.ds a_1.rs a_1.a a_1.b a_1.n != (0 :
 Int)) (K (AV.bj [AV.bool false, AV.int (uz a_1.ds a_1.rs a_1.a a_1.b a_1.n)]) []) (∃ (a_2 : qB), ([AV.agg [AV.ae 62 ds, AV.ae 41 rs]], aF) = ([AV.agg
 [AV.ae 62 a_2.1, AV.ae 41 a_2.2]], aF) ∧ rf a_2.1 a_2.2 ∧ aD (Nat.beq a_2.1.length 0) (bg (decide ((0 : Int) ≤ a) && decide (a < (↑(a_2.1.length) :
 Int))) (bg (decide (List.length (List.map AV.lit (List.take (List.length (bw (cB (mw a_2.1 a_2.2)) a.toNat)) (bw (cB (mw a_2.1 a_2.2)) a.toNat))) ≤
 9223372036854775807)) (K (AV.bj [AV.bool (MY b (List.map AV.lit (List.take (List.length (bw (cB (mw a_2.1 a_2.2)) a.toNat)) (bw (cB (mw a_2.1 a_2.2))
 a.toNat)))), AV.int 0]) []))) (bg (decide ((0 : Int) ≤ a) && decide (a < (↑(a_2.1.length) : Int))) (bg (decide (List.length (List.map AV.lit (List.take
 (List.length (bw (cB (mw a_2.1 a_2.2)) a.toNat)) (bw (cB (mw a_2.1 a_2.2)) a.toNat))) ≤ 9223372036854775807)) (K (AV.bj [AV.bool (MY b (List.map
 AV.lit (List.take (List.length (bw (cB (mw a_2.1 a_2.2)) a.toNat)) (bw (cB (mw a_2.1 a_2.2)) a.toNat)))), AV.int 0]) []))))) := by kernel_rfl
def V7 (ds rs : List AV) (a b : Int) : Bool := (Gr.at (mw ds rs) a).contains b
def St (ds rs : List AV) (a b : Int) : Bool := decide (uz ds rs a b ds.length = 0) && V7 ds rs a b
def HH (x : AQ) : Out (AV × List Dn.Obj) := .one (.bj [.bool (St x.ds x.rs x.a x.b), .int (lE x.ds x.rs x.a x.b)], [])
theorem Ve (κ : Kp) : bu (NS κ) 12 19 (aW IX xk HH) := by
 refine ba ?_
 rintro ⟨ds, rs, a, b⟩ K hs ho
 refine Eq.mpr (X3 κ ds rs a b K) ?_
 simp only [HH, Out.run, St, lE] at ho
 refine ⟨⟨ds, rs, a, b, ds.length⟩, rfl, hs, ?_⟩
 rw [af]
 refine ⟨fun e => ?_, fun e => ?_⟩
 ·have e : uz ds rs a b ds.length ≠ 0 := by simpa using e
  rw [aa4 e, Bool.false_and] at ho
  exact ho
 ·have e : uz ds rs a b ds.length = 0 := by simpa using e
  obtain ⟨hc, ha, hb⟩ := rI e
  rw [e] at ho
  have hf := kz hc
  refine ⟨(ds, rs), rfl, hf, ?_⟩
  rw [af]
  refine ⟨fun e2 => ?_, fun _ => ?_⟩
  ·have := Nat.eq_of_beq_eq_true e2
   simp only at this; omega
  ·have h1 := hf.wg.le a
   have h2 := hf.le
   have h3 : jy ds rs ≤ (ds.length + 1) * jy ds rs := Nat.le_mul_of_pos_left _ (Nat.succ_pos _)
   rw [wi, Gt, gU, ax, ax, aa1, aa0, aa0, aa0]
   exact ⟨ha, (by show (Gr.at (mw ds rs) a).length ≤ _; omega), ho⟩
noncomputable def O7 (κ : Kp) : Env := (NS κ).au 19 (aW IX xk HH)
theorem U6 (κ : Kp) : ay (O7 κ) := (YX κ).au (Sv κ) (Ve κ)
theorem RC (κ : Kp) : ah (O7 κ) := (Sv κ).au aH
end Go.Proofs.YtdpmikfheebicaaGreatDoor
namespace Go.Rl
open Go Go.Dn
section
variable {n m m' : Nat} {L M : Gr}
structure To (n m : Nat) (L : Gr) (done : List Int) (gs : List (List Int)) : Prop where
 ZM : ∀ g, g ∈ gs → g.Pairwise (· < ·)
 lb : ∀ c, c ∈ gs.flatten → (0 ≤ c ∧ c < n) ∧ c ∉ done
 all : ∀ c : Int, 0 ≤ c → c < n → c ∉ done → c ∈ gs.flatten
 rh : gs.flatten.Nodup
end
end Go.Rl
namespace Go.Proofs.YtdpmikfheebicaaGreatDoor
open Go Go.Dn Go.Rl Go.Proofs
theorem Cx {n m : Nat} {L : Gr} {ds : List AV} : ∀ {rs : List AV}, (ry n m L ds rs).2 = 0 ↔ ∀ r, r ∈ rs → yg fR n m L ds r = false ∧ (tM r && yg gh n m L ds r) = false
 | [] => by simp [ry]
 | r :: rs => by
  rw [ry]
  cases e : yg fR n m L ds r with
  | true =>
   rw [aa7]
   exact ⟨fun h => by simp at h, fun h => by have := (h r (by simp)).1; rw [e] at this; cases this⟩
  | false =>
   rw [aa5]
   cases e2 : tM r && yg gh n m L ds r with
   | true =>
    rw [aa7]
    exact ⟨fun h => by simp at h, fun h => by have := (h r (by simp)).2; rw [e2] at this; cases this⟩
   | false =>
    rw [aa5, Cx]
    refine ⟨fun h x hx => ?_, fun h x hx => h x (by simp [hx])⟩
    rcases List.mem_cons.1 hx with rfl | hx
    ·exact ⟨e, e2⟩
    ·exact h x hx
theorem LC {ds rs : List AV} : (sX ds rs).2 = 0 ↔ (gA ds rs).2 = 0 ∧ (ry ds.length (jy ds rs) (mw ds rs) ds rs).2 = 0 := by
 unfold sX
 by_cases h : (gA ds rs).2 = 0
 ·rw [aa6 h, aa7]; simp [h]
 ·rw [aa4 h, aa5]; simp [h]
theorem GQ (a b n : Int) : Fo a b n = Fo b a n := by unfold Fo; rw [Bool.and_comm]
theorem zS (ds rs : List AV) (a b n : Int) : uz ds rs a b n = uz ds rs b a n := by unfold uz; rw [GQ]
theorem ET (ds rs : List AV) (a b : Int) : Mr ds rs a b = Mr ds rs b a := HV _ _ _ _ _
theorem NV {ds rs : List AV} {a b n : Int} (hc : (gA ds rs).2 = 0) (ha : 0 ≤ a ∧ a < n) (hb : 0 ≤ b ∧ b < n) : uz ds rs a b n = 0 := by
 unfold uz
 rw [aa6 hc, aa7, show Fo a b n = true by simp [Fo, ha, hb]]; rfl
theorem IC (ds rs : List AV) (a b : Int) : iR ds rs a b = iR ds rs b a := by unfold iR; rw [zS, ET]
theorem Fm {ds rs : List AV} {a b c : Int} (h : iR ds rs a b = true) (k : iR ds rs b c = true) : iR ds rs a c = true := by
 simp only [iR, aa1, aa0] at h k ⊢
 obtain ⟨hc, ha, hb⟩ := rI h.1
 obtain ⟨_, _, hd⟩ := rI k.1
 exact ⟨NV hc ha hd, DX (kz hc).wg ha.1 hb.1 hd.1 h.2 k.2⟩
theorem Gc {ds rs : List AV} {a : Int} (h : uz ds rs a a ds.length = 0) : iR ds rs a a = true := by
 simp only [iR, aa1, aa0]
 exact ⟨h, zA _ _ _ _⟩
theorem GR (ds rs : List AV) (a b : Int) : lE ds rs a b = lE ds rs b a := zS ds rs a b _
theorem yu {ds rs : List AV} (h : iL ds rs = true) : iU ds rs := by
 simp only [iL, aa1, aa0] at h
 obtain ⟨_, h1, h2, h3⟩ := h
 refine ⟨by simp only [aL]; omega, by simp only [aL]; omega, fun x hx => ?_⟩
 have hc := vM (rs.map rm) 2000 (by omega) h1 (rm x) (List.mem_map_of_mem hx)
 have e : rm x = aI (eF x) := rfl
 rw [e, gw] at hc
 have hc : qG (aI (eF x)) + (eF x).bl.length ≤ 2000 := by omega
 refine ⟨?_, by omega⟩
 rw [tV 52 (eF x).rel (eF x).hl (eF x).bl]
 have : qG (aI (eF x)) ≤ 2000 := by omega
 exact Nat.le_trans this (by omega)
theorem GX {ds rs : List AV} (h1 : ds.length ≤ aL) (h2 : ∀ d, d ∈ ds → (ai (ad d 1)).length ≤ aL) {p q : Prop} (hp : p) (hq : iL ds rs = true → q) :
  bg (decide (ds.length ≤ aL) && ds.all fun d => decide ((ai (ad d 1)).length ≤ aL)) (aD ((bif iL ds rs then (1 : Int) else 0) == 0) p q) := by
 refine ax.2 ⟨?_, ?_⟩
 ·rw [aa1, aa0, List.all_eq_true]
  exact ⟨h1, fun d hd => aa6 (h2 d hd)⟩
 ·cases hs : iL ds rs with
  | false => exact hp
  | true => exact hq hs
end Go.Proofs.YtdpmikfheebicaaGreatDoor
namespace Go.Proofs.YtdpmikfheebicaaGreatDoor
open Go Go.Dn Go.Rl Go.Proofs
attribute [local irreducible] bh vc
set_option maxRecDepth 20000
theorem Ri (κ : Kp) (K : AV → List Dn.Obj → Prop) : (bh (O7 κ) 12 35 [] [] K) = (
 K (AV.ae 62 [AV.agg [AV.str { data := #[OfNat.ofNat 101] }, AV.ae 9 [AV.str { data := #[OfNat.ofNat 97] }], AV.ae 3 [AV.int 1], AV.bool false, AV.bool false,
 AV.int 0], AV.agg [AV.str { data := #[OfNat.ofNat 112] }, AV.ae 9 [AV.str { data := #[OfNat.ofNat 97] }], AV.ae 3 [AV.int 1], AV.bool false, AV.bool false,
 AV.int 0]]) []) := by kernel_rfl
def O4 : ByteArray := ⟨#[101]⟩
def Mf : ByteArray := ⟨#[97]⟩
def O0 : ByteArray := ⟨#[112]⟩
def K8 (s : ByteArray) : AV := .agg [.lit (.string s), .ae 9 [.lit (.string Mf)], .ae 3 [.int 1], .bool false, .bool false, .int 0]
def LF : List AV → Option (Bool × AV)
 | [] => some (true, .ae 62 [K8 O4, K8 O0])
 | _ => none
theorem QU (κ : Kp) : rE (O7 κ) 12 35 LF := by
 intro args x hh
 unfold LF at hh
 split at hh
 ·simp only [aa3, aa9, true_and] at hh
  subst hh
  exact ⟨rfl, Eq.mpr (Ri κ _) rfl⟩
 ·cases hh
def Env.pT (E : Env) (q : FuncId → Bool) : Env := { E with quiet := q }
theorem Wk {E : Env} (hE : ay E) (q : FuncId → Bool) : ay (Env.pT E q) := ⟨hE.prog, hE.gD, hE.call, hE.lb, hE.loop⟩
theorem Ox {E : Env} (hM : ah E) (q : FuncId → Bool) : ah (Env.pT E q) := ⟨hM.call, hM.loop, hM.lb⟩
noncomputable def Ja (κ : Kp) : Env := Env.pT ((O7 κ).dX 35 LF) (fun f => j6 f (35 :: 17 :: GC))
theorem UA (κ : Kp) : ay (Ja κ) := Wk ((U6 κ).dX (RC κ) (QU κ)) _
theorem SB (κ : Kp) : ah (Ja κ) := Ox ((RC κ).dX) _
theorem TI (κ : Kp) (l m : List AV) (i : Nat) (I : Nat → S → Prop) (n : Nat) (K : Exit → S → Prop) : (vc (Ja κ) 12 17 none 0 (ag (Pr κ).toProgram 17 4) (sp 29 [(0, .ae 48 l), (1, .ae 48 m), (5, .int i)] []) (bK (Ja κ) 17 4 0 I n K)) = (
 letI z1 := Int.toNat (↑i : Int)
 aD (decide ((↑i : Int) < (↑(l.length) : Int))) (bg (true && decide ((↑i : Int) < (↑(l.length) : Int))) (bg (true && decide ((↑i : Int) < (↑(m.length) : Int)))
 (bg (decide (List.length (ai (nth l z1)) ≤ 9223372036854775807)) (aD (!lF (ai (nth l z1)) (ai (nth m z1))) (K Exit.ret (sp 29 [(4, AV.bool false)] [])) (∃ (m_1
 : Nat), m_1 < n ∧ I m_1 (sp 29 [(0, AV.ae 48 l), (1, AV.ae 48 m), (5, AV.int (IntKind.wrap IntKind.i64 ((↑i : Int) + (1 : Int))))] [])))))) (K (Exit.exit 0) (sp
 29 [] []))) := by kernel_rfl
def qA (l m : List AV) : Bool := decide (l.map (fun x => (ai x).map toInt) = m.map fun x => (ai x).map toInt)
def Ik (l : List AV) : Bool := decide (l.length ≤ aL) && l.all fun x => decide ((ai x).length ≤ aL)
structure PG where
 l : List AV
 m : List AV
 i : Nat
abbrev Pk (x : PG) : S := sp 29 [(0, .ae 48 x.l), (1, .ae 48 x.m), (5, .int x.i)] []
def Gz (x : PG) : Prop := x.l.length = x.m.length ∧ Ik x.l = true ∧ x.i ≤ x.l.length
def DP (x : PG) : Out (Exit × S) := .aD (qA (x.l.drop x.i) (x.m.drop x.i)) (.one (.exit 0, sp 29 [] [])) (.one (.ret, sp 29 [(4, .bool false)] []))
theorem X8 (κ : Kp) : bq (Ja κ) 12 17 4 (aO 0 Pk Gz DP) := by
 refine aR (fun x => x.l.length - x.i) ?_
 rintro ⟨l, m, i⟩ K ⟨h1, h2, h3⟩ ho
 simp only at h1 h2 h3
 rw [show (Ja κ).P = Pr κ from rfl]
 refine Eq.mpr (TI κ l m i _ _ K) ?_
 have h2' := h2
 rw [Ik, aa1, List.all_eq_true] at h2'
 have hm := of_decide_eq_true h2'.1
 simp only [aL] at hm
 simp only [DP, Out.run, af] at ho
 simp only [af, ax, aa0, aa2, ab9, Int.toNat_natCast]
 refine ⟨fun hi => ⟨hi, by omega, ?_, ?_⟩, fun hi => ?_⟩
 ·have hx : nth l i ∈ l := by rw [br _ _ (show i < l.length by omega)]; exact List.getElem_mem _
  exact of_decide_eq_true (h2'.2 _ hx)
 ·rw [ab1 (show i < l.length by omega), ← br l i (by omega), ab1 (show i < m.length by omega), ← br m i (by omega)] at ho
  refine ⟨fun e => ho.2 ?_, fun e => ?_⟩
  ·have e : lF (ai (nth l i)) (ai (nth m i)) = false := by simpa using e
   simp only [lF, aa2] at e
   simp only [qA, ac0, List.cons.injEq, aa2, not_and]
   exact fun h => absurd h e
  ·have e : lF (ai (nth l i)) (ai (nth m i)) = true := by simpa using e
   simp only [lF, aa0] at e
   rw [a8 (n := (i : Int) + 1) (by omega) (by omega)]
   refine ⟨_, ?_, ⟨l, m, i + 1⟩, rfl, ⟨h1, h2, by simp only; omega⟩, rfl, ?_⟩
   ·simp only; omega
   ·simp only [DP, Out.run, af]
    simpa [qA, e] using ho
 ·rw [aa8 (by omega), aa8 (by omega)] at ho
  exact ho.1 rfl
noncomputable def Ns (κ : Kp) : Env := (Ja κ).aj 17 4 (aO 0 Pk Gz DP)
theorem Yc (κ : Kp) : ay (Ns κ) := (UA κ).aj (SB κ) (X8 κ)
theorem RE (κ : Kp) : ah (Ns κ) := (SB κ).aj aG
theorem VE (κ : Kp) (l m : List AV) (K : AV → List Dn.Obj → Prop) : (bh (Ns κ) 12 17 [.ae 48 l, .ae 48 m] [] K) = (
 letI z1 := Pg.toProgram (Env.P (Ja κ))
 aD ((↑(l.length) : Int) != (↑(m.length) : Int)) (K (AV.bool false) []) (ag z1 17 4 = ag z1 17 4 ∧ ∃ (a : PG), sp 29 [(0, AV.ae 48 l), (1, AV.ae 48 m), (5,
 AV.int 0)] [] = sp 29 [(0, AV.ae 48 a.l), (1, AV.ae 48 a.m), (5, AV.int (↑(a.i) : Int))] [] ∧ (a.l.length = a.m.length ∧ Ik a.l = true ∧ a.i ≤ a.l.length) ∧ aD
 (qA (List.drop a.i a.l) (List.drop a.i a.m)) (K (AV.bool true) []) (K (AV.bool false) []))) := by kernel_rfl
def Qe : List AV → Option (Bool × AV)
 | [.ae 48 l, .ae 48 m] => some (Ik l, .bool (qA l m))
 | _ => none
theorem ZD (κ : Kp) : cx (Ns κ) 12 17 Qe := by
 intro args x hh
 unfold Qe at hh
 split at hh
 ·rename_i l m
  simp only [aa3, aa9] at hh
  obtain ⟨h1, rfl⟩ := hh
  refine ⟨_, rfl, rfl, ?_⟩
  refine Eq.mpr (VE κ l m _) ?_
  simp only [af, bne_iff_ne, bne_eq_false_iff_eq]
  refine ⟨fun e => ?_, fun e => ⟨trivial, ⟨l, m, 0⟩, rfl, ⟨by simp only; omega, h1, Nat.zero_le _⟩, ?_⟩⟩
  ·have : qA l m = false := by
    unfold qA
    rw [aa4]
    intro h
    have := congrArg List.length h
    simp at this; omega
   rw [this]
  ·simp only [ab0]
   exact ⟨fun e => by rw [e], fun e => by rw [e]⟩
 ·cases hh
noncomputable def PJ (κ : Kp) : Env := (Ns κ).aE 17 Qe
theorem Sf (κ : Kp) : ay (PJ κ) := (Yc κ).aE (RE κ) (ZD κ)
theorem Sk (κ : Kp) : ah (PJ κ) := (RE κ).aE
def KU : List AV → Bool
 | [.agg [_, .ae _ [.agg [_, .ae _ [_], _]]]] => true
 | _ => false
def Du (x : qB) : Prop := iU x.1 x.2 ∧ (sX x.1 x.2).2 = 0
def Hs (x : qB) : Out (AV × List Dn.Obj) := .one (.bj [.aB 0 0 (kD (Fe x.1 x.2)).length, .int 0, .int 0], [.row 48 (kD (Fe x.1 x.2))])
def Ct (x : qB) : Prop := iU x.1 x.2 ∧ (sX x.1 x.2).2 ≠ 0
def HW (x : qB) : Out (AV × List Dn.Obj) := .one (.bj [.nil, .int (sX x.1 x.2).1, .int (sX x.1 x.2).2], [])
noncomputable def Qi (κ : Kp) : Env := (Mk κ).au 15 (A4 KU (aW Ee Du Hs) (aW Ee Ct HW))
theorem WS (κ : Kp) : bu (Mk κ) 12 15 (A4 KU (aW Ee Du Hs) (aW Ee Ct HW)) := by
 refine Dq ?_ ?_
 ·rintro args st K ⟨x, h1, h2, h3⟩
  refine QS κ args st K ⟨x, h1, h2.1, ?_⟩
  simp only [B8, Out.run, af, aa0, aa2]
  exact ⟨fun _ => h3, fun e => absurd h2.2 e⟩
 ·rintro args st K ⟨x, h1, h2, h3⟩
  refine QS κ args st K ⟨x, h1, h2.1, ?_⟩
  simp only [B8, Out.run, af, aa0, aa2]
  exact ⟨fun e => absurd e h2.2, fun _ => h3⟩
theorem XB (κ : Kp) : ay (Qi κ) := (Tj κ).au (Pu κ) (WS κ)
theorem T7 (κ : Kp) : ah (Qi κ) := (Pu κ).au (uX aH aH)
def Jb (E F : Env) : Env := { E with call := F.call }
theorem KI {E F : Env} (hE : ay E) (hF : ay F) (hP : E.P = F.P) : ay (Jb E F) :=
 ⟨hE.prog, hE.gD, fun f args st K h => (show dF E.P f args st K by rw [hP]; exact hF.call f args st K h), hE.lb, hE.loop⟩
theorem Dl {E F : Env} (hE : ah E) (hF : ah F) : ah (Jb E F) := ⟨hF.call, hE.loop, hE.lb⟩
noncomputable def OY (κ : Kp) : Env := Jb (PJ κ) (Qi κ)
theorem XP (κ : Kp) : ay (OY κ) := KI (Sf κ) (XB κ) rfl
theorem Ta (κ : Kp) : ah (OY κ) := Dl (Sk κ) (T7 κ)
theorem Yy (κ : Kp) (K : AV → List Dn.Obj → Prop) : (bh (OY κ) 12 14 [] [] K) = (
 ∃ (a : qB), ([AV.agg [AV.ae 62 [AV.agg [AV.str O4, AV.ae 9 [AV.str Mf], AV.ae 3 [AV.int 1], AV.bool false, AV.bool false, AV.int 0], AV.agg [AV.str O0,
 AV.ae 9 [AV.str Mf], AV.ae 3 [AV.int 1], AV.bool false, AV.bool false, AV.int 0]], AV.ae 41 [AV.agg [AV.agg [AV.str { data := #[OfNat.ofNat 112] }, AV.ae
 52 [AV.agg [AV.int 1, AV.str { data := #[OfNat.ofNat 120] }, AV.int 0, AV.ae 52 []]]], AV.ae 55 [AV.agg [AV.int 1, AV.agg [AV.str
 {data := #[OfNat.ofNat 101] }, AV.ae 52 [AV.agg [AV.int 1, AV.str { data := #[OfNat.ofNat 120] }, AV.int 0, AV.ae 52 []]]], AV.agg [AV.int 0, AV.str
 {data := #[] }, AV.int 0, AV.nil], AV.agg [AV.int 0, AV.str { data := #[] }, AV.int 0, AV.nil]]], AV.int 0]]]], aF) = ([AV.agg [AV.ae 62 a.1, AV.ae 41
 a.2]], aF) ∧ ((a.1.length ≤ 9223372036854775807 ∧ a.2.length ≤ 9223372036854775807 ∧ ∀ (x : AV), List.Mem x a.2 → aX (aa (aV 52 (bQ.hl (eF x))
 (bQ.bl (eF x)))) ≤ 100000 ∧ List.length (bQ.bl (eF x)) ≤ 100000) ∧ Prod.snd (sX a.1 a.2) = (0 : Int)) ∧ ∃ (a_1 : qB), ([AV.agg [AV.ae 62 [AV.agg [AV.str
 O4, AV.ae 9 [AV.str Mf], AV.ae 3 [AV.int 1], AV.bool false, AV.bool false, AV.int 0], AV.agg [AV.str O0, AV.ae 9 [AV.str Mf], AV.ae 3 [AV.int 1],
 AV.bool false, AV.bool false, AV.int 0]], AV.ae 41 [AV.agg [AV.agg [AV.str { data := #[OfNat.ofNat 112] }, AV.ae 52 [AV.agg [AV.int 1, AV.str
 {data := #[OfNat.ofNat 120] }, AV.int 0, AV.ae 52 []]]], AV.ae 55 [AV.agg [AV.int 1, AV.agg [AV.str { data := #[OfNat.ofNat 101] }, AV.ae 52 [AV.agg
 [AV.int 1, AV.str { data := #[OfNat.ofNat 120] }, AV.int 0, AV.ae 52 []]]], AV.agg [AV.int 0, AV.str { data := #[] }, AV.int 0, AV.nil], AV.agg [AV.int 0,
 AV.str { data := #[] }, AV.int 0, AV.nil]], AV.agg [AV.int 2, AV.agg [AV.str { data := #[OfNat.ofNat 112] }, AV.ae 52 [AV.agg [AV.int 1, AV.str
 {data := #[OfNat.ofNat 120] }, AV.int 0, AV.ae 52 []]]], AV.agg [AV.int 0, AV.str { data := #[] }, AV.int 0, AV.nil], AV.agg [AV.int 0, AV.str
 {data := #[] }, AV.int 0, AV.nil]]], AV.int 7]]]], aF) = ([AV.agg [AV.ae 62 a_1.1, AV.ae 41 a_1.2]], aF) ∧ ((a_1.1.length ≤ 9223372036854775807 ∧
 a_1.2.length ≤ 9223372036854775807 ∧ ∀ (x : AV), List.Mem x a_1.2 → aX (aa (aV 52 (bQ.hl (eF x)) (bQ.bl (eF x)))) ≤ 100000 ∧ List.length (bQ.bl
 (eF x)) ≤ 100000) ∧ (Prod.snd (sX a_1.1 a_1.2) = (0 : Int) → False)) ∧ bg (Ik (List.take (List.length (kD (Fe a.1 a.2))) (List.drop 0 (kD (Fe a.1
 a.2))))) (aD (qA (List.take (List.length (kD (Fe a.1 a.2))) (List.drop 0 (kD (Fe a.1 a.2)))) [AV.ae 3 [AV.int 0], AV.ae 3 [AV.int 1]]) (aD (Prod.snd
 (sX a_1.1 a_1.2) == (70 : Int)) (K (AV.bool (Prod.fst (sX a_1.1 a_1.2) == (7 : Int))) []) (K (AV.bool false) [])) (K (AV.bool false) []))) := by kernel_rfl
def Kj : ByteArray := ByteArray.mk #[101]
def Vk : ByteArray := ByteArray.mk #[97]
abbrev MI : AV := .agg [.int 0, .lit (.string s0), .int 0, .nil]
abbrev PW (r s : ByteArray) : AV := .agg [.lit (.string r), .ae 52 [MM s]]
def rG : List AV := [K8 O4, K8 O0]
def II : bQ := ⟨[], [], Fu, [MM sx], [.agg [.int 1, PW Kj sx, MI, MI]], 0, 0⟩
def JJ : bQ := ⟨[], [], Fu, [MM sx], [.agg [.int 1, PW Kj sx, MI, MI], .agg [.int 2, PW Fu sx, MI, MI]], 7, 0⟩
def qe : Rl := ⟨⟨Fu, [tv sx]⟩, [⟨1, ⟨Kj, [tv sx]⟩, t0, t0⟩]⟩
def qa : Rl := ⟨⟨Fu, [tv sx]⟩, [⟨1, ⟨Kj, [tv sx]⟩, t0, t0⟩, ⟨2, ⟨Fu, [tv sx]⟩, t0, t0⟩]⟩
theorem Ly (s : ByteArray) : cz (MM s) = tv s := by rw [mo]; rfl
theorem O8 : cz MI = t0 := by rw [cy]; rfl
theorem Hb : aI II = qe := by
 simp only [aI, II, qe, aa, cu, ac0, List.map_nil, Ly, cj, AD, ad, nth, O8, ai, toInt, toStr]
theorem FP : aI JJ = qa := by
 simp only [aI, JJ, qa, aa, cu, ac0, List.map_nil, Ly, cj, AD, ad, nth, O8, ai, toInt, toStr]
theorem AK : isName Kj = true := oP _ (by decide +kernel) (by decide +kernel) (by decide +kernel)
theorem MJ : isName Vk = true := oP _ (by decide +kernel) (by decide +kernel) (by decide +kernel)
theorem yz : aM qe = true := by
 have e3 : fJ ⟨1, ⟨Kj, [tv sx]⟩, t0, t0⟩ = true := by simp [fJ, mB Kj sx AK r6, BI]
 simp [aM, qe, mB Fu sx x0 r6, e3, zU]
theorem zj : aM qa = true := by
 have e3 : fJ ⟨1, ⟨Kj, [tv sx]⟩, t0, t0⟩ = true := by simp [fJ, mB Kj sx AK r6, BI]
 have e4 : fJ ⟨2, ⟨Fu, [tv sx]⟩, t0, t0⟩ = true := by simp [fJ, mB Fu sx x0 r6, BI]
 simp [aM, qa, mB Fu sx x0 r6, e3, e4, zU]
theorem FN (s : ByteArray) (h : isName s = true) : wA (K8 s) = true := by
 have h1 : isName Mf = true := MJ
 have : xi [.lit (.string Mf)] [.int 1] = true := by
  simp only [xi, toStr, h1]; rfl
 unfold wA zo
 simp only [K8, ad, nth, toStr, ai, h, this]
 rfl
theorem Jt {x : bQ} (h : aM (aI x) = true) : ez rG [an x] = true := by
 have e1 : wA (K8 O4) = true := FN _ AK
 have e2 : wA (K8 O0) = true := FN _ x0
 have e3 : mK (an x) = true := h
 simp only [ez, rG, List.all_cons, List.all_nil, e1, e2, e3]; rfl
theorem KY {x : bQ} {r : Rl} (hr : aI x = r) (h : aM r = true) (h2 : jH r = true) (h3 : an (eF (an x)) = an x) (h4 : aI (eF (an x)) = aI x) (h5 : (ob (b8 rG) r).1 = 0) : (gA rG [an x]).2 = 0 := by
 have hR := Jt (x := x) (by rw [hr]; exact h)
 refine BB.2 ⟨hR, by decide +kernel, fun y hy => ?_, fun y hy => ?_⟩
 ·obtain rfl := List.mem_singleton.1 hy
  unfold iS pW
  rw [h3, hR, aa7]
  simp only [h4, hr]
  exact h5
 ·obtain rfl := List.mem_singleton.1 hy
  unfold jV Gk
  rw [h4, hr, h, h2]; rfl
theorem Gb : (ob (b8 rG) qe).1 = 0 := by
 have : cU qe = [sx] := by unfold cU; rw [yz, aa7]; decide +kernel
 unfold ob
 rw [this]
 decide +kernel
theorem Ig : (ob (b8 rG) qa).1 = 0 := by
 have : cU qa = [sx] := by unfold cU; rw [zj, aa7]; decide +kernel
 unfold ob
 rw [this]
 decide +kernel
theorem Mz : (gA rG [an II]).2 = 0 := KY Hb yz (by decide +kernel) rfl rfl Gb
theorem Mj : (gA rG [an JJ]).2 = 0 := KY FP zj (by decide +kernel) rfl rfl Ig
theorem M1 : (sX rG [an II]).2 = 0 := by
 refine LC.2 ⟨Mz, Cx.2 fun r hr => ?_⟩
 obtain rfl := List.mem_singleton.1 hr
 have : yg gh rG.length (jy rG [an II]) (mw rG [an II]) rG (an II) = false := by decide +kernel
 exact ⟨by decide +kernel, by rw [this, Bool.and_false]⟩
theorem Lu : sX rG [an JJ] = (7, 70) := by
 unfold sX
 rw [aa6 Mj, aa7, ry, show yg fR rG.length (jy rG [an JJ]) (mw rG [an JJ]) rG (an JJ) = true by decide +kernel]
 rfl
theorem LQ : Fe rG [an II] = [[0], [1]] := by decide +kernel
theorem G7 {x : bQ} {r : Rl} (hr : aI x = r) (h4 : aI (eF (an x)) = aI x) (h5 : (eF (an x)).hl = x.hl ∧ (eF (an x)).bl = x.bl) (hc : qG r ≤ 100000) (hl : x.bl.length ≤ 100000) : iU rG [an x] := by
 refine ⟨by decide, by simp [aL], fun y hy => ?_⟩
 obtain rfl := List.mem_singleton.1 hy
 refine ⟨?_, by rw [h5.2]; exact hl⟩
 rw [h5.1, h5.2]
 have := tV 52 x.rel x.hl x.bl
 rw [show (⟨⟨x.rel, aa x.hl⟩, cu x.bl⟩ : Rl) = aI x from rfl, hr] at this
 rw [this]; exact hc
theorem I5 : iU rG [an II] := G7 Hb rfl ⟨rfl, rfl⟩ (by decide) (by decide)
theorem Jc : iU rG [an JJ] := G7 FP rfl ⟨rfl, rfl⟩ (by decide) (by decide)
def Ra : List AV → Option (Bool × AV)
 | [] => some (true, .bool true)
 | _ => none
theorem Xx (κ : Kp) : cx (OY κ) 12 14 Ra := by
 intro args x hh
 unfold Ra at hh
 split at hh
 ·simp only [aa3, aa9, true_and] at hh
  subst hh
  refine ⟨_, rfl, rfl, ?_⟩
  refine Eq.mpr (Yy κ _) ?_
  refine ⟨(rG, [an II]), rfl, ⟨I5, M1⟩, (rG, [an JJ]), rfl, ⟨Jc, fun h => by simp only [Lu] at h; cases h⟩, ?_⟩
  simp only [LQ, Lu]
  rfl
 ·cases hh
noncomputable def PQ (κ : Kp) : Env := Jb ((OY κ).aE 14 Ra) (PJ κ)
theorem T6 (κ : Kp) : ay (PQ κ) := KI ((XP κ).aE (Ta κ) (Xx κ)) (Sf κ) rfl
theorem Vc (κ : Kp) : ah (PQ κ) := Dl ((Ta κ).aE) (Sk κ)
end Go.Proofs.YtdpmikfheebicaaGreatDoor
