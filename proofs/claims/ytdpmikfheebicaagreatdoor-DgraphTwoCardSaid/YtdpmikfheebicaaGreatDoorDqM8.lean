import Derived.Test.YtdpmikfheebicaaGreatDoorDqM7
namespace Go.Proofs.YtdpmikfheebicaaGreatDoor
open Go Go.Dn Go.Rl Go.Proofs
attribute [local irreducible] bh vc
set_option maxRecDepth 20000
theorem TO (κ : Kp) (v : Value) (K : AV → List Dn.Obj → Prop) : (bh (Ok κ) 12 96 [.lit v] [] K) = (
 letI z1 := Value.iface 189 (Value.pointer (some (Kp.arity κ)))
 letI z2 := Value.iface 189 (Value.pointer (some (Kp.type κ)))
 letI z3 := Value.iface 189 (Value.pointer (some (Kp.eC κ)))
 bg (jK κ v && j5 κ z3) (aD (fr v z3) (K (AV.int 51) []) (bg (jK κ v && j5 κ z1) (aD (fr v z1) (K (AV.int 52) []) (bg (jK κ v && j5 κ z2) (aD (fr v z2) (K
 (AV.int 53) []) (K (AV.int 0) []))))))) := by kernel_rfl
noncomputable def JE (κ : Kp) (v : Value) : Int := bif fr v (aU κ 51) then 51 else bif fr v (aU κ 52) then 52 else bif fr v (aU κ 53) then 53 else 0
theorem FZ (κ : Kp) {e : Int} (h : hJ e) : JE κ (aU κ e) = e := by
 unfold JE
 rw [fW κ h (.inr (.inl rfl)), fW κ h (.inr (.inr (.inl rfl))), fW κ h (.inr (.inr (.inr rfl)))]
 rcases h with rfl | rfl | rfl | rfl <;> rfl
noncomputable def Qp (κ : Kp) : List AV → Option (Bool × AV)
 | [.lit v] => some (jK κ v, .int (JE κ v))
 | _ => none
theorem VT (κ : Kp) : cx (Ok κ) 12 96 (Qp κ) := by
 intro args x hh
 unfold Qp at hh
 split at hh
 ·simp only [aa3, aa9] at hh
  obtain ⟨h1, rfl⟩ := hh
  refine ⟨_, rfl, rfl, ?_⟩
  obtain ⟨e, he, rfl⟩ := (sj _ _).1 h1
  refine Eq.mpr (TO κ _ _) ?_
  rw [FZ κ he]
  have k1 : ∀ k, rT k → (jK κ (aU κ e) && j5 κ (aU κ k)) = true := fun k hk => by rw [xq κ he, wF κ hk]; rfl
  have n51 : Value.iface 189 (.pointer (some κ.eC)) = aU κ 51 := rfl
  have n52 : Value.iface 189 (.pointer (some κ.arity)) = aU κ 52 := rfl
  have n53 : Value.iface 189 (.pointer (some κ.type)) = aU κ 53 := rfl
  rw [n51, n52, n53, k1 _ (.inl rfl), k1 _ (.inr (.inl rfl)), k1 _ (.inr (.inr rfl)), fW κ he (.inr (.inl rfl)), fW κ he (.inr (.inr (.inl rfl))), fW κ he (.inr (.inr (.inr rfl)))]
  rcases he with rfl | rfl | rfl | rfl <;> rfl
 ·cases hh
noncomputable def JB (κ : Kp) : Env := (Ok κ).aE 96 (Qp κ)
theorem V4 (κ : Kp) : ay (JB κ) := (V2 κ).aE (Sh κ) (VT κ)
theorem S3 (κ : Kp) : ah (JB κ) := (Sh κ).aE
structure MX where
 a : gX
 w : Int
 bl : List AV
 i : Int
noncomputable abbrev Je (κ : Kp) (x : MX) : S := sp 52 [(0, Af), (5, .lit (aU κ x.w)), (14, .ae 55 x.bl), (15, .int x.bl.length), (16, .int x.i)] (bB x.a)
theorem W8 (κ : Kp) (x : MX) (I : Nat → S → Prop) (n : Nat) (K : Exit → S → Prop) : (vc (JB κ) 12 95 none 2 (ag (Pr κ).toProgram 95 3) (Je κ x) (bK (JB κ) 95 3 2 I n K)) = (
 letI z1 := Value.iface 189 (Value.pointer (some (Kp.arity κ)))
 letI z2 := Value.iface 189 (Value.pointer (some (Kp.eC κ)))
 letI z3 := nth x.bl x.i.toNat
 letI z4 := IntKind.wrap IntKind.i64 (x.i + (1 : Int))
 letI z5 := aU κ x.w
 letI z6 := Value.iface 189 (Value.pointer (some (Kp.type κ)))
 aD (decide (x.i < (↑(x.bl.length) : Int))) (bg (decide ((0 : Int) ≤ x.i) && decide (x.i < (↑(x.bl.length) : Int))) (∃ (a : Co), ([AV.ptr 0 0 [] 0, AV.agg
 [AV.int (toInt (ad z3 0)), AV.agg [AV.str (toStr (ad (ad z3 1) 0)), AV.ae 52 (ai (ad (ad z3 1) 1))], AV.agg [AV.int (toInt (ad (ad z3 2) 0)), AV.str (toStr (ad
 (ad z3 2) 1)), AV.int (toInt (ad (ad z3 2) 2)), AV.ae 52 (ai (ad (ad z3 2) 3))], AV.agg [AV.int (toInt (ad (ad z3 3) 0)), AV.str (toStr (ad (ad z3 3) 1)),
 AV.int (toInt (ad (ad z3 3) 2)), AV.ae 52 (ai (ad (ad z3 3) 3))]]], (bB x.a)) = ([AV.ptr 0 0 [] 0, AV.agg [AV.int a.op, AV.agg [AV.str a.rel, AV.ae 52 a.l],
 AV.agg [AV.int a.u.op, AV.str a.u.s, AV.int a.u.n, AV.ae 52 a.u.l], AV.agg [AV.int a.v.op, AV.str a.v.s, AV.int a.v.n, AV.ae 52 a.v.l]]], (bB a.a)) ∧
 (List.length a.a.ds ≤ 9223372036854775807 ∧ ik (Co.lt a) ≤ 100000) ∧ bg (az z5) (aD (bz z5) (bg (jK κ (aU κ (Prod.fst (bF a))) && j5 κ z2) (aD (fr (aU κ
 (Prod.fst (bF a))) z2) (K Exit.ret (sp 52 [(4, AV.lit (aU κ (Prod.fst (bF a))))] (bB (dd a.a (Prod.snd (bF a)))))) (bg (jK κ (aU κ (Prod.fst (bF a))) && j5 κ
 z1) (aD (fr (aU κ (Prod.fst (bF a))) z1) (K Exit.ret (sp 52 [(4, AV.lit (aU κ (Prod.fst (bF a))))] (bB (dd a.a (Prod.snd (bF a)))))) (∃ (m : Nat), m < n ∧ I m
 (sp 52 [(0, AV.ptr 0 0 [] 0), (5, AV.lit (aU κ (Prod.fst (bF a)))), (14, AV.ae 55 x.bl), (15, AV.int (↑(x.bl.length) : Int)), (16, AV.int z4)] (bB (dd a.a
 (Prod.snd (bF a)))))))))) (bg (jK κ z5 && j5 κ z6) (aD (fr z5 z6) (bg (jK κ (aU κ (Prod.fst (bF a))) && j5 κ z2) (aD (fr (aU κ (Prod.fst (bF a))) z2) (bg (jK κ
 (aU κ (Prod.fst (bF a))) && j5 κ z2) (aD (fr (aU κ (Prod.fst (bF a))) z2) (K Exit.ret (sp 52 [(4, AV.lit (aU κ (Prod.fst (bF a))))] (bB (dd a.a (Prod.snd (bF
 a)))))) (bg (jK κ (aU κ (Prod.fst (bF a))) && j5 κ z1) (aD (fr (aU κ (Prod.fst (bF a))) z1) (K Exit.ret (sp 52 [(4, AV.lit (aU κ (Prod.fst (bF a))))] (bB (dd
 a.a (Prod.snd (bF a)))))) (∃ (m : Nat), m < n ∧ I m (sp 52 [(0, AV.ptr 0 0 [] 0), (5, AV.lit (aU κ (Prod.fst (bF a)))), (14, AV.ae 55 x.bl), (15, AV.int
 (↑(x.bl.length) : Int)), (16, AV.int z4)] (bB (dd a.a (Prod.snd (bF a)))))))))) (bg (jK κ (aU κ (Prod.fst (bF a))) && j5 κ z1) (aD (fr (aU κ (Prod.fst (bF a)))
 z1) (bg (jK κ (aU κ (Prod.fst (bF a))) && j5 κ z2) (aD (fr (aU κ (Prod.fst (bF a))) z2) (K Exit.ret (sp 52 [(4, AV.lit (aU κ (Prod.fst (bF a))))] (bB (dd a.a
 (Prod.snd (bF a)))))) (bg (jK κ (aU κ (Prod.fst (bF a))) && j5 κ z1) (aD (fr (aU κ (Prod.fst (bF a))) z1) (K Exit.ret (sp 52 [(4, AV.lit (aU κ (Prod.fst (bF
 a))))] (bB (dd a.a (Prod.snd (bF a)))))) (∃ (m : Nat), m < n ∧ I m (sp 52 [(0, AV.ptr 0 0 [] 0), (5, AV.lit (aU κ (Prod.fst (bF a)))), (14, AV.ae 55 x.bl), (15,
 AV.int (↑(x.bl.length) : Int)), (16, AV.int z4)] (bB (dd a.a (Prod.snd (bF a)))))))))) (bg (jK κ z5 && j5 κ z2) (aD (fr z5 z2) (K Exit.ret (sp 52 [(4, AV.lit
 z5)] (bB (dd a.a (Prod.snd (bF a)))))) (bg (jK κ z5 && j5 κ z1) (aD (fr z5 z1) (K Exit.ret (sp 52 [(4, AV.lit z5)] (bB (dd a.a (Prod.snd (bF a)))))) (∃ (m :
 Nat), m < n ∧ I m (sp 52 [(0, AV.ptr 0 0 [] 0), (5, AV.lit z5), (14, AV.ae 55 x.bl), (15, AV.int (↑(x.bl.length) : Int)), (16, AV.int z4)] (bB (dd a.a (Prod.snd
 (bF a)))))))))))))) (bg (jK κ z5 && j5 κ z2) (aD (fr z5 z2) (K Exit.ret (sp 52 [(4, AV.lit z5)] (bB (dd a.a (Prod.snd (bF a)))))) (bg (jK κ z5 && j5 κ z1) (aD
 (fr z5 z1) (K Exit.ret (sp 52 [(4, AV.lit z5)] (bB (dd a.a (Prod.snd (bF a)))))) (∃ (m : Nat), m < n ∧ I m (sp 52 [(0, AV.ptr 0 0 [] 0), (5, AV.lit z5), (14,
 AV.ae 55 x.bl), (15, AV.int (↑(x.bl.length) : Int)), (16, AV.int z4)] (bB (dd a.a (Prod.snd (bF a))))))))))))))) (K (Exit.exit 0) (sp 52 [(5, AV.lit z5)] (bB
 x.a)))) := by kernel_rfl
def gC (a : gX) (x : AV) : Co := ⟨a, toInt (ad x 0), toStr (ad (ad x 1) 0), ai (ad (ad x 1) 1), Ci (ad x 2), Ci (ad x 3)⟩
theorem zO (a : gX) (x : AV) : (gC a x).lt = cj x := by
 unfold Co.lt gC
 simp only [tC]
 rfl
theorem oh {σ : Type} {get : σ → ByteArray → Int} {set : σ → ByteArray → Int → σ} (ds : List Dc) (l : Lt) (x : σ × Bool) : hJ (jd get set ds l x).1 := by
 have hk : ∀ e, (e = 0 ∨ e = 51 ∨ e = 52) → hJ e := fun e h => by
  rcases h with rfl | rfl | rfl
  ·exact .inl rfl
  ·exact .inr (.inl rfl)
  ·exact .inr (.inr (.inl rfl))
 have h53 : hJ 53 := .inr (.inr (.inr rfl))
 have hb : ∀ {y : Bool × (σ × Bool)} {f : σ × Bool → Bool × (σ × Bool)}, hJ (js y f).1 := fun {y f} => by
  rcases pR (y := y) (f := f) with e | e <;> rw [e]
  ·exact .inl rfl
  ·exact h53
 have ha : hJ (dt get set ds l.a x).1 := by
  unfold dt
  cases decide (known ds l.a = 0) with
  | false => exact hk _ (km ds l.a)
  | true =>
   rw [aa7]
   cases (gk get set (b6 ds l.a.rel) l.a.l x).1
   ·exact .inl rfl
   ·exact h53
 unfold jd
 cases eT l.op with
 | true => exact hb
 | false =>
  rw [aa5]
  cases decide (l.op = 1) || decide (l.op = 2) with
  | true => exact ha
  | false =>
   rw [aa5]
   cases decide ((dt get set ds l.a x).1 = 0) with
   | false => exact ha
   | true =>
    rw [Bool.not_true, aa5]
    cases decide (l.op = 7) with
    | true =>
     rw [aa7]
     cases (l.x.want get set 1 (dt get set ds l.a x).2).1
     ·exact .inl rfl
     ·exact h53
    | false => exact hb
theorem qN {σ : Type} {get : σ → ByteArray → Int} {set : σ → ByteArray → Int → σ} (ds : List Dc) (a : At) (x : σ × Bool) : hJ (dt get set ds a x).1 := by
 have h := oh (get := get) (set := set) ds ⟨1, a, .mk 0 ByteArray.empty 0 [], .mk 0 ByteArray.empty 0 []⟩ x
 exact h
theorem qK {w e : Int} (hw : hJ w) (he : hJ e) : hJ (fL w e) := by
 unfold fL
 cases (decide (w = 0) || decide (w = 53) && ri e)
 ·exact hw
 ·exact he
theorem q9 {σ : Type} {get : σ → ByteArray → Int} {set : σ → ByteArray → Int → σ} (ds : List Dc) : ∀ (b : List Lt) (y : Int × (σ × Bool)), hJ y.1 → hJ (iN get set ds b y).1
 | [], _, h => h
 | l :: b, y, h => by
  rw [iN]
  have := qK h (oh (get := get) (set := set) ds l y.2)
  cases ri (fL y.1 (jd get set ds l y.2).1) with
  | true => exact this
  | false => exact q9 ds b _ this
def jD (x : MX) : Int × (List (Value × AV) × Bool) := iN getM fe (b8 x.a.ds) (cu (x.bl.drop x.i.toNat)) (x.w, (x.a.es, x.a.more))
def Ao (x : MX) : Prop := x.a.ds.length ≤ aL ∧ hJ x.w ∧ x.bl.length ≤ 100000 ∧ (∀ l, l ∈ x.bl → ik (cj l) ≤ 100000) ∧ 0 ≤ x.i ∧ x.i ≤ x.bl.length
noncomputable def Gl (κ : Kp) (x : MX) : Out (Exit × S) := .all (fun _ : Bool => True) fun b => .aD b (.one (.ret, sp 52 [(4, .lit (aU κ (jD x).1))] (bB (dd x.a (jD x).2)))) (.one (.exit 0, sp 52 [(5, .lit (aU κ (jD x).1))] (bB (dd x.a (jD x).2))))
theorem Y4 (κ : Kp) : bq (JB κ) 12 95 3 (aO 2 (Je κ) Ao (Gl κ)) := by
 refine aR (fun x => x.bl.length - x.i.toNat) ?_
 rintro ⟨a, w, bl, i⟩ K ⟨h1, h2, h3, h4, h5, h6⟩ ho
 simp only at h1 h2 h3 h4 h5 h6
 rw [show (JB κ).P = Pr κ from rfl]
 refine Eq.mpr (W8 κ ⟨a, w, bl, i⟩ _ _ K) ?_
 have ho1 := ho true trivial
 have ho2 := ho false trivial
 simp only [Out.run, aD] at ho1 ho2
 rw [af, aa0, aa2]
 refine ⟨fun hi => ?_, fun hi => ?_⟩
 ·simp only at hi
  have hk : i.toNat < bl.length := by omega
  have hb : jD ⟨a, w, bl, i⟩ = bif ri (fL w (bF (gC a (nth bl i.toNat))).1) then (fL w (bF (gC a (nth bl i.toNat))).1, (bF (gC a (nth bl i.toNat))).2) else jD ⟨dd a (bF (gC a (nth bl i.toNat))).2, fL w (bF (gC a (nth bl i.toNat))).1, bl, i + 1⟩ := by
   unfold jD bF
   simp only [show (i + 1).toNat = i.toNat + 1 by omega]
   rw [lM bl i.toNat hk, iN, zO]; rfl
  have he : hJ (bF (gC a (nth bl i.toNat))).1 := oh _ _ _
  have hlc : ik (cj (nth bl i.toNat)) ≤ 100000 := h4 _ (by rw [br _ _ hk]; exact List.getElem_mem hk)
  have R : ri (fL w (bF (gC a (nth bl i.toNat))).1) = true → K .ret (sp 52 [(4, .lit (aU κ (fL w (bF (gC a (nth bl i.toNat))).1)))] (bB (dd a (bF (gC a (nth bl i.toNat))).2))) := fun e => by
   rw [hb, e, aa7] at ho1
   exact ho1
  have N : ri (fL w (bF (gC a (nth bl i.toNat))).1) = false → ∃ m, m < bl.length - i.toNat ∧ fF (Je κ) Ao (Gl κ) (fun x => x.bl.length - x.i.toNat) K m (sp 52 [(0, Af), (5, .lit (aU κ (fL w (bF (gC a (nth bl i.toNat))).1))), (14, .ae 55 bl), (15, .int bl.length), (16, .int (IntKind.wrap .i64 (i + 1)))] (bB (dd a (bF (gC a (nth bl i.toNat))).2))) := fun e => by
   rw [hb, e, aa5] at ho1 ho2
   rw [a8 (n := i + 1) (by omega) (by omega)]
   refine ⟨_, ?_, ⟨dd a (bF (gC a (nth bl i.toNat))).2, fL w (bF (gC a (nth bl i.toNat))).1, bl, i + 1⟩, rfl, ⟨h1, qK h2 he, h3, h4, by simp only; omega, by simp only; omega⟩, rfl, ?_⟩
   ·simp only; omega
   ·intro b _
    cases b
    ·exact ho2
    ·exact ho1
  refine ax.2 ⟨by simp; omega, gC a (nth bl i.toNat), rfl, ⟨h1, by rw [zO]; exact hlc⟩, ?_⟩
  have n51 : Value.iface 189 (.pointer (some κ.eC)) = aU κ 51 := rfl
  have n52 : Value.iface 189 (.pointer (some κ.arity)) = aU κ 52 := rfl
  have n53 : Value.iface 189 (.pointer (some κ.type)) = aU κ 53 := rfl
  have ta : (gC a (nth bl i.toNat)).a = a := rfl
  simp only [n51, n52, n53, ta, cd, hH]
  revert R N he
  generalize bF (gC a (nth bl i.toNat)) = y
  intro he R N
  simp only [xq κ he, xq κ h2, wF κ (show rT 51 from .inl rfl), wF κ (show rT 52 from .inr (.inl rfl)), wF κ (show rT 53 from .inr (.inr rfl)), fW κ he (show hJ 51 from .inr (.inl rfl)), fW κ he (show hJ 52 from .inr (.inr (.inl rfl))), fW κ h2 (show hJ 51 from .inr (.inl rfl)), fW κ h2 (show hJ 52 from .inr (.inr (.inl rfl))), fW κ h2 (show hJ 53 from .inr (.inr (.inr rfl)))]
  obtain ⟨e, y2⟩ := y
  simp only at he R N ⊢
  rcases h2 with rfl | rfl | rfl | rfl <;> rcases he with rfl | rfl | rfl | rfl <;> first | exact R rfl | exact N rfl
 ·simp only at hi
  have hb : jD ⟨a, w, bl, i⟩ = (w, (a.es, a.more)) := by
   unfold jD
   simp only
   rw [aa8 (by omega)]; rfl
  rw [hb] at ho2
  exact ho2
noncomputable def Nh (κ : Kp) : Env := (JB κ).aj 95 3 (aO 2 (Je κ) Ao (Gl κ))
theorem Wg (κ : Kp) : ay (Nh κ) := (V4 κ).aj (S3 κ) (Y4 κ)
theorem RZ (κ : Kp) : ah (Nh κ) := (S3 κ).aj aG
theorem Tv (κ : Kp) (a : gX) (r : bQ) (K : AV → List Dn.Obj → Prop) : (bh (Nh κ) 12 95 [Af, an r] (bB a) K) = (
 letI z1 := Pg.toProgram (Env.P (JB κ))
 ∃ (a_1 : Ma), ([AV.ptr 0 0 [] 0, AV.agg [AV.str r.rel, AV.ae 52 r.hl]], (bB a)) = ([AV.ptr 0 0 [] 0, AV.agg [AV.str a_1.2.1, AV.ae 52 a_1.2.2]], (bB a_1.1)) ∧
 (a_1.1.ds.length ≤ 9223372036854775807 ∧ aX (aa a_1.2.2) ≤ 100000) ∧ ag z1 95 3 = ag z1 95 3 ∧ ∃ (a : MX), sp 52 [(0, AV.ptr 0 0 [] 0), (5, AV.lit (aU κ
 (Prod.fst (cV a_1.1 a_1.2.1 a_1.2.2)))), (14, AV.ae 55 r.bl), (15, AV.int (↑(r.bl.length) : Int)), (16, AV.int 0)] (bB (dd a_1.1 (Prod.snd (cV a_1.1 a_1.2.1
 a_1.2.2)))) = sp 52 [(0, AV.ptr 0 0 [] 0), (5, AV.lit (aU κ a.w)), (14, AV.ae 55 a.bl), (15, AV.int (↑(a.bl.length) : Int)), (16, AV.int a.i)] (bB a.a) ∧
 (List.length a.a.ds ≤ 9223372036854775807 ∧ (a.w = (0 : Int) ∨ a.w = (51 : Int) ∨ a.w = (52 : Int) ∨ a.w = (53 : Int)) ∧ a.bl.length ≤ 100000 ∧ (∀ (l : AV),
 List.Mem l a.bl → ik (cj l) ≤ 100000) ∧ (0 : Int) ≤ a.i ∧ a.i ≤ (↑(a.bl.length) : Int)) ∧ ∀ (y : Bool), True → aD y (K (AV.lit (aU κ (Prod.fst (jD a)))) (bB (dd
 a.a (Prod.snd (jD a))))) (K (AV.lit (aU κ (Prod.fst (jD a)))) (bB (dd a.a (Prod.snd (jD a)))))) := by kernel_rfl
abbrev Oy := gX × bQ
def jR (x : Oy) : Int × (List (Value × AV) × Bool) := iN getM fe (b8 x.1.ds) (cu x.2.bl) (dt getM fe (b8 x.1.ds) ⟨x.2.rel, aa x.2.hl⟩ (x.1.es, x.1.more))
def M6 (x : Oy) : List AV × List Dn.Obj := ([Af, an x.2], bB x.1)
def HZ (x : Oy) : Prop := x.1.ds.length ≤ aL ∧ dh x.2
noncomputable def KS (κ : Kp) (x : Oy) : Out (AV × List Dn.Obj) := .one (.lit (aU κ (jR x).1), bB (dd x.1 (jR x).2))
theorem Xy (κ : Kp) : bu (Nh κ) 12 95 (aW M6 HZ (KS κ)) := by
 refine ba ?_
 rintro ⟨a, r⟩ K ⟨h1, h2⟩ ho
 simp only at h1 h2
 refine Eq.mpr (Tv κ a r K) ?_
 have hlit : ∀ l, l ∈ r.bl → ik (cj l) ≤ 100000 := fun l hl => by
  obtain ⟨k, hk, e⟩ := List.getElem_of_mem hl
  have := jx h2 hk
  rwa [br _ _ hk, e] at this
 have hs : jR (a, r) = jD ⟨dd a (cV a r.rel r.hl).2, (cV a r.rel r.hl).1, r.bl, 0⟩ := by
  unfold jR jD cV
  simp only [ab7, ab0]; rfl
 have ho : K (.lit (aU κ (jR (a, r)).1)) (bB (dd a (jR (a, r)).2)) := ho
 rw [hs] at ho
 refine ⟨(a, r.rel, r.hl), rfl, ⟨h1, mV h2⟩, rfl, ⟨dd a (cV a r.rel r.hl).2, (cV a r.rel r.hl).1, r.bl, 0⟩, rfl, ⟨h1, qN _ _ _, h2.2, hlit, by simp only; omega, by simp only; omega⟩, fun b _ => ?_⟩
 cases b <;> exact ho
noncomputable def Kd (κ : Kp) : Env := (Nh κ).au 95 (aW M6 HZ (KS κ))
theorem Y8 (κ : Kp) : ay (Kd κ) := (Wg κ).au (RZ κ) (Xy κ)
theorem Ss (κ : Kp) : ah (Kd κ) := (RZ κ).au aH
end Go.Proofs.YtdpmikfheebicaaGreatDoor
namespace Go.Rl
open Go Go.Dn
section
variable {σ : Type} {get : σ → ByteArray → Int} {set : σ → ByteArray → Int → σ}
variable (hgs : ∀ st s k t, get (set st s k) t = bif t == s then k else get st t)
include hgs
theorem pE (ds : List Dc) {r : Rl} (hr : aM r = true) (V : List ByteArray) (hV : ∀ s, s ∈ eB r → s ∈ V) (st : σ) (h0 : (ea get set ds r st).1 = 0) (hm : (ea get set ds r st).2.2 = true) : ki get V (ea get set ds r st).2.1 < ki get V st := by
 have hk : iE ds r = 0 := by
  cases e : decide (iE ds r = 0) with
  | true => simpa using e
  | false =>
   rw [aa2] at e
   rw [zu ds r st e] at h0; exact h0
 simp only [aM, aa1, List.all_eq_true] at hr
 have e1 := FH (get := get) (set := set) ds (r := r) (rq hr.1.1.1) (fun l hl => LB (hr.2 l hl)) hk st h0
 rw [e1] at hm ⊢
 exact ve (A0 hgs ds r st) V ((Bt hgs ds r st hm).left (Ext.refl _ _) hV)
theorem lS (ds : List Dc) {r : Rl} (hr : aM r = true) (V : List ByteArray) (hV : ∀ s, s ∈ eB r → s ∈ V) : ∀ (n m : Nat) (st : σ), ki get V st < n → ki get V st < m → eI get set ds r n st = eI get set ds r m st
 | 0, _, _, h, _ => by omega
 | _ + 1, 0, _, _, h => by omega
 | n + 1, m + 1, st, h1, h2 => by
  rw [eI, eI]
  cases h0 : decide ((ea get set ds r st).1 = 0) with
  | false => rfl
  | true =>
   rw [aa7, aa7]
   cases hm : (ea get set ds r st).2.2 with
   | false => rfl
   | true =>
    rw [aa7, aa7]
    have := pE hgs ds hr V hV st (by simpa using h0) hm
    exact lS ds hr V hV n m _ (by omega) (by omega)
end
end Go.Rl
namespace Go.Proofs.YtdpmikfheebicaaGreatDoor
open Go Go.Dn Go.Rl Go.Proofs
attribute [local irreducible] bh vc
set_option maxRecDepth 20000
structure nV where
 ds : List AV
 r : bQ
 es : List (Value × AV)
 more : Bool
abbrev J9 (x : nV) : S := sp 60 [(3, .ptr 0 0 [] 0), (6, .ptr 1 0 [] 0)] [.box 41 (an x.r), .box 133 (.agg [.ae 62 x.ds, .mp 2, .bool x.more]), .map 9 3 x.es]
theorem XS (κ : Kp) (x : nV) (I : Nat → S → Prop) (n : Nat) (K : Exit → S → Prop) : (vc (Kd κ) 12 61 none 0 (ag (Pr κ).toProgram 61 4) (J9 x) (bK (Kd κ) 61 4 0 I n K)) = (
 aD x.more (∃ (a : Oy), ([AV.ptr 0 0 [] 0, an x.r], [Obj.box 133 (AV.agg [AV.ae 62 x.ds, AV.mp 1, AV.bool false]), Dn.Obj.map 9 3 x.es]) = ([AV.ptr 0 0 [] 0,
 an a.2], [Obj.box 133 (AV.agg [AV.ae 62 a.1.ds, AV.mp 1, AV.bool a.1.more]), Dn.Obj.map 9 3 a.1.es]) ∧ (a.1.ds.length ≤ 9223372036854775807 ∧ aX (aa
 (aV 52 a.2.hl a.2.bl)) ≤ 100000 ∧ a.2.bl.length ≤ 100000) ∧ bg (az (aU κ (Prod.fst (jR a)))) (aD (!bz (aU κ (Prod.fst (jR a)))) (bg
 (jK κ (aU κ (Prod.fst (jR a)))) (K Exit.ret (sp 60 [(4, AV.nil), (5, AV.int (JE κ (aU κ (Prod.fst (jR a)))))] []))) (∃ (m : Nat), m < n ∧ I m (sp
 60 [(3, AV.ptr 0 0 [] 0), (6, AV.ptr 1 0 [] 0)] [Obj.box 41 (an x.r), Obj.box 133 (AV.agg [AV.ae 62 (gX.ds (dd a.1 (Prod.snd (jR a)))), AV.mp 2,
 AV.bool (gX.more (dd a.1 (Prod.snd (jR a))))]), Dn.Obj.map 9 3 (gX.es (dd a.1 (Prod.snd (jR a))))])))) (K (Exit.exit 0) (sp 60 [(3, AV.ptr 0 0 [] 0),
 (6, AV.ptr 1 0 [] 0)] [Obj.box 41 (an x.r), Obj.box 133 (AV.agg [AV.ae 62 x.ds, AV.mp 2, AV.bool x.more]), Dn.Obj.map 9 3 x.es]))) := by kernel_rfl
abbrev YH (x : nV) : List Dc := b8 x.ds
def QH (x : nV) : Nat := ki getM (cU (aI x.r)) x.es
def Qt (x : nV) : Int × List (Value × AV) := eI getM fe (YH x) (aI x.r) (QH x + 1) x.es
def ft (x : nV) : Int × List (Value × AV) := bif x.more then Qt x else (0, x.es)
def Gs (x : nV) : Prop := aM (aI x.r) = true ∧ x.ds.length ≤ aL ∧ dh x.r
def CC (x : nV) : Out (Exit × S) := .aD (decide ((ft x).1 = 0)) (.one (.exit 0, J9 ⟨x.ds, x.r, (ft x).2, false⟩)) (.one (.ret, sp 60 [(4, .nil), (5, .int (ft x).1)] []))
theorem zE (ds : List Dc) (r : Rl) (es : List (Value × AV)) : hJ (ea getM fe ds r es).1 := q9 _ _ _ (qN _ _ _)
theorem Zv (κ : Kp) : bq (Kd κ) 12 61 4 (aO 0 J9 Gs CC) := by
 refine aR (fun x => bif x.more then QH x + 1 else 0) ?_
 rintro ⟨ds, r, es, more⟩ K ⟨h1, h2, h3⟩ ho
 simp only at h1 h2 h3
 rw [show (Kd κ).P = Pr κ from rfl]
 refine Eq.mpr (XS κ ⟨ds, r, es, more⟩ _ _ K) ?_
 simp only [CC, Out.run, af] at ho
 cases more with
 | false => exact ho.1 rfl
 | true =>
  have hp : jR (⟨ds, es, false⟩, r) = ea getM fe (b8 ds) (aI r) es := rfl
  have hV : ∀ s, s ∈ eB (aI r) → s ∈ cU (aI r) := fun s hs => (uH h1).2 hs
  have hr := zE (b8 ds) (aI r) es
  have he : ft ⟨ds, r, es, true⟩ = bif decide ((ea getM fe (b8 ds) (aI r) es).1 = 0) then ft ⟨ds, r, (ea getM fe (b8 ds) (aI r) es).2.1, (ea getM fe (b8 ds) (aI r) es).2.2⟩ else ((ea getM fe (b8 ds) (aI r) es).1, (ea getM fe (b8 ds) (aI r) es).2.1) := by
   have e0 : ft ⟨ds, r, es, true⟩ = eI getM fe (b8 ds) (aI r) (QH ⟨ds, r, es, true⟩ + 1) es := rfl
   rw [e0, eI]
   cases h0 : decide ((ea getM fe (b8 ds) (aI r) es).1 = 0) with
   | false => rfl
   | true =>
    rw [aa7, aa7]
    unfold ft
    cases hm : (ea getM fe (b8 ds) (aI r) es).2.2 with
    | false => rfl
    | true =>
     rw [aa7]
     have := pE mm (b8 ds) h1 _ hV es (by simpa using h0) hm
     exact lS mm (b8 ds) h1 _ hV _ _ _ this (Nat.lt_succ_self _)
  refine ⟨(⟨ds, es, false⟩, r), rfl, ⟨h2, h3⟩, ?_⟩
  rw [hp]
  refine ax.2 ⟨cd _ _, ?_⟩
  rw [hH]
  cases h0 : decide ((ea getM fe (b8 ds) (aI r) es).1 = 0) with
  | false =>
   rw [he, h0, aa5] at ho
   refine ax.2 ⟨xq κ hr, ?_⟩
   rw [FZ κ hr]
   exact ho.2 h0
  | true =>
   rw [he, h0, aa7] at ho
   refine ⟨_, ?_, ⟨ds, r, (ea getM fe (b8 ds) (aI r) es).2.1, (ea getM fe (b8 ds) (aI r) es).2.2⟩, rfl, ⟨h1, h2, h3⟩, rfl, ?_⟩
   ·simp only
    cases hm : (ea getM fe (b8 ds) (aI r) es).2.2 with
    | false => exact Nat.succ_pos _
    | true =>
     have := pE mm (b8 ds) h1 _ hV es (by simpa using h0) hm
     exact Nat.succ_lt_succ this
   ·simp only [CC, Out.run, af]
    exact ho
noncomputable def JU (κ : Kp) : Env := (Kd κ).aj 61 4 (aO 0 J9 Gs CC)
theorem Zs (κ : Kp) : ay (JU κ) := (Y8 κ).aj (Ss κ) (Zv κ)
theorem Sy (κ : Kp) : ah (JU κ) := (Ss κ).aj aG
def iA (l : List Int) : List AV := l.map fun k => .lit (.int .i64 k)
theorem gU (l : List Int) : (iA l).length = l.length := by simp [iA]
theorem xp (l m : List Int) : iA (l ++ m) = iA l ++ iA m := by simp [iA]
structure L5 where
 ds : List AV
 es : List (Value × AV)
 o : List Int
 vs : List ByteArray
 i : Int
abbrev KE (x : L5) : S := sp 60 [(6, .ptr 0 0 [] 0), (8, .aB 2 0 (iA x.o).length), (36, .aB 3 0 x.vs.length), (37, .int x.vs.length), (38, .int x.i)] [.box 133 (.agg [.ae 62 x.ds, .mp 1, .bool false]), .map 9 3 x.es, .row 3 (iA x.o), .row 9 (strs x.vs)]
theorem WM (κ : Kp) (ds : List AV) (es : List (Value × AV)) (o vs : List AV) (i : Int) (I : Nat → S → Prop) (n : Nat) (K : Exit → S → Prop) : (vc (JU κ) 12 61 none 0 (ag (Pr κ).toProgram 61 11) (sp 60 [(6, .ptr 0 0 [] 0), (8, .aB 2 0 o.length), (36, .aB 3 0 vs.length), (37, .int vs.length), (38, .int i)] [.box 133 (.agg [.ae 62 ds, .mp 1, .bool false]), .map 9 3 es, .row 3 o, .row 9 vs]) (bK (JU κ) 61 11 0 I n K)) = (
 letI z1 := cF es (Value.string (toStr (nth vs (0 + i.toNat)))) (AV.int 0)
 aD (decide (i < (↑(vs.length) : Int))) (bg (decide ((0 : Int) ≤ i) && decide (i < (↑(vs.length) : Int))) (aD (toInt z1 == (0 : Int)) (K Exit.ret (sp 60 [(4,
 AV.nil), (5, AV.int 53)] [])) (bg (decide ((o.length + 1 + 1) * 9 ≤ 70368744177664)) (∃ (m : Nat), m < n ∧ I m (sp 60 [(6, AV.ptr 0 0 [] 0), (8, AV.aB 2 0
 (o.length + 1)), (36, AV.aB 3 0 vs.length), (37, AV.int (↑(vs.length) : Int)), (38, AV.int (IntKind.wrap IntKind.i64 (i + (1 : Int))))] [Obj.box 133 (AV.agg
 [AV.ae 62 ds, AV.mp 1, AV.bool false]), Dn.Obj.map 9 3 es, Obj.row 3 (List.take o.length o ++ [AV.int (toInt z1)]), Obj.row 9 vs]))))) (K (Exit.exit 2) (sp 60
 [(8, AV.aB 0 0 o.length)] [Obj.row 3 o]))) := by kernel_rfl
def iM (x : L5) : List ByteArray := x.vs.drop x.i.toNat
def qX (x : L5) : Bool := (iM x).all fun s => !decide (getM x.es s = 0)
def Hc (x : L5) : Prop := x.vs.length ≤ 100000 ∧ x.o.length ≤ x.i.toNat ∧ 0 ≤ x.i ∧ x.i ≤ x.vs.length
def B6 (x : L5) : Out (Exit × S) := .aD (qX x) (.one (.exit 2, sp 60 [(8, .aB 0 0 (iA (x.o ++ (iM x).map (getM x.es))).length)] [.row 3 (iA (x.o ++ (iM x).map (getM x.es)))])) (.one (.ret, sp 60 [(4, .nil), (5, .int 53)] []))
theorem UF (κ : Kp) : bq (JU κ) 12 61 11 (aO 0 KE Hc B6) := by
 refine aR (fun x => x.vs.length - x.i.toNat) ?_
 rintro ⟨ds, es, o, vs, i⟩ K ⟨h1, h2, h3, h4⟩ ho
 simp only at h1 h2 h3 h4
 rw [show (JU κ).P = Pr κ from rfl]
 have e0 : (⟨ds, es, o, vs, i⟩ : L5).vs.length = (strs vs).length := (a9 vs).symm
 simp only [KE, e0]
 refine Eq.mpr (WM κ ds es (iA o) (strs vs) i _ _ K) ?_
 simp only [B6, Out.run, af] at ho
 simp only [a9]
 rw [af, aa0, aa2, ax, aa1, aa0, aa0]
 refine ⟨fun hi => ⟨⟨h3, hi⟩, ?_⟩, fun hi => ?_⟩
 ·have hk : i.toNat < vs.length := by omega
  have hr : iM ⟨ds, es, o, vs, i⟩ = vs[i.toNat] :: iM ⟨ds, es, o ++ [getM es vs[i.toNat]], vs, i + 1⟩ := by
   unfold iM
   simp only [show (i + 1).toNat = i.toNat + 1 by omega]
   exact ab1 hk
  have ha : qX ⟨ds, es, o, vs, i⟩ = (!decide (getM es vs[i.toNat] = 0) && qX ⟨ds, es, o ++ [getM es vs[i.toNat]], vs, i + 1⟩) := by
   unfold qX
   rw [hr, List.all_cons]
  rw [Nat.zero_add, yO vs _ hk, Lb]
  have hg : toInt (cF es (Value.string (toStr (.lit (.string vs[i.toNat])))) (AV.int 0)) = getM es vs[i.toNat] := rfl
  rw [hg, af]
  refine ⟨fun e => ?_, fun e => ?_⟩
  ·rw [ha, e] at ho
   exact ho.2 rfl
  ·rw [ha, e, hr, Bool.not_false, ab9] at ho
   rw [ax, aa0, gU]
   rw [a8 (n := i + 1) (by omega) (by omega)]
   refine ⟨by omega, _, ?_, ⟨ds, es, o ++ [getM es vs[i.toNat]], vs, i + 1⟩, ?_, ⟨h1, by simp only [ab8, List.length_singleton]; omega, by simp only; omega, by simp only; omega⟩, rfl, ?_⟩
   ·simp only; omega
   ·simp only [KE, xp, gU, ab8, List.length_singleton, List.take_of_length_le (show (iA o).length ≤ o.length by rw [gU]; omega)]
    rfl
   ·simp only [B6, Out.run, af]
    rw [show o ++ [getM es vs[i.toNat]] ++ (iM ⟨ds, es, o ++ [getM es vs[i.toNat]], vs, i + 1⟩).map (getM es) = o ++ (vs[i.toNat] :: iM ⟨ds, es, o ++ [getM es vs[i.toNat]], vs, i + 1⟩).map (getM es) by simp]
    exact ho
 ·have hr : iM ⟨ds, es, o, vs, i⟩ = [] := by
   unfold iM
   exact aa8 (by simp only; omega)
  have ha : qX ⟨ds, es, o, vs, i⟩ = true := by
   unfold qX
   rw [hr]; rfl
  rw [ha, hr] at ho
  have := ho.1 rfl
  simp only [List.map_nil, List.append_nil] at this
  exact this
noncomputable def OJ (κ : Kp) : Env := (JU κ).aj 61 11 (aO 0 KE Hc B6)
theorem Y9 (κ : Kp) : ay (OJ κ) := (Zs κ).aj (Sy κ) (UF κ)
theorem Sm (κ : Kp) : ah (OJ κ) := (Sy κ).aj aG
theorem UZ (κ : Kp) (ds : List AV) (r : bQ) (K : AV → List Dn.Obj → Prop) : (bh (OJ κ) 12 61 [.ae 62 ds, an r] [] K) = (
 letI z1 := Pg.toProgram (Env.P (Kd κ))
 letI z2 := Pg.toProgram (Env.P (JU κ))
 bg (List.all [AV.agg [AV.agg [AV.str r.rel, AV.ae 52 r.hl], AV.ae 55 r.bl, AV.int r.line]] fZ) (aD (!ez ds [AV.agg [AV.agg [AV.str r.rel, AV.ae 52 r.hl], AV.ae 55 r.bl, AV.int r.line]]) (K (AV.bj [AV.nil, AV.int 30]) []) (ag z1 61 4 = ag z1 61 4 ∧ ∃ (a : nV), sp 60 [(3, AV.ptr 0 0 [] 0), (6, AV.ptr 1 0 [] 0)] [Obj.box 41 (AV.agg [AV.agg [AV.str r.rel, AV.ae 52 r.hl], AV.ae 55 r.bl, AV.int r.line]), Obj.box 133 (AV.agg [AV.ae 62 ds, AV.mp 2, AV.bool true]), Dn.Obj.map 9 3 []] = sp 60 [(3, AV.ptr 0 0 [] 0), (6, AV.ptr 1 0 [] 0)] [Obj.box 41 (AV.agg [AV.agg [AV.str a.r.rel, AV.ae 52 a.r.hl], AV.ae 55 a.r.bl, AV.int a.r.line]), Obj.box 133 (AV.agg [AV.ae 62 a.ds, AV.mp 2, AV.bool a.more]), Dn.Obj.map 9 3 a.es] ∧ (aM (aI a.r) = true ∧ a.ds.length ≤ 9223372036854775807 ∧ aX (aa (aV 52 a.r.hl a.r.bl)) ≤ 100000 ∧ List.length a.r.bl ≤ 100000) ∧ aD (decide (Prod.fst (ft a) = (0 : Int))) (∃ (a_1 : bQ), ([AV.agg [AV.agg [AV.lit (Value.string (bQ.rel (nV.r {ds := a.ds, r := a.r, es := Prod.snd (ft a), more := false }))), AV.ae 52 (bQ.hl (nV.r {ds := a.ds, r := a.r, es := Prod.snd (ft a), more := false }))], AV.ae 55 (bQ.bl (nV.r {ds := a.ds, r := a.r, es := Prod.snd (ft a), more := false })), AV.lit (Value.int IntKind.i64 (bQ.line (nV.r {ds := a.ds, r := a.r, es := Prod.snd (ft a), more := false })))]], aF) = ([AV.agg [AV.agg [AV.str a_1.rel, AV.ae 52 a_1.hl], AV.ae 55 a_1.bl, AV.int a_1.line]], aF) ∧ (aM (aI a_1) = true ∧ aX (aa (aV 52 a_1.hl a_1.bl)) ≤ 100000 ∧ a_1.bl.length ≤ 100000) ∧ ag z2 61 11 = ag z2 61 11 ∧ ∃ (a_2 : L5), sp 60 [(6, AV.ptr 0 0 [] 0), (8, AV.aB 2 0 0), (36, AV.aB 3 0 (List.length (cU (aI a_1)))), (37, AV.int (↑(List.length (cU (aI a_1))) : Int)), (38, AV.int 0)] [Obj.box 133 (AV.agg [AV.ae 62 (nV.ds {ds := a.ds, r := a.r, es := Prod.snd (ft a), more := false }), AV.mp 1, AV.bool false]), Dn.Obj.map 9 3 (nV.es {ds := a.ds, r := a.r, es := Prod.snd (ft a), more := false }), Obj.row 3 [], Obj.row 9 (strs (cU (aI a_1)))] = sp 60 [(6, AV.ptr 0 0 [] 0), (8, AV.aB 2 0 (List.length (iA a_2.o))), (36, AV.aB 3 0 a_2.vs.length), (37, AV.int (↑(a_2.vs.length) : Int)), (38, AV.int a_2.i)] [Obj.box 133 (AV.agg [AV.ae 62 a_2.ds, AV.mp 1, AV.bool false]), Dn.Obj.map 9 3 a_2.es, Obj.row 3 (iA a_2.o), Obj.row 9 (strs a_2.vs)] ∧ (a_2.vs.length ≤ 100000 ∧ a_2.o.length ≤ a_2.i.toNat ∧ (0 : Int) ≤ a_2.i ∧ a_2.i ≤ (↑(a_2.vs.length) : Int)) ∧ aD (qX a_2) (K (AV.bj [AV.aB 0 0 (List.length (iA (a_2.o ++ List.map (getM a_2.es) (iM a_2)))), AV.int 0]) [Obj.row 3 (iA (a_2.o ++ List.map (getM a_2.es) (iM a_2)))]) (K (AV.bj [AV.nil, AV.int 53]) [])) (K (AV.bj [AV.nil, AV.int (Prod.fst (ft a))]) [])))) := by kernel_rfl
abbrev Nj := List AV × bQ
def pW (x : Nj) : Int × List Int := ob (b8 x.1) (aI x.2)
def Oc (x : Nj) : List AV × List Dn.Obj := ([.ae 62 x.1, an x.2], [])
def FL (x : Nj) : Prop := x.1.length ≤ aL ∧ dh x.2
def Hy (x : Nj) : Out (AV × List Dn.Obj) := .aD (ez x.1 [an x.2]) (.aD (decide ((pW x).1 = 0)) (.one (.bj [.aB 0 0 (iA (pW x).2).length, .int 0], [.row 3 (iA (pW x).2)])) (.one (.bj [.nil, .int (pW x).1], []))) (.one (.bj [.nil, .int 30], []))
theorem EZ {ds : List AV} {r : bQ} (h : ez ds [an r] = true) : aM (aI r) = true := by
 unfold ez at h
 rw [aa1] at h
 have := h.2
 rw [List.all_cons, aa1] at this
 exact this.1
theorem YN (κ : Kp) : bu (OJ κ) 12 61 (aW Oc FL Hy) := by
 refine ba ?_
 rintro ⟨ds, r⟩ K ⟨h1, h2⟩ ho
 simp only at h1 h2
 refine Eq.mpr (UZ κ ds r K) ?_
 simp only [Hy, Out.run, af] at ho
 have hl1 := fu (aa r.hl)
 rw [eG] at hl1
 have hc := mV h2
 have hl := h2.2
 refine ax.2 ⟨?_, ?_⟩
 ·show (fZ (an r) && true) = true
  have : fZ (an r) = (decide (r.hl.length ≤ aL) && decide (r.bl.length ≤ aL)) := rfl
  rw [this, aa6 (by simp only [aL]; omega), aa6 (by simp only [aL]; omega)]; rfl
 refine af.2 ⟨fun e => ho.2 (by simpa using e), fun e => ?_⟩
 have e' : ez ds [an r] = true := by simpa using e
 have hr := EZ e'
 have ho1 := ho.1 e'
 have hf : ft ⟨ds, r, [], true⟩ = eI getM fe (b8 ds) (aI r) ((cU (aI r)).length + 1) [] := lS mm (b8 ds) hr _ (fun s hs => (uH hr).2 hs) _ _ _ (Nat.lt_succ_self _) (Nat.lt_succ_of_le (GY _ _ _))
 have ht : pW (ds, r) = bif decide ((ft ⟨ds, r, [], true⟩).1 = 0) then (bif (cU (aI r)).all (fun s => !decide (getM (ft ⟨ds, r, [], true⟩).2 s = 0)) then (0, (cU (aI r)).map (getM (ft ⟨ds, r, [], true⟩).2)) else (53, [])) else ((ft ⟨ds, r, [], true⟩).1, []) := by
  rw [hf]; rfl
 rw [ht] at ho1
 refine ⟨rfl, ⟨ds, r, [], true⟩, rfl, ⟨hr, h1, h2⟩, ?_⟩
 refine af.2 ⟨fun e1 => ⟨r, rfl, ⟨hr, h2⟩, rfl, ⟨ds, (ft ⟨ds, r, [], true⟩).2, [], cU (aI r), 0⟩, rfl, ⟨Fb h2, Nat.zero_le _, by simp only; omega, by simp only; omega⟩, ?_⟩, fun e1 => ?_⟩
 ·rw [e1, aa7] at ho1
  have ha : qX ⟨ds, (ft ⟨ds, r, [], true⟩).2, [], cU (aI r), 0⟩ = (cU (aI r)).all (fun s => !decide (getM (ft ⟨ds, r, [], true⟩).2 s = 0)) := rfl
  rw [ha]
  refine af.2 ⟨fun e2 => ?_, fun e2 => ?_⟩
  ·rw [e2] at ho1
   exact ho1.1 rfl
  ·rw [e2] at ho1
   exact ho1.2 rfl
 ·rw [e1, aa5] at ho1
  exact ho1.2 e1
noncomputable def KA (κ : Kp) : Env := (OJ κ).au 61 (aW Oc FL Hy)
theorem Zx (κ : Kp) : ay (KA κ) := (Y9 κ).au (Sm κ) (YN κ)
theorem SU (κ : Kp) : ah (KA κ) := (Sm κ).au aH
abbrev iK (ds rs : List AV) : AV := .agg [.ae 62 ds, .ae 41 rs]
def eF (x : AV) : bQ := ⟨[], [], toStr (ad (ad x 0) 0), ai (ad (ad x 0) 1), ai (ad x 1), toInt (ad x 2), 0⟩
structure yj where
 ds : List AV
 rs : List AV
 i : Int
abbrev Mb (x : yj) : Dn.Obj := .box 25 (iK x.ds x.rs)
def KR (ds : List AV) : List AV → Int → Int × Int
 | [], _ => (0, 0)
 | d :: l, i => bif decide (cX (toStr (ad d 0)) ds = i) then KR ds l (i + 1) else (toInt (ad d 5), 50)
def iS (ds : List AV) (x : AV) : Int := bif ez ds [an (eF x)] then (pW (ds, eF x)).1 else 30
def CS (f : AV → Int) : List AV → Int × Int
 | [] => (0, 0)
 | x :: l => bif decide (f x = 0) then CS f l else (toInt (ad x 2), f x)
def sO (ds rs : List AV) : Int × Int := bif ez ds rs then (bif decide ((KR ds ds 0).2 = 0) then CS (iS ds) rs else KR ds ds 0) else (0, 30)
def jV (x : AV) : Int := Gk (aI (eF x))
def gA (ds rs : List AV) : Int × Int := bif decide ((sO ds rs).2 = 0) then CS jV rs else sO ds rs
def iU (ds rs : List AV) : Prop := ds.length ≤ aL ∧ rs.length ≤ aL ∧ ∀ x, x ∈ rs → dh (eF x)
theorem J5 {ds rs : List AV} (h : iU ds rs) : rs.all fZ = true := by
 refine List.all_eq_true.2 fun x hx => ?_
 have h2 := h.2.2 x hx
 have hl1 := fu (aa (eF x).hl)
 rw [eG] at hl1
 have hc := mV h2
 have hl := h2.2
 have : fZ x = (decide ((eF x).hl.length ≤ aL) && decide ((eF x).bl.length ≤ aL)) := rfl
 rw [this, aa6 (by simp only [aL]; omega), aa6 (by simp only [aL]; omega)]; rfl
abbrev L3 (x : yj) : S := sp 57 [(1, .ptr 0 0 [] 0), (16, .ae 62 x.ds), (17, .int x.ds.length), (18, .int x.i)] [Mb x]
theorem W3 (κ : Kp) (x : yj) (I : Nat → S → Prop) (n : Nat) (K : Exit → S → Prop) : (vc (KA κ) 12 31 none 0 (ag (Pr κ).toProgram 31 4) (L3 x) (bK (KA κ) 31 4 0 I n K)) = (
 letI z1 := AV.agg [AV.ae 62 x.ds, AV.ae 41 x.rs]
 aD (decide (x.i < (↑(x.ds.length) : Int))) (bg (decide ((0 : Int) ≤ x.i) && decide (x.i < (↑(x.ds.length) : Int))) (∃ (a : List AV × ByteArray), ([AV.ae 62
 x.ds, AV.str (toStr (ad (nth x.ds x.i.toNat) 0))], aF) = ([AV.ae 62 a.1, AV.str a.2], aF) ∧ ie a ∧ aD (cX a.2 a.1 != x.i) (K Exit.ret (sp 57 [(2, AV.int (toInt
 (ad (nth x.ds x.i.toNat) 5))), (3, AV.int 50)] [])) (∃ (m : Nat), m < n ∧ I m (sp 57 [(1, AV.ptr 0 0 [] 0), (16, AV.ae 62 x.ds), (17, AV.int (↑(x.ds.length) :
 Int)), (18, AV.int (IntKind.wrap IntKind.i64 (x.i + (1 : Int))))] [Obj.box 25 z1])))) (K (Exit.exit 0) (sp 57 [(1, AV.ptr 0 0 [] 0)] [Obj.box 25 z1]))) := by kernel_rfl
def Fp (x : yj) : Int × Int := KR x.ds (x.ds.drop x.i.toNat) x.i
def G1 (x : yj) : Prop := x.ds.length ≤ aL ∧ 0 ≤ x.i ∧ x.i ≤ x.ds.length
def DJ (x : yj) : Out (Exit × S) := .aD (decide ((Fp x).2 = 0)) (.one (.exit 0, sp 57 [(1, .ptr 0 0 [] 0)] [Mb x])) (.one (.ret, sp 57 [(2, .int (Fp x).1), (3, .int (Fp x).2)] []))
theorem YV (κ : Kp) : bq (KA κ) 12 31 4 (aO 0 L3 G1 DJ) := by
 refine aR (fun x => x.ds.length - x.i.toNat) ?_
 rintro ⟨ds, rs, i⟩ K ⟨h1, h2, h3⟩ ho
 simp only at h1 h2 h3
 rw [show (KA κ).P = Pr κ from rfl]
 refine Eq.mpr (W3 κ ⟨ds, rs, i⟩ _ _ K) ?_
 simp only [aL] at h1
 simp only [DJ, Out.run, af] at ho
 rw [af, aa0, aa2, ax, aa1, aa0, aa0]
 refine ⟨fun hi => ⟨⟨h2, hi⟩, (ds, toStr (ad (nth ds i.toNat) 0)), rfl, h1, ?_⟩, fun hi => ?_⟩
 ·simp only at hi
  have hk : i.toNat < ds.length := by omega
  have hr : Fp ⟨ds, rs, i⟩ = bif decide (cX (toStr (ad (nth ds i.toNat) 0)) ds = i) then Fp ⟨ds, rs, i + 1⟩ else (toInt (ad (nth ds i.toNat) 5), 50) := by
   unfold Fp
   simp only [show (i + 1).toNat = i.toNat + 1 by omega]
   rw [ab1 hk, ← br ds i.toNat hk, KR]
  rw [hr] at ho
  simp only [HN]
  cases e : decide (cX (toStr (ad (nth ds i.toNat) 0)) ds = i) with
  | false =>
   rw [e] at ho
   exact ho.2 rfl
  | true =>
   rw [e] at ho
   rw [a8 (n := i + 1) (by omega) (by omega)]
   refine ⟨_, ?_, ⟨ds, rs, i + 1⟩, rfl, ⟨by simpa [aL] using h1, by simp only; omega, by simp only; omega⟩, rfl, ?_⟩
   ·simp only; omega
   ·simp only [DJ, Out.run, af]
    exact ho
 ·simp only at hi
  have hr : Fp ⟨ds, rs, i⟩ = (0, 0) := by
   unfold Fp
   simp only
   rw [aa8 (by omega)]; rfl
  rw [hr] at ho
  exact ho.1 rfl
noncomputable def Kz (κ : Kp) : Env := (KA κ).aj 31 4 (aO 0 L3 G1 DJ)
theorem YY (κ : Kp) : ay (Kz κ) := (Zx κ).aj (SU κ) (YV κ)
theorem Sw (κ : Kp) : ah (Kz κ) := (SU κ).aj aG
abbrev Gg (x : yj) : S := sp 57 [(1, .ptr 0 0 [] 0), (38, .ae 41 x.rs), (39, .int x.rs.length), (40, .int x.i)] [Mb x]
theorem XC (κ : Kp) (x : yj) (I : Nat → S → Prop) (n : Nat) (K : Exit → S → Prop) : (vc (Kz κ) 12 31 none 0 (ag (Pr κ).toProgram 31 11) (Gg x) (bK (Kz κ) 31 11 0 I n K)) = (
 letI z1 := sp 57 [(1, AV.ptr 0 0 [] 0), (38, AV.ae 41 x.rs), (39, AV.int (↑(x.rs.length) : Int)), (40, AV.int (IntKind.wrap IntKind.i64 (x.i + (1 : Int))))]
  [Obj.box 25 (AV.agg [AV.ae 62 x.ds, AV.ae 41 x.rs])]
 letI z2 := nth x.rs x.i.toNat
 letI z3 := toInt (ad z2 2)
 aD (decide (x.i < (↑(x.rs.length) : Int))) (bg (decide ((0 : Int) ≤ x.i) && decide (x.i < (↑(x.rs.length) : Int))) (∃ (a : Nj), ([AV.ae 62 x.ds, AV.agg [AV.agg
 [AV.str (toStr (ad (ad z2 0) 0)), AV.ae 52 (ai (ad (ad z2 0) 1))], AV.ae 55 (ai (ad z2 1)), AV.int z3]], aF) = ([AV.ae 62 a.1, an a.2], aF) ∧ (a.1.length ≤
 9223372036854775807 ∧ aX (aa (aV 52 a.2.hl a.2.bl)) ≤ 100000 ∧ a.2.bl.length ≤ 100000) ∧ aD (ez a.1 [an a.2]) (aD (decide (Prod.fst (pW a) = (0 : Int))) (∃ (m :
 Nat), m < n ∧ I m z1) (aD (Prod.fst (pW a) != (0 : Int)) (K Exit.ret (sp 57 [(2, AV.int z3), (3, AV.int (Prod.fst (pW a)))] [])) (∃ (m : Nat), m < n ∧ I m z1)))
 (K Exit.ret (sp 57 [(2, AV.int z3), (3, AV.int 30)] [])))) (K (Exit.exit 2) (sp 57 [] []))) := by kernel_rfl
def wP (f : AV → Int) (x : yj) : Int × Int := CS f (x.rs.drop x.i.toNat)
def pK (x : yj) : Prop := iU x.ds x.rs ∧ 0 ≤ x.i ∧ x.i ≤ x.rs.length
def zI (x : yj) : Out (Exit × S) := .aD (decide ((wP (iS x.ds) x).2 = 0)) (.one (.exit 2, sp 57 [] [])) (.one (.ret, sp 57 [(2, .int (wP (iS x.ds) x).1), (3, .int (wP (iS x.ds) x).2)] []))
theorem Dz (f : AV → Int) (ds rs : List AV) (i : Int) (h0 : 0 ≤ i) (hk : i.toNat < rs.length) : wP f ⟨ds, rs, i⟩ = bif decide (f (nth rs i.toNat) = 0) then wP f ⟨ds, rs, i + 1⟩ else (toInt (ad (nth rs i.toNat) 2), f (nth rs i.toNat)) := by
 unfold wP
 simp only [show (i + 1).toNat = i.toNat + 1 by omega]
 rw [ab1 hk, ← br rs i.toNat hk, CS]
theorem CN (f : AV → Int) (ds rs : List AV) (i : Int) (h : rs.length ≤ i.toNat) : wP f ⟨ds, rs, i⟩ = (0, 0) := by
 unfold wP
 simp only
 rw [aa8 h]; rfl
theorem WD (κ : Kp) : bq (Kz κ) 12 31 11 (aO 0 Gg pK zI) := by
 refine aR (fun x => x.rs.length - x.i.toNat) ?_
 rintro ⟨ds, rs, i⟩ K ⟨h1, h2, h3⟩ ho
 simp only at h1 h2 h3
 rw [show (Kz κ).P = Pr κ from rfl]
 refine Eq.mpr (XC κ ⟨ds, rs, i⟩ _ _ K) ?_
 have hml := h1.2.1
 simp only [aL] at hml
 simp only [zI, Out.run, af] at ho
 rw [af, aa0, aa2, ax, aa1, aa0, aa0]
 refine ⟨fun hi => ⟨⟨h2, hi⟩, (ds, eF (nth rs i.toNat)), rfl, ⟨h1.1, ?_⟩, ?_⟩, fun hi => ?_⟩
 ·simp only at hi
  exact h1.2.2 _ (by rw [br _ _ (show i.toNat < rs.length by omega)]; exact List.getElem_mem _)
 ·simp only at hi
  have hk : i.toNat < rs.length := by omega
  rw [Dz _ _ _ _ h2 hk] at ho
  have next : iS ds (nth rs i.toNat) = 0 → ∃ m, m < rs.length - i.toNat ∧ fF Gg pK zI (fun x => x.rs.length - x.i.toNat) K m (Gg ⟨ds, rs, i + 1⟩) := fun e => by
   rw [e] at ho
   refine ⟨_, ?_, ⟨ds, rs, i + 1⟩, rfl, ⟨h1, by simp only; omega, by simp only; omega⟩, rfl, ?_⟩
   ·simp only; omega
   ·simp only [zI, Out.run, af]
    exact ho
  have stop : ∀ e : Int, iS ds (nth rs i.toNat) = e → e ≠ 0 → K .ret (sp 57 [(2, .int (toInt (ad (nth rs i.toNat) 2))), (3, .int e)] []) := fun e he h0 => by
   rw [he, aa4 h0] at ho
   exact ho.2 (aa4 h0)
  rw [a8 (n := i + 1) (by omega) (by omega)]
  have ht : iS ds (nth rs i.toNat) = bif ez ds [an (eF (nth rs i.toNat))] then (pW (ds, eF (nth rs i.toNat))).1 else 30 := rfl
  refine af.2 ⟨fun e1 => ?_, fun e1 => ?_⟩
  ·rw [e1, aa7] at ht
   refine af.2 ⟨fun e2 => next (by rw [ht]; simpa using e2), fun e2 => ?_⟩
   rw [aa2] at e2
   have := stop _ ht e2
   simp only [HN]
   refine af.2 ⟨fun _ => this, fun e3 => ?_⟩
   rw [ab2, aa0] at e3
   exact absurd e3 e2
  ·rw [e1, aa5] at ht
   exact stop 30 ht (by decide)
 ·simp only at hi
  rw [CN _ _ _ _ (by omega)] at ho
  exact ho.1 rfl
noncomputable def NQ (κ : Kp) : Env := (Kz κ).aj 31 11 (aO 0 Gg pK zI)
theorem XN (κ : Kp) : ay (NQ κ) := (YY κ).aj (Sw κ) (WD κ)
theorem Sx (κ : Kp) : ah (NQ κ) := (Sw κ).aj aG
theorem UD (κ : Kp) (ds rs : List AV) (K : AV → List Dn.Obj → Prop) : (bh (NQ κ) 12 31 [iK ds rs] [] K) = (
 letI z1 := Pg.toProgram (Env.P (KA κ))
 letI z2 := Pg.toProgram (Env.P (Kz κ))
 bg (List.all rs fZ) (aD (!ez ds rs) (K (AV.bj [AV.int 0, AV.int 30]) []) (ag z1 31 4 = ag z1 31 4 ∧ ∃ (a : yj), sp 57 [(1, AV.ptr 0 0 [] 0), (16, AV.ae 62 ds),
 (17, AV.int (↑(ds.length) : Int)), (18, AV.int 0)] [Obj.box 25 (AV.agg [AV.ae 62 ds, AV.ae 41 rs])] = sp 57 [(1, AV.ptr 0 0 [] 0), (16, AV.ae 62 a.ds), (17,
 AV.int (↑(a.ds.length) : Int)), (18, AV.int a.i)] [Obj.box 25 (AV.agg [AV.ae 62 a.ds, AV.ae 41 a.rs])] ∧ (a.ds.length ≤ 9223372036854775807 ∧ (0 : Int) ≤ a.i ∧
 a.i ≤ (↑(a.ds.length) : Int)) ∧ aD (decide (Prod.snd (Fp a) = (0 : Int))) (ag z2 31 11 = ag z2 31 11 ∧ ∃ (a_1 : yj), sp 57 [(1, AV.ptr 0 0 [] 0), (38, AV.ae 41
 a.rs), (39, AV.int (↑(a.rs.length) : Int)), (40, AV.int 0)] [Obj.box 25 (AV.agg [AV.ae 62 a.ds, AV.ae 41 a.rs])] = sp 57 [(1, AV.ptr 0 0 [] 0), (38, AV.ae 41
 a_1.rs), (39, AV.int (↑(a_1.rs.length) : Int)), (40, AV.int a_1.i)] [Obj.box 25 (AV.agg [AV.ae 62 a_1.ds, AV.ae 41 a_1.rs])] ∧ ((a_1.ds.length ≤
 9223372036854775807 ∧ a_1.rs.length ≤ 9223372036854775807 ∧ ∀ (x : AV), List.Mem x a_1.rs → aX (aa (aV 52 (bQ.hl (eF x)) (bQ.bl (eF x)))) ≤ 100000 ∧ List.length
 (bQ.bl (eF x)) ≤ 100000) ∧ (0 : Int) ≤ a_1.i ∧ a_1.i ≤ (↑(a_1.rs.length) : Int)) ∧ aD (decide (Prod.snd (wP (iS a_1.ds) a_1) = (0 : Int))) (K (AV.bj [AV.int 0,
 AV.int 0]) []) (K (AV.bj [AV.int (Prod.fst (wP (iS a_1.ds) a_1)), AV.int (Prod.snd (wP (iS a_1.ds) a_1))]) [])) (K (AV.bj [AV.int (Prod.fst (Fp a)), AV.int
 (Prod.snd (Fp a))]) [])))) := by kernel_rfl
abbrev qB := List AV × List AV
def JG (x : qB) : List AV × List Dn.Obj := ([iK x.1 x.2], [])
def wj (x : qB) : Prop := iU x.1 x.2
def Fy (x : qB) : Out (AV × List Dn.Obj) := .one (.bj [.int (sO x.1 x.2).1, .int (sO x.1 x.2).2], [])
theorem Bh (f : AV → Int) : ∀ l, (CS f l).2 = 0 → CS f l = (0, 0)
 | [], _ => rfl
 | x :: l, h => by
  rw [CS] at h ⊢
  cases e : decide (f x = 0) with
  | true => rw [e, aa7] at h; exact Bh f l h
  | false =>
   rw [e, aa5] at h
   rw [aa2] at e
   exact absurd h e
theorem Yt (κ : Kp) : bu (NQ κ) 12 31 (aW JG wj Fy) := by
 refine ba ?_
 rintro ⟨ds, rs⟩ K h1 ho
 have h1 : iU ds rs := h1
 refine Eq.mpr (UD κ ds rs K) ?_
 simp only [Fy, Out.run, sO] at ho
 refine ax.2 ⟨J5 h1, af.2 ⟨fun e => ?_, fun e => ?_⟩⟩
 ·rw [show ez ds rs = false by simpa using e] at ho
  exact ho
 ·rw [show ez ds rs = true by simpa using e, aa7] at ho
  have e1 : Fp ⟨ds, rs, 0⟩ = KR ds ds 0 := rfl
  have e2 : wP (iS ds) ⟨ds, rs, 0⟩ = CS (iS ds) rs := rfl
  refine ⟨rfl, ⟨ds, rs, 0⟩, rfl, ⟨h1.1, by simp only; omega, by simp only; omega⟩, ?_⟩
  rw [e1]
  refine af.2 ⟨fun e3 => ⟨rfl, ⟨ds, rs, 0⟩, rfl, ⟨h1, by simp only; omega, by simp only; omega⟩, ?_⟩, fun e3 => ?_⟩
  ·rw [e3, aa7] at ho
   rw [e2]
   refine af.2 ⟨fun e4 => ?_, fun e4 => ho⟩
   rw [aa0] at e4
   rw [Bh _ _ e4] at ho
   exact ho
  ·rw [e3, aa5] at ho
   exact ho
noncomputable def Jr (κ : Kp) : Env := (NQ κ).au 31 (aW JG wj Fy)
theorem V8 (κ : Kp) : ay (Jr κ) := (XN κ).au (Sx κ) (Yt κ)
theorem RA (κ : Kp) : ah (Jr κ) := (Sx κ).au aH
abbrev Hu (x : yj) : S := sp 37 [(20, .ae 41 x.rs), (21, .int x.rs.length), (22, .int x.i)] []
theorem U7 (κ : Kp) (x : yj) (I : Nat → S → Prop) (n : Nat) (K : Exit → S → Prop) : (vc (Jr κ) 12 12 none 0 (ag (Pr κ).toProgram 12 5) (Hu x) (bK (Jr κ) 12 5 0 I n K)) = (
 letI z1 := nth x.rs x.i.toNat
 letI z2 := toInt (ad z1 2)
 aD (decide (x.i < (↑(x.rs.length) : Int))) (bg (decide ((0 : Int) ≤ x.i) && decide (x.i < (↑(x.rs.length) : Int))) (∃ (a : bQ), ([AV.agg [AV.agg [AV.str (toStr
 (ad (ad z1 0) 0)), AV.ae 52 (ai (ad (ad z1 0) 1))], AV.ae 55 (ai (ad z1 1)), AV.int z2]], aF) = ([an a], aF) ∧ (aX (aa (aV 52 a.hl a.bl)) ≤ 100000 ∧ a.bl.length
 ≤ 100000) ∧ aD (aM (aI a)) (aD (jH (aI a)) (∃ (m : Nat), m < n ∧ I m (sp 37 [(20, AV.ae 41 x.rs), (21, AV.int (↑(x.rs.length) : Int)), (22, AV.int (IntKind.wrap
 IntKind.i64 (x.i + (1 : Int))))] [])) (K Exit.ret (sp 37 [(2, AV.int z2), (3, AV.int 60)] []))) (K Exit.ret (sp 37 [(2, AV.int z2), (3, AV.int 30)] [])))) (K
 (Exit.exit 0) (sp 37 [] []))) := by kernel_rfl
def yn (x : yj) : Out (Exit × S) := .aD (decide ((wP jV x).2 = 0)) (.one (.exit 0, sp 37 [] [])) (.one (.ret, sp 37 [(2, .int (wP jV x).1), (3, .int (wP jV x).2)] []))
theorem Uj (κ : Kp) : bq (Jr κ) 12 12 5 (aO 0 Hu pK yn) := by
 refine aR (fun x => x.rs.length - x.i.toNat) ?_
 rintro ⟨ds, rs, i⟩ K ⟨h1, h2, h3⟩ ho
 simp only at h1 h2 h3
 rw [show (Jr κ).P = Pr κ from rfl]
 refine Eq.mpr (U7 κ ⟨ds, rs, i⟩ _ _ K) ?_
 have hml := h1.2.1
 simp only [aL] at hml
 simp only [yn, Out.run, af] at ho
 rw [af, aa0, aa2, ax, aa1, aa0, aa0]
 refine ⟨fun hi => ⟨⟨h2, hi⟩, eF (nth rs i.toNat), rfl, ?_, ?_⟩, fun hi => ?_⟩
 ·simp only at hi
  exact h1.2.2 _ (by rw [br _ _ (show i.toNat < rs.length by omega)]; exact List.getElem_mem _)
 ·simp only at hi
  have hk : i.toNat < rs.length := by omega
  rw [Dz _ _ _ _ h2 hk] at ho
  have next : jV (nth rs i.toNat) = 0 → ∃ m, m < rs.length - i.toNat ∧ fF Hu pK yn (fun x => x.rs.length - x.i.toNat) K m (Hu ⟨ds, rs, i + 1⟩) := fun e => by
   rw [e] at ho
   refine ⟨_, ?_, ⟨ds, rs, i + 1⟩, rfl, ⟨h1, by simp only; omega, by simp only; omega⟩, rfl, ?_⟩
   ·simp only; omega
   ·simp only [yn, Out.run, af]
    exact ho
  have stop : ∀ e : Int, jV (nth rs i.toNat) = e → e ≠ 0 → K .ret (sp 37 [(2, .int (toInt (ad (nth rs i.toNat) 2))), (3, .int e)] []) := fun e he h0 => by
   rw [he, aa4 h0] at ho
   exact ho.2 (aa4 h0)
  rw [a8 (n := i + 1) (by omega) (by omega)]
  have ht : jV (nth rs i.toNat) = bif aM (aI (eF (nth rs i.toNat))) then bif jH (aI (eF (nth rs i.toNat))) then 0 else 60 else 30 := rfl
  refine af.2 ⟨fun e1 => ?_, fun e1 => ?_⟩
  ·rw [e1, aa7] at ht
   refine af.2 ⟨fun e2 => next (by rw [ht, e2]; rfl), fun e2 => stop 60 (by rw [ht, e2]; rfl) (by decide)⟩
  ·rw [e1, aa5] at ht
   exact stop 30 ht (by decide)
 ·simp only at hi
  rw [CN _ _ _ _ (by omega)] at ho
  exact ho.1 rfl
noncomputable def Ol (κ : Kp) : Env := (Jr κ).aj 12 5 (aO 0 Hu pK yn)
theorem ZB (κ : Kp) : ay (Ol κ) := (V8 κ).aj (RA κ) (Uj κ)
theorem Sb (κ : Kp) : ah (Ol κ) := (RA κ).aj aG
theorem Xb (κ : Kp) (ds rs : List AV) (K : AV → List Dn.Obj → Prop) : (bh (Ol κ) 12 12 [iK ds rs] [] K) = (
 letI z1 := Pg.toProgram (Env.P (Jr κ))
 ∃ (a : qB), ([AV.agg [AV.ae 62 ds, AV.ae 41 rs]], aF) = ([AV.agg [AV.ae 62 a.1, AV.ae 41 a.2]], aF) ∧ (a.1.length ≤ 9223372036854775807 ∧ a.2.length ≤
 9223372036854775807 ∧ ∀ (x : AV), List.Mem x a.2 → aX (aa (aV 52 (bQ.hl (eF x)) (bQ.bl (eF x)))) ≤ 100000 ∧ List.length (bQ.bl (eF x)) ≤ 100000) ∧ aD (Prod.snd
 (sO a.1 a.2) != (0 : Int)) (K (AV.bj [AV.int (Prod.fst (sO a.1 a.2)), AV.int (Prod.snd (sO a.1 a.2))]) []) (ag z1 12 5 = ag z1 12 5 ∧ ∃ (a : yj), sp 37 [(20,
 AV.ae 41 rs), (21, AV.int (↑(rs.length) : Int)), (22, AV.int 0)] [] = sp 37 [(20, AV.ae 41 a.rs), (21, AV.int (↑(a.rs.length) : Int)), (22, AV.int a.i)] [] ∧
 ((a.ds.length ≤ 9223372036854775807 ∧ a.rs.length ≤ 9223372036854775807 ∧ ∀ (x : AV), List.Mem x a.rs → aX (aa (aV 52 (bQ.hl (eF x)) (bQ.bl (eF x)))) ≤ 100000 ∧
 List.length (bQ.bl (eF x)) ≤ 100000) ∧ (0 : Int) ≤ a.i ∧ a.i ≤ (↑(a.rs.length) : Int)) ∧ aD (decide (Prod.snd (wP jV a) = (0 : Int))) (K (AV.bj [AV.int 0,
 AV.int 0]) []) (K (AV.bj [AV.int (Prod.fst (wP jV a)), AV.int (Prod.snd (wP jV a))]) []))) := by kernel_rfl
def G5 (x : qB) : Out (AV × List Dn.Obj) := .one (.bj [.int (gA x.1 x.2).1, .int (gA x.1 x.2).2], [])
theorem Vu (κ : Kp) : bu (Ol κ) 12 12 (aW JG wj G5) := by
 refine ba ?_
 rintro ⟨ds, rs⟩ K h1 ho
 have h1 : iU ds rs := h1
 refine Eq.mpr (Xb κ ds rs K) ?_
 simp only [G5, Out.run, gA] at ho
 refine ⟨(ds, rs), rfl, h1, ?_⟩
 simp only [HN]
 have e2 : wP jV ⟨ds, rs, 0⟩ = CS jV rs := rfl
 refine af.2 ⟨fun e => ?_, fun e => ?_⟩
 ·rw [show decide ((sO ds rs).2 = 0) = false by simpa using e] at ho
  exact ho
 ·rw [show decide ((sO ds rs).2 = 0) = true by simpa using e] at ho
  refine ⟨trivial, ⟨ds, rs, 0⟩, rfl, ⟨h1, by simp only; omega, by simp only; omega⟩, ?_⟩
  rw [e2]
  refine af.2 ⟨fun e4 => ?_, fun e4 => ho⟩
  rw [aa0] at e4
  rw [aa7, Bh _ _ e4] at ho
  exact ho
noncomputable def NJ (κ : Kp) : Env := (Ol κ).au 12 (aW JG wj G5)
theorem Uo (κ : Kp) : ay (NJ κ) := (ZB κ).au (Sb κ) (Vu κ)
theorem SV (κ : Kp) : ah (NJ κ) := (Sb κ).au aH
end Go.Proofs.YtdpmikfheebicaaGreatDoor
