import Derived.Test.YtdpmikfheebicaaGreatDoorDqM8
namespace Go.Proofs.YtdpmikfheebicaaGreatDoor
open Go Go.Dn Go.Rl Go.Proofs
attribute [local irreducible] a9 vc
set_option maxRecDepth 20000
def No (x : AV) : Dc := ⟨toStr (ad x 0), (ah (ad x 2)).map toInt⟩
def aQ (l : List AV) : List Dc := l.map No
theorem ue (s : ByteArray) : ∀ (ds : List AV) (i : Int), iu s ds i = match ie s (aQ ds) with | some k => i + k | none => -1
 | [], i => rfl
 | d :: ds, i => by
  have ih := ue s ds (i + 1)
  rw [iu, ih, show aQ (d :: ds) = No d :: aQ ds from rfl, ie, show (No d).rel = toStr (ad d 0) from rfl]
  cases gC (toStr (ad d 0)) s with
  | true => simp
  | false =>
   rw [aa5, aa5]
   cases ie s (aQ ds) with
   | none => rfl
    | some k => show i + 1 + (k : Int) = i + ((k + 1 : Nat) : Int); omega
theorem z6 (s : ByteArray) : ∀ (ds : List Dc) (k : Nat), ie s ds = some k → k < ds.length
 | [], _, h => by cases h
 | d :: ds, k, h => by
  rw [ie] at h
  cases e : gC d.rel s with
  | true => rw [e, aa7] at h; cases h; simp
  | false =>
   rw [e, aa5] at h
   cases h2 : ie s ds with
   | none => rw [h2] at h; cases h
   | some j =>
    rw [h2] at h; cases h
    have := z6 s ds j h2
    simp only [List.length_cons]; omega
theorem nR {s : ByteArray} {ds : List AV} (h : ie s (aQ ds) = none) : v8 s ds = false ∧ jw s ds = 0 := by
 have e := ue s ds 0
 rw [h] at e
 unfold v8 jw
 rw [e]; exact ⟨rfl, rfl⟩
theorem nd {s : ByteArray} {ds : List AV} {k : Nat} (h : ie s (aQ ds) = some k) : v8 s ds = true ∧ jw s ds = k ∧ k < ds.length := by
 have e := ue s ds 0
 rw [h] at e
 simp only [Int.zero_add] at e
 have h1 := z6 s _ k h
 unfold v8 jw
 rw [e, aa6 (show (0 : Int) ≤ k by omega)]
 exact ⟨rfl, rfl, by simpa [aQ] using h1⟩
def fr (ds : List AV) (i : Int) : List Int := (ah (ad (nth ds i.toNat) 2)).map toInt
theorem uK {s : ByteArray} {ds : List AV} {k : Nat} (h : ie s (aQ ds) = some k) : aV (aQ ds) s = fr ds k := by
 obtain ⟨_, _, h2⟩ := nd h
 unfold aV fr
 rw [h, Int.toNat_natCast, bx _ _ h2]
 simp only [aQ]
 rw [List.getD_eq_getElem?_getD, List.getElem?_map, ab7 h2]
 rfl
theorem rG (ds : List AV) (rel : ByteArray) (l : List AV) : known (aQ ds) ⟨rel, aa l⟩ = bif v8 rel ds then (bif decide ((fr ds (jw rel ds)).length = l.length) then 0 else 52) else 51 := by
 unfold known
 simp only
 cases h : ie rel (aQ ds) with
 | none => rw [(nR h).1]; rfl
 | some k =>
  obtain ⟨h1, h2, _⟩ := nd h
  rw [h1, h2, uK h, cL]; rfl
theorem yG {ds : List AV} {i : Int} {k : Nat} (h : k < (fr ds i).length) : (fr ds i).drop k = toInt (nth (ah (ad (nth ds i.toNat) 2)) k) :: (fr ds i).drop (k + 1) := by
 rw [ab1 h]
 have h' : k < (ah (ad (nth ds i.toNat) 2)).length := by simpa [fr] using h
 rw [bx _ _ h']
 simp [fr]
structure NS where
 a : iO
 fi : Int
 l : List AV
 k : Int
abbrev MI (x : NS) : S := sp 65 [(0, BK), (5, .int x.fi), (40, .ae 52 x.l), (41, .int x.l.length), (42, .int x.k)] (bG x.a)
theorem xAt (κ : Kp) (x : NS) (I : Nat → S → Prop) (n : Nat) (K : Exit → S → Prop) : (vc (Ks κ) 12 133 none 2 (ag (Pr κ).toProgram 133 7) (MI x) (bC (Ks κ) 133 7 2 I n K)) = (
 letI z1 := nth x.l x.k.toNat
 ax (decide (x.k < (↑(x.l.length) : Int))) (aZ (decide ((0 : Int) ≤ x.k) && decide (x.k < (↑(x.l.length) : Int))) (aZ (decide ((0 : Int) ≤ x.fi) && decide (x.fi
 < (↑(List.length x.a.ds) : Int))) (aZ (decide ((0 : Int) ≤ x.k) && decide (x.k < (↑(List.length (ah (ad (nth x.a.ds x.fi.toNat) 2))) : Int))) (∃ (a : oz),
 ([AV.ptr 0 0 [] 0, AV.agg [AV.int (toInt (ad z1 0)), AV.str (toStr (ad z1 1)), AV.int (toInt (ad z1 2)), AV.ae 52 (ah (ad z1 3))], AV.int (toInt (nth (ah (ad
 (nth x.a.ds x.fi.toNat) 2)) x.k.toNat))], (bG x.a)) = ([AV.ptr 0 0 [] 0, cI a.t, AV.int a.k], (bG a.a)) ∧ c8 a ∧ aZ (aC (a6 κ (gL (Prod.fst (aP a.a a.t a.k)))))
 (ax (!bF (a6 κ (gL (Prod.fst (aP a.a a.t a.k))))) (K Exit.ret (sp 65 [(4, AV.lit (a6 κ (gL (Prod.fst (aP a.a a.t a.k)))))] (bG (dA a.a (Prod.snd (aP a.a a.t
 a.k)))))) (∃ (m : Nat), m < n ∧ I m (sp 65 [(0, AV.ptr 0 0 [] 0), (5, AV.int x.fi), (40, AV.ae 52 x.l), (41, AV.int (↑(x.l.length) : Int)), (42, AV.int
 (IntKind.wrap IntKind.i64 (x.k + (1 : Int))))] (bG (dA a.a (Prod.snd (aP a.a a.t a.k))))))))))) (K (Exit.exit 1) (sp 65 [] (bG x.a)))) := by kernel_rfl
def iT (x : NS) : Bool × (List (Value × AV) × Bool) := c0 getM fh ((fr x.a.ds x.fi).drop x.k.toNat) (aa (x.l.drop x.k.toNat)) (x.a.es, x.a.more)
def IV (x : NS) : Prop := 0 ≤ x.fi ∧ x.fi < x.a.ds.length ∧ (fr x.a.ds x.fi).length = x.l.length ∧ x.l.length ≤ aI ∧ 0 ≤ x.k ∧ x.k ≤ x.l.length ∧ aH (aa (x.l.drop x.k.toNat)) ≤ 100000
noncomputable def DE (κ : Kp) (x : NS) : Out (Exit × S) := .ax (iT x).1 (.one (.ret, sp 65 [(4, .lit (a6 κ 53))] (bG (dA x.a (iT x).2)))) (.one (.exit 1, sp 65 [] (bG (dA x.a (iT x).2))))
theorem lAt (κ : Kp) : bg (Ks κ) 12 133 7 (aK 2 MI IV (DE κ)) := by
 refine aO (fun x => x.l.length - x.k.toNat) ?_
 rintro ⟨a, fi, l, k⟩ K ⟨h1, h2, h3, h4, h5, h6, h7⟩ ho
 simp only at h1 h2 h3 h4 h5 h6 h7
 rw [show (Ks κ).P = Pr κ from rfl]
 refine Eq.mpr (xAt κ ⟨a, fi, l, k⟩ _ _ K) ?_
 simp only [aI] at h4
 simp only [DE, Out.run, af] at ho
 have hwl : (ah (ad (nth a.ds fi.toNat) 2)).length = (fr a.ds fi).length := by simp [fr]
 rw [af, aa0, aa2]
 refine ⟨fun hi => ?_, fun hi => ?_⟩
 ·simp only at hi
  have hk : k.toNat < l.length := by omega
  have e := cy l k.toNat hk
  have ew := yG (ds := a.ds) (i := fi) (k := k.toNat) (by omega)
  have hw : iT ⟨a, fi, l, k⟩ = bif (aP a (kp (nth l k.toNat)) (toInt (nth (ah (ad (nth a.ds fi.toNat) 2)) k.toNat))).1 then aP a (kp (nth l k.toNat)) (toInt (nth (ah (ad (nth a.ds fi.toNat) 2)) k.toNat)) else iT ⟨dA a (aP a (kp (nth l k.toNat)) (toInt (nth (ah (ad (nth a.ds fi.toNat) 2)) k.toNat))).2, fi, l, k + 1⟩ := by
   unfold iT aP
   simp only [show (k + 1).toNat = k.toNat + 1 by omega]
   rw [e, ew, c0, fm]; rfl
  rw [e, aH] at h7
  rw [hw] at ho
  simp only [aq, aa1, aa0, hwl]
  refine ⟨⟨h5, hi⟩, ⟨h1, h2⟩, ⟨h5, by omega⟩, ⟨a, kp (nth l k.toNat), toInt (nth (ah (ad (nth a.ds fi.toNat) 2)) k.toNat)⟩, rfl, by show (kp (nth l k.toNat)).tm.gF ≤ 100000; rw [fm]; omega, cu _ _, ?_⟩
  rw [iX, yc, Bool.not_not, af]
  refine ⟨fun e1 => ?_, fun e1 => ?_⟩
  ·simp only [e1, aa7] at ho ⊢
   exact ho.1 trivial
  ·simp only [e1, aa5] at ho
   rw [aU (n := k + 1) (by omega) (by omega)]
   refine ⟨_, ?_, ⟨dA a (aP a (kp (nth l k.toNat)) (toInt (nth (ah (ad (nth a.ds fi.toNat) 2)) k.toNat))).2, fi, l, k + 1⟩, rfl, ⟨h1, h2, h3, by simpa [aI] using h4, by simp only; omega, by simp only; omega, ?_⟩, rfl, ?_⟩
   ·simp only; omega
   ·simp only [show (k + 1).toNat = k.toNat + 1 by omega]; omega
   ·simp only [DE, Out.run, af]
    exact ho
 ·simp only at hi
  have hw : iT ⟨a, fi, l, k⟩ = (false, (a.es, a.more)) := by
   unfold iT
   simp only
   rw [aa8 (show l.length ≤ k.toNat by omega), aa8 (show (fr a.ds fi).length ≤ k.toNat by omega)]; rfl
  rw [hw] at ho
  exact ho.2 rfl
noncomputable def OP (κ : Kp) : Env := (Ks κ).aj 133 7 (aK 2 MI IV (DE κ))
theorem eYl (κ : Kp) : aw (OP κ) := (XH κ).aj (U6 κ) (lAt κ)
theorem Uf (κ : Kp) : ai (OP κ) := (U6 κ).aj aE
theorem YU (κ : Kp) (a : iO) (rel : ByteArray) (l : List AV) (K : AV → List Dn.Obj → Prop) : (a9 (OP κ) 12 133 [BK, .agg [.lit (.string rel), .ae 52 l]] (bG a) K) = (
 letI z1 := Pg.toProgram (Env.P (Ks κ))
 ∃ (a_1 : List AV × ByteArray), ([AV.ae 62 a.ds, AV.str rel], az) = ([AV.ae 62 a_1.1, AV.str a_1.2], az) ∧ jc a_1 ∧ ax (!v8 a_1.2 a_1.1) (K (AV.lit (Value.iface
 189 (Value.pointer (some (Kp.fw κ))))) (bG a)) (aZ (decide ((0 : Int) ≤ jw a_1.2 a_1.1) && decide (jw a_1.2 a_1.1 < (↑(a.ds.length) : Int))) (ax ((↑(List.length
 (ah (ad (nth a.ds (Int.toNat (jw a_1.2 a_1.1))) 2))) : Int) != (↑(l.length) : Int)) (K (AV.lit (Value.iface 189 (Value.pointer (some (Kp.arity κ))))) (bG a))
 (ag z1 133 7 = ag z1 133 7 ∧ ∃ (a_2 : NS), sp 65 [(0, AV.ptr 0 0 [] 0), (5, AV.int (jw a_1.2 a_1.1)), (40, AV.ae 52 l), (41, AV.int (↑(l.length) : Int)), (42,
 AV.int 0)] (bG a) = sp 65 [(0, AV.ptr 0 0 [] 0), (5, AV.int a_2.fi), (40, AV.ae 52 a_2.l), (41, AV.int (↑(a_2.l.length) : Int)), (42, AV.int a_2.k)] (bG a_2.a)
 ∧ ((0 : Int) ≤ a_2.fi ∧ a_2.fi < (↑(List.length a_2.a.ds) : Int) ∧ List.length (fr a_2.a.ds a_2.fi) = a_2.l.length ∧ a_2.l.length ≤ 9223372036854775807 ∧ (0 :
 Int) ≤ a_2.k ∧ a_2.k ≤ (↑(a_2.l.length) : Int) ∧ aH (aa (List.drop a_2.k.toNat a_2.l)) ≤ 100000) ∧ ax (Prod.fst (iT a_2)) (K (AV.lit (Value.iface 189
 (Value.pointer (some (LQ κ (53 : Int)))))) (bG (dA a_2.a (Prod.snd (iT a_2))))) (K (AV.lit Value.nilIface) (bG (dA a_2.a (Prod.snd (iT a_2))))))))) := by kernel_rfl
def di (a : iO) (rel : ByteArray) (l : List AV) : Int × (List (Value × AV) × Bool) := b8 getM fh (aQ a.ds) ⟨rel, aa l⟩ (a.es, a.more)
abbrev MQ := iO × ByteArray × List AV
def Qu (x : MQ) : List AV × List Dn.Obj := ([BK, .agg [.lit (.string x.2.1), .ae 52 x.2.2]], bG x.1)
def Js (x : MQ) : Prop := x.1.ds.length ≤ aI ∧ aH (aa x.2.2) ≤ 100000
noncomputable def Je (κ : Kp) (x : MQ) : Out (AV × List Dn.Obj) := .one (.lit (a6 κ (di x.1 x.2.1 x.2.2).1), bG (dA x.1 (di x.1 x.2.1 x.2.2).2))
theorem WL (κ : Kp) : bJ (OP κ) 12 133 (a8 Qu Js (Je κ)) := by
 refine bh ?_
 rintro ⟨a, rel, l⟩ K ⟨h1, h2⟩ ho
 simp only at h1 h2
 refine Eq.mpr (YU κ a rel l K) ?_
 simp only [Je, Out.run, di, b8, rG] at ho
 have hl := dh (aa l)
 rw [cL] at hl
 refine ⟨(a.ds, rel), rfl, h1, ?_⟩
 cases hf : ie rel (aQ a.ds) with
 | none =>
  rw [(nR hf).1] at ho
  simp only [(nR hf).1]
  exact ho
 | some k =>
  obtain ⟨e1, e2, e3⟩ := nd hf
  rw [e1, e2, uK hf] at ho
  have hwl : (ah (ad (nth a.ds (Int.toNat (k : Int))) 2)).length = (fr a.ds k).length := by simp [fr]
  simp only [e1, e2, hwl, sD]
  refine aq.2 ⟨by simp; omega, ?_⟩
  cases hq : decide ((fr a.ds k).length = l.length) with
  | false =>
   rw [hq] at ho
   rw [aa2] at hq
   rw [aa4 (show ¬ (((fr a.ds k).length : Int) = (l.length : Int)) by omega)]
   exact ho
  | true =>
   rw [hq] at ho
   rw [aa0] at hq
   rw [aa6 (show (((fr a.ds k).length : Int) = (l.length : Int)) by omega)]
   refine ⟨trivial, ⟨a, k, l, 0⟩, rfl, ⟨by simp only; omega, by simp only; omega, hq, by simp only [aI]; omega, by simp only; omega, by simp only; omega, by simp only [ab8, ab0]; exact h2⟩, ?_⟩
   have hd : iT ⟨a, k, l, 0⟩ = c0 getM fh (fr a.ds k) (aa l) (a.es, a.more) := by
    unfold iT; simp only [ab8, ab0]
   rw [hd]
   simp only [aa7, decide_true] at ho
   rw [af]
   refine ⟨fun e => by rw [e] at ho; exact ho, fun e => by rw [e] at ho; exact ho⟩
noncomputable def OY (κ : Kp) : Env := (OP κ).ar 133 (a8 Qu Js (Je κ))
theorem eYa (κ : Kp) : aw (OY κ) := (eYl κ).ar (Uf κ) (WL κ)
theorem TC (κ : Kp) : ai (OY κ) := (Uf κ).ar aJ
theorem Wx (κ : Kp) (a : iO) (op : Int) (rel : ByteArray) (l : List AV) (u v : AT) (K : AV → List Dn.Obj → Prop) : (a9 (OY κ) 12 134 [BK, .agg [.int op, .agg [.lit (.string rel), .ae 52 l], cI u, cI v]] (bG a) K) = (
 ax (op == (3 : Int)) ((∃ (a_1 : iO × AT), ([AV.ptr 0 0 [] 0, cI u], (bG a)) = ([AV.ptr 0 0 [] 0, cI a_1.2], (bG a_1.1)) ∧ True ∧ ∃ (a : iO × AT), ([AV.ptr
 0 0 [] 0, cI v], (bG a_1.1)) = ([AV.ptr 0 0 [] 0, cI a.2], (bG a.1)) ∧ True ∧ ∃ (a_2 : oz), ([AV.ptr 0 0 [] 0, cI u, AV.int (if a5 getM (AT.tm a.2)
 a.1.es > a5 getM (AT.tm a_1.2) a_1.1.es then a5 getM (AT.tm a.2) a.1.es else a5 getM (AT.tm a_1.2) a_1.1.es)], (bG a.1)) = ([AV.ptr 0 0 [] 0, cI a_2.t,
 AV.int a_2.k], (bG a_2.a)) ∧ c8 a_2 ∧ aZ (aC (a6 κ (gL (Prod.fst (aP a_2.a a_2.t a_2.k))))) (ax (!bF (a6 κ (gL (Prod.fst (aP a_2.a
 a_2.t a_2.k))))) (K (AV.lit (a6 κ (gL (Prod.fst (aP a_2.a a_2.t a_2.k))))) (bG (dA a_2.a (Prod.snd (aP a_2.a a_2.t a_2.k))))) (∃ (a_3 : oz),
 ([AV.ptr 0 0 [] 0, cI v, AV.int (if a5 getM (AT.tm a.2) a.1.es > a5 getM (AT.tm a_1.2) a_1.1.es then a5 getM (AT.tm a.2) a.1.es else a5 getM (AT.tm
 a_1.2) a_1.1.es)], (bG (dA a_2.a (Prod.snd (aP a_2.a a_2.t a_2.k))))) = ([AV.ptr 0 0 [] 0, cI a_3.t, AV.int a_3.k], (bG a_3.a)) ∧ c8 a_3 ∧ K (AV.lit
 (a6 κ (gL (Prod.fst (aP a_3.a a_3.t a_3.k))))) (bG (dA a_3.a (Prod.snd (aP a_3.a a_3.t a_3.k))))))) ∧ (∃ (a_1 : iO × AT), ([AV.ptr 0 0 [] 0, cI
 u], (bG a)) = ([AV.ptr 0 0 [] 0, cI a_1.2], (bG a_1.1)) ∧ True ∧ ∃ (a : iO × AT), ([AV.ptr 0 0 [] 0, cI v], (bG a_1.1)) = ([AV.ptr 0 0 [] 0, cI a.2],
 (bG a.1)) ∧ True ∧ ∃ (a_2 : oz), ([AV.ptr 0 0 [] 0, cI u, AV.int (if a5 getM (AT.tm a.2) a.1.es > a5 getM (AT.tm a_1.2) a_1.1.es then a5 getM (AT.tm
 a.2) a.1.es else a5 getM (AT.tm a_1.2) a_1.1.es)], (bG a.1)) = ([AV.ptr 0 0 [] 0, cI a_2.t, AV.int a_2.k], (bG a_2.a)) ∧ c8 a_2 ∧ aZ (aC (a6 κ
 (gL (Prod.fst (aP a_2.a a_2.t a_2.k))))) (ax (!bF (a6 κ (gL (Prod.fst (aP a_2.a a_2.t a_2.k))))) (K (AV.lit (a6 κ (gL (Prod.fst (aP a_2.a
 a_2.t a_2.k))))) (bG (dA a_2.a (Prod.snd (aP a_2.a a_2.t a_2.k))))) (∃ (a_3 : oz), ([AV.ptr 0 0 [] 0, cI v, AV.int (if a5 getM (AT.tm a.2) a.1.es >
 a5 getM (AT.tm a_1.2) a_1.1.es then a5 getM (AT.tm a.2) a.1.es else a5 getM (AT.tm a_1.2) a_1.1.es)], (bG (dA a_2.a (Prod.snd (aP a_2.a a_2.t
 a_2.k))))) = ([AV.ptr 0 0 [] 0, cI a_3.t, AV.int a_3.k], (bG a_3.a)) ∧ c8 a_3 ∧ K (AV.lit (a6 κ (gL (Prod.fst (aP a_3.a a_3.t a_3.k))))) (bG (dA
 a_3.a (Prod.snd (aP a_3.a a_3.t a_3.k))))))) ∧ ∃ (a_1 : iO × AT), ([AV.ptr 0 0 [] 0, cI u], (bG a)) = ([AV.ptr 0 0 [] 0, cI a_1.2], (bG a_1.1)) ∧ True
 ∧ ∃ (a : iO × AT), ([AV.ptr 0 0 [] 0, cI v], (bG a_1.1)) = ([AV.ptr 0 0 [] 0, cI a.2], (bG a.1)) ∧ True ∧ ∃ (a_2 : oz), ([AV.ptr 0 0 [] 0, cI u, AV.int
 (if a5 getM (AT.tm a.2) a.1.es > a5 getM (AT.tm a_1.2) a_1.1.es then a5 getM (AT.tm a.2) a.1.es else a5 getM (AT.tm a_1.2) a_1.1.es)], (bG a.1)) =
 ([AV.ptr 0 0 [] 0, cI a_2.t, AV.int a_2.k], (bG a_2.a)) ∧ c8 a_2 ∧ aZ (aC (a6 κ (gL (Prod.fst (aP a_2.a a_2.t a_2.k))))) (ax (!bF (a6 κ
 (gL (Prod.fst (aP a_2.a a_2.t a_2.k))))) (K (AV.lit (a6 κ (gL (Prod.fst (aP a_2.a a_2.t a_2.k))))) (bG (dA a_2.a (Prod.snd (aP a_2.a a_2.t
 a_2.k))))) (∃ (a_3 : oz), ([AV.ptr 0 0 [] 0, cI v, AV.int (if a5 getM (AT.tm a.2) a.1.es > a5 getM (AT.tm a_1.2) a_1.1.es then a5 getM (AT.tm a.2)
 a.1.es else a5 getM (AT.tm a_1.2) a_1.1.es)], (bG (dA a_2.a (Prod.snd (aP a_2.a a_2.t a_2.k))))) = ([AV.ptr 0 0 [] 0, cI a_3.t, AV.int a_3.k], (bG
 a_3.a)) ∧ c8 a_3 ∧ K (AV.lit (a6 κ (gL (Prod.fst (aP a_3.a a_3.t a_3.k))))) (bG (dA a_3.a (Prod.snd (aP a_3.a a_3.t a_3.k))))))) (ax (op == (4
 : Int)) ((∃ (a_1 : iO × AT), ([AV.ptr 0 0 [] 0, cI u], (bG a)) = ([AV.ptr 0 0 [] 0, cI a_1.2], (bG a_1.1)) ∧ True ∧ ∃ (a : iO × AT), ([AV.ptr 0 0 [] 0,
 cI v], (bG a_1.1)) = ([AV.ptr 0 0 [] 0, cI a.2], (bG a.1)) ∧ True ∧ ∃ (a_2 : oz), ([AV.ptr 0 0 [] 0, cI u, AV.int (if a5 getM (AT.tm a.2) a.1.es > a5
 getM (AT.tm a_1.2) a_1.1.es then a5 getM (AT.tm a.2) a.1.es else a5 getM (AT.tm a_1.2) a_1.1.es)], (bG a.1)) = ([AV.ptr 0 0 [] 0, cI a_2.t, AV.int
 a_2.k], (bG a_2.a)) ∧ c8 a_2 ∧ aZ (aC (a6 κ (gL (Prod.fst (aP a_2.a a_2.t a_2.k))))) (ax (!bF (a6 κ (gL (Prod.fst (aP a_2.a a_2.t
 a_2.k))))) (K (AV.lit (a6 κ (gL (Prod.fst (aP a_2.a a_2.t a_2.k))))) (bG (dA a_2.a (Prod.snd (aP a_2.a a_2.t a_2.k))))) (∃ (a_3 : oz), ([AV.ptr 0 0
 [] 0, cI v, AV.int (if a5 getM (AT.tm a.2) a.1.es > a5 getM (AT.tm a_1.2) a_1.1.es then a5 getM (AT.tm a.2) a.1.es else a5 getM (AT.tm a_1.2)
 a_1.1.es)], (bG (dA a_2.a (Prod.snd (aP a_2.a a_2.t a_2.k))))) = ([AV.ptr 0 0 [] 0, cI a_3.t, AV.int a_3.k], (bG a_3.a)) ∧ c8 a_3 ∧ K (AV.lit (a6
 κ (gL (Prod.fst (aP a_3.a a_3.t a_3.k))))) (bG (dA a_3.a (Prod.snd (aP a_3.a a_3.t a_3.k))))))) ∧ (∃ (a_1 : iO × AT), ([AV.ptr 0 0 [] 0, cI u], (bG
 a)) = ([AV.ptr 0 0 [] 0, cI a_1.2], (bG a_1.1)) ∧ True ∧ ∃ (a : iO × AT), ([AV.ptr 0 0 [] 0, cI v], (bG a_1.1)) = ([AV.ptr 0 0 [] 0, cI a.2], (bG a.1))
 ∧ True ∧ ∃ (a_2 : oz), ([AV.ptr 0 0 [] 0, cI u, AV.int (if a5 getM (AT.tm a.2) a.1.es > a5 getM (AT.tm a_1.2) a_1.1.es then a5 getM (AT.tm a.2) a.1.es
 else a5 getM (AT.tm a_1.2) a_1.1.es)], (bG a.1)) = ([AV.ptr 0 0 [] 0, cI a_2.t, AV.int a_2.k], (bG a_2.a)) ∧ c8 a_2 ∧ aZ (aC (a6 κ (gL
 (Prod.fst (aP a_2.a a_2.t a_2.k))))) (ax (!bF (a6 κ (gL (Prod.fst (aP a_2.a a_2.t a_2.k))))) (K (AV.lit (a6 κ (gL (Prod.fst (aP a_2.a a_2.t
 a_2.k))))) (bG (dA a_2.a (Prod.snd (aP a_2.a a_2.t a_2.k))))) (∃ (a_3 : oz), ([AV.ptr 0 0 [] 0, cI v, AV.int (if a5 getM (AT.tm a.2) a.1.es > a5
 getM (AT.tm a_1.2) a_1.1.es then a5 getM (AT.tm a.2) a.1.es else a5 getM (AT.tm a_1.2) a_1.1.es)], (bG (dA a_2.a (Prod.snd (aP a_2.a a_2.t a_2.k)))))
 = ([AV.ptr 0 0 [] 0, cI a_3.t, AV.int a_3.k], (bG a_3.a)) ∧ c8 a_3 ∧ K (AV.lit (a6 κ (gL (Prod.fst (aP a_3.a a_3.t a_3.k))))) (bG (dA a_3.a
 (Prod.snd (aP a_3.a a_3.t a_3.k))))))) ∧ ∃ (a_1 : iO × AT), ([AV.ptr 0 0 [] 0, cI u], (bG a)) = ([AV.ptr 0 0 [] 0, cI a_1.2], (bG a_1.1)) ∧ True ∧ ∃ (a
 : iO × AT), ([AV.ptr 0 0 [] 0, cI v], (bG a_1.1)) = ([AV.ptr 0 0 [] 0, cI a.2], (bG a.1)) ∧ True ∧ ∃ (a_2 : oz), ([AV.ptr 0 0 [] 0, cI u, AV.int (if
 a5 getM (AT.tm a.2) a.1.es > a5 getM (AT.tm a_1.2) a_1.1.es then a5 getM (AT.tm a.2) a.1.es else a5 getM (AT.tm a_1.2) a_1.1.es)], (bG a.1)) =
 ([AV.ptr 0 0 [] 0, cI a_2.t, AV.int a_2.k], (bG a_2.a)) ∧ c8 a_2 ∧ aZ (aC (a6 κ (gL (Prod.fst (aP a_2.a a_2.t a_2.k))))) (ax (!bF (a6 κ
 (gL (Prod.fst (aP a_2.a a_2.t a_2.k))))) (K (AV.lit (a6 κ (gL (Prod.fst (aP a_2.a a_2.t a_2.k))))) (bG (dA a_2.a (Prod.snd (aP a_2.a a_2.t
 a_2.k))))) (∃ (a_3 : oz), ([AV.ptr 0 0 [] 0, cI v, AV.int (if a5 getM (AT.tm a.2) a.1.es > a5 getM (AT.tm a_1.2) a_1.1.es then a5 getM (AT.tm a.2)
 a.1.es else a5 getM (AT.tm a_1.2) a_1.1.es)], (bG (dA a_2.a (Prod.snd (aP a_2.a a_2.t a_2.k))))) = ([AV.ptr 0 0 [] 0, cI a_3.t, AV.int a_3.k], (bG
 a_3.a)) ∧ c8 a_3 ∧ K (AV.lit (a6 κ (gL (Prod.fst (aP a_3.a a_3.t a_3.k))))) (bG (dA a_3.a (Prod.snd (aP a_3.a a_3.t a_3.k))))))) (ax (op == (5
 : Int)) ((∃ (a_1 : iO × AT), ([AV.ptr 0 0 [] 0, cI u], (bG a)) = ([AV.ptr 0 0 [] 0, cI a_1.2], (bG a_1.1)) ∧ True ∧ ∃ (a : iO × AT), ([AV.ptr 0 0 [] 0,
 cI v], (bG a_1.1)) = ([AV.ptr 0 0 [] 0, cI a.2], (bG a.1)) ∧ True ∧ ∃ (a_2 : oz), ([AV.ptr 0 0 [] 0, cI u, AV.int (if a5 getM (AT.tm a.2) a.1.es > a5
 getM (AT.tm a_1.2) a_1.1.es then a5 getM (AT.tm a.2) a.1.es else a5 getM (AT.tm a_1.2) a_1.1.es)], (bG a.1)) = ([AV.ptr 0 0 [] 0, cI a_2.t, AV.int
 a_2.k], (bG a_2.a)) ∧ c8 a_2 ∧ aZ (aC (a6 κ (gL (Prod.fst (aP a_2.a a_2.t a_2.k))))) (ax (!bF (a6 κ (gL (Prod.fst (aP a_2.a a_2.t
 a_2.k))))) (K (AV.lit (a6 κ (gL (Prod.fst (aP a_2.a a_2.t a_2.k))))) (bG (dA a_2.a (Prod.snd (aP a_2.a a_2.t a_2.k))))) (∃ (a_3 : oz), ([AV.ptr 0 0
 [] 0, cI v, AV.int (if a5 getM (AT.tm a.2) a.1.es > a5 getM (AT.tm a_1.2) a_1.1.es then a5 getM (AT.tm a.2) a.1.es else a5 getM (AT.tm a_1.2)
 a_1.1.es)], (bG (dA a_2.a (Prod.snd (aP a_2.a a_2.t a_2.k))))) = ([AV.ptr 0 0 [] 0, cI a_3.t, AV.int a_3.k], (bG a_3.a)) ∧ c8 a_3 ∧ K (AV.lit (a6
 κ (gL (Prod.fst (aP a_3.a a_3.t a_3.k))))) (bG (dA a_3.a (Prod.snd (aP a_3.a a_3.t a_3.k))))))) ∧ (∃ (a_1 : iO × AT), ([AV.ptr 0 0 [] 0, cI u], (bG
 a)) = ([AV.ptr 0 0 [] 0, cI a_1.2], (bG a_1.1)) ∧ True ∧ ∃ (a : iO × AT), ([AV.ptr 0 0 [] 0, cI v], (bG a_1.1)) = ([AV.ptr 0 0 [] 0, cI a.2], (bG a.1))
 ∧ True ∧ ∃ (a_2 : oz), ([AV.ptr 0 0 [] 0, cI u, AV.int (if a5 getM (AT.tm a.2) a.1.es > a5 getM (AT.tm a_1.2) a_1.1.es then a5 getM (AT.tm a.2) a.1.es
 else a5 getM (AT.tm a_1.2) a_1.1.es)], (bG a.1)) = ([AV.ptr 0 0 [] 0, cI a_2.t, AV.int a_2.k], (bG a_2.a)) ∧ c8 a_2 ∧ aZ (aC (a6 κ (gL
 (Prod.fst (aP a_2.a a_2.t a_2.k))))) (ax (!bF (a6 κ (gL (Prod.fst (aP a_2.a a_2.t a_2.k))))) (K (AV.lit (a6 κ (gL (Prod.fst (aP a_2.a a_2.t
 a_2.k))))) (bG (dA a_2.a (Prod.snd (aP a_2.a a_2.t a_2.k))))) (∃ (a_3 : oz), ([AV.ptr 0 0 [] 0, cI v, AV.int (if a5 getM (AT.tm a.2) a.1.es > a5
 getM (AT.tm a_1.2) a_1.1.es then a5 getM (AT.tm a.2) a.1.es else a5 getM (AT.tm a_1.2) a_1.1.es)], (bG (dA a_2.a (Prod.snd (aP a_2.a a_2.t a_2.k)))))
 = ([AV.ptr 0 0 [] 0, cI a_3.t, AV.int a_3.k], (bG a_3.a)) ∧ c8 a_3 ∧ K (AV.lit (a6 κ (gL (Prod.fst (aP a_3.a a_3.t a_3.k))))) (bG (dA a_3.a
 (Prod.snd (aP a_3.a a_3.t a_3.k))))))) ∧ ∃ (a_1 : iO × AT), ([AV.ptr 0 0 [] 0, cI u], (bG a)) = ([AV.ptr 0 0 [] 0, cI a_1.2], (bG a_1.1)) ∧ True ∧ ∃ (a
 : iO × AT), ([AV.ptr 0 0 [] 0, cI v], (bG a_1.1)) = ([AV.ptr 0 0 [] 0, cI a.2], (bG a.1)) ∧ True ∧ ∃ (a_2 : oz), ([AV.ptr 0 0 [] 0, cI u, AV.int (if
 a5 getM (AT.tm a.2) a.1.es > a5 getM (AT.tm a_1.2) a_1.1.es then a5 getM (AT.tm a.2) a.1.es else a5 getM (AT.tm a_1.2) a_1.1.es)], (bG a.1)) =
 ([AV.ptr 0 0 [] 0, cI a_2.t, AV.int a_2.k], (bG a_2.a)) ∧ c8 a_2 ∧ aZ (aC (a6 κ (gL (Prod.fst (aP a_2.a a_2.t a_2.k))))) (ax (!bF (a6 κ
 (gL (Prod.fst (aP a_2.a a_2.t a_2.k))))) (K (AV.lit (a6 κ (gL (Prod.fst (aP a_2.a a_2.t a_2.k))))) (bG (dA a_2.a (Prod.snd (aP a_2.a a_2.t
 a_2.k))))) (∃ (a_3 : oz), ([AV.ptr 0 0 [] 0, cI v, AV.int (if a5 getM (AT.tm a.2) a.1.es > a5 getM (AT.tm a_1.2) a_1.1.es then a5 getM (AT.tm a.2)
 a.1.es else a5 getM (AT.tm a_1.2) a_1.1.es)], (bG (dA a_2.a (Prod.snd (aP a_2.a a_2.t a_2.k))))) = ([AV.ptr 0 0 [] 0, cI a_3.t, AV.int a_3.k], (bG
 a_3.a)) ∧ c8 a_3 ∧ K (AV.lit (a6 κ (gL (Prod.fst (aP a_3.a a_3.t a_3.k))))) (bG (dA a_3.a (Prod.snd (aP a_3.a a_3.t a_3.k))))))) (ax (op == (6
 : Int)) ((∃ (a_1 : iO × AT), ([AV.ptr 0 0 [] 0, cI u], (bG a)) = ([AV.ptr 0 0 [] 0, cI a_1.2], (bG a_1.1)) ∧ True ∧ ∃ (a : iO × AT), ([AV.ptr 0 0 [] 0,
 cI v], (bG a_1.1)) = ([AV.ptr 0 0 [] 0, cI a.2], (bG a.1)) ∧ True ∧ ∃ (a_2 : oz), ([AV.ptr 0 0 [] 0, cI u, AV.int (if a5 getM (AT.tm a.2) a.1.es > a5
 getM (AT.tm a_1.2) a_1.1.es then a5 getM (AT.tm a.2) a.1.es else a5 getM (AT.tm a_1.2) a_1.1.es)], (bG a.1)) = ([AV.ptr 0 0 [] 0, cI a_2.t, AV.int
 a_2.k], (bG a_2.a)) ∧ c8 a_2 ∧ aZ (aC (a6 κ (gL (Prod.fst (aP a_2.a a_2.t a_2.k))))) (ax (!bF (a6 κ (gL (Prod.fst (aP a_2.a a_2.t
 a_2.k))))) (K (AV.lit (a6 κ (gL (Prod.fst (aP a_2.a a_2.t a_2.k))))) (bG (dA a_2.a (Prod.snd (aP a_2.a a_2.t a_2.k))))) (∃ (a_3 : oz), ([AV.ptr 0 0
 [] 0, cI v, AV.int (if a5 getM (AT.tm a.2) a.1.es > a5 getM (AT.tm a_1.2) a_1.1.es then a5 getM (AT.tm a.2) a.1.es else a5 getM (AT.tm a_1.2)
 a_1.1.es)], (bG (dA a_2.a (Prod.snd (aP a_2.a a_2.t a_2.k))))) = ([AV.ptr 0 0 [] 0, cI a_3.t, AV.int a_3.k], (bG a_3.a)) ∧ c8 a_3 ∧ K (AV.lit (a6
 κ (gL (Prod.fst (aP a_3.a a_3.t a_3.k))))) (bG (dA a_3.a (Prod.snd (aP a_3.a a_3.t a_3.k))))))) ∧ (∃ (a_1 : iO × AT), ([AV.ptr 0 0 [] 0, cI u], (bG
 a)) = ([AV.ptr 0 0 [] 0, cI a_1.2], (bG a_1.1)) ∧ True ∧ ∃ (a : iO × AT), ([AV.ptr 0 0 [] 0, cI v], (bG a_1.1)) = ([AV.ptr 0 0 [] 0, cI a.2], (bG a.1))
 ∧ True ∧ ∃ (a_2 : oz), ([AV.ptr 0 0 [] 0, cI u, AV.int (if a5 getM (AT.tm a.2) a.1.es > a5 getM (AT.tm a_1.2) a_1.1.es then a5 getM (AT.tm a.2) a.1.es
 else a5 getM (AT.tm a_1.2) a_1.1.es)], (bG a.1)) = ([AV.ptr 0 0 [] 0, cI a_2.t, AV.int a_2.k], (bG a_2.a)) ∧ c8 a_2 ∧ aZ (aC (a6 κ (gL
 (Prod.fst (aP a_2.a a_2.t a_2.k))))) (ax (!bF (a6 κ (gL (Prod.fst (aP a_2.a a_2.t a_2.k))))) (K (AV.lit (a6 κ (gL (Prod.fst (aP a_2.a a_2.t
 a_2.k))))) (bG (dA a_2.a (Prod.snd (aP a_2.a a_2.t a_2.k))))) (∃ (a_3 : oz), ([AV.ptr 0 0 [] 0, cI v, AV.int (if a5 getM (AT.tm a.2) a.1.es > a5
 getM (AT.tm a_1.2) a_1.1.es then a5 getM (AT.tm a.2) a.1.es else a5 getM (AT.tm a_1.2) a_1.1.es)], (bG (dA a_2.a (Prod.snd (aP a_2.a a_2.t a_2.k)))))
 = ([AV.ptr 0 0 [] 0, cI a_3.t, AV.int a_3.k], (bG a_3.a)) ∧ c8 a_3 ∧ K (AV.lit (a6 κ (gL (Prod.fst (aP a_3.a a_3.t a_3.k))))) (bG (dA a_3.a
 (Prod.snd (aP a_3.a a_3.t a_3.k))))))) ∧ ∃ (a_1 : iO × AT), ([AV.ptr 0 0 [] 0, cI u], (bG a)) = ([AV.ptr 0 0 [] 0, cI a_1.2], (bG a_1.1)) ∧ True ∧ ∃ (a
 : iO × AT), ([AV.ptr 0 0 [] 0, cI v], (bG a_1.1)) = ([AV.ptr 0 0 [] 0, cI a.2], (bG a.1)) ∧ True ∧ ∃ (a_2 : oz), ([AV.ptr 0 0 [] 0, cI u, AV.int (if
 a5 getM (AT.tm a.2) a.1.es > a5 getM (AT.tm a_1.2) a_1.1.es then a5 getM (AT.tm a.2) a.1.es else a5 getM (AT.tm a_1.2) a_1.1.es)], (bG a.1)) =
 ([AV.ptr 0 0 [] 0, cI a_2.t, AV.int a_2.k], (bG a_2.a)) ∧ c8 a_2 ∧ aZ (aC (a6 κ (gL (Prod.fst (aP a_2.a a_2.t a_2.k))))) (ax (!bF (a6 κ
 (gL (Prod.fst (aP a_2.a a_2.t a_2.k))))) (K (AV.lit (a6 κ (gL (Prod.fst (aP a_2.a a_2.t a_2.k))))) (bG (dA a_2.a (Prod.snd (aP a_2.a a_2.t
 a_2.k))))) (∃ (a_3 : oz), ([AV.ptr 0 0 [] 0, cI v, AV.int (if a5 getM (AT.tm a.2) a.1.es > a5 getM (AT.tm a_1.2) a_1.1.es then a5 getM (AT.tm a.2)
 a.1.es else a5 getM (AT.tm a_1.2) a_1.1.es)], (bG (dA a_2.a (Prod.snd (aP a_2.a a_2.t a_2.k))))) = ([AV.ptr 0 0 [] 0, cI a_3.t, AV.int a_3.k], (bG
 a_3.a)) ∧ c8 a_3 ∧ K (AV.lit (a6 κ (gL (Prod.fst (aP a_3.a a_3.t a_3.k))))) (bG (dA a_3.a (Prod.snd (aP a_3.a a_3.t a_3.k))))))) (ax (op == (1
 : Int)) (∃ (a_1 : MQ), ([AV.ptr 0 0 [] 0, AV.agg [AV.str rel, AV.ae 52 l]], (bG a)) = ([AV.ptr 0 0 [] 0, AV.agg [AV.str a_1.2.1, AV.ae 52 a_1.2.2]], (bG
 a_1.1)) ∧ (a_1.1.ds.length ≤ 9223372036854775807 ∧ aH (aa a_1.2.2) ≤ 100000) ∧ K (AV.lit (a6 κ (Prod.fst (di a_1.1 a_1.2.1 a_1.2.2)))) (bG (dA
 a_1.1 (Prod.snd (di a_1.1 a_1.2.1 a_1.2.2))))) (ax (op == (2 : Int)) (∃ (a_1 : MQ), ([AV.ptr 0 0 [] 0, AV.agg [AV.str rel, AV.ae 52 l]], (bG a)) =
 ([AV.ptr 0 0 [] 0, AV.agg [AV.str a_1.2.1, AV.ae 52 a_1.2.2]], (bG a_1.1)) ∧ (a_1.1.ds.length ≤ 9223372036854775807 ∧ aH (aa a_1.2.2) ≤ 100000) ∧ K
 (AV.lit (a6 κ (Prod.fst (di a_1.1 a_1.2.1 a_1.2.2)))) (bG (dA a_1.1 (Prod.snd (di a_1.1 a_1.2.1 a_1.2.2))))) (∃ (a_1 : MQ), ([AV.ptr 0 0 [] 0,
 AV.agg [AV.str rel, AV.ae 52 l]], (bG a)) = ([AV.ptr 0 0 [] 0, AV.agg [AV.str a_1.2.1, AV.ae 52 a_1.2.2]], (bG a_1.1)) ∧ (a_1.1.ds.length ≤
 9223372036854775807 ∧ aH (aa a_1.2.2) ≤ 100000) ∧ aZ (aC (a6 κ (Prod.fst (di a_1.1 a_1.2.1 a_1.2.2)))) (ax (!bF (a6 κ (Prod.fst (di
 a_1.1 a_1.2.1 a_1.2.2)))) (K (AV.lit (a6 κ (Prod.fst (di a_1.1 a_1.2.1 a_1.2.2)))) (bG (dA a_1.1 (Prod.snd (di a_1.1 a_1.2.1 a_1.2.2))))) (∃ (a :
 oz), ([AV.ptr 0 0 [] 0, cI u, AV.int 1], (bG (dA a_1.1 (Prod.snd (di a_1.1 a_1.2.1 a_1.2.2))))) = ([AV.ptr 0 0 [] 0, cI a.t, AV.int a.k], (bG a.a)) ∧
 c8 a ∧ aZ (aC (a6 κ (gL (Prod.fst (aP a.a a.t a.k))))) (ax (!bF (a6 κ (gL (Prod.fst (aP a.a a.t a.k))))) (K (AV.lit (a6 κ (gL
 (Prod.fst (aP a.a a.t a.k))))) (bG (dA a.a (Prod.snd (aP a.a a.t a.k))))) (ax (op == (7 : Int)) (K (AV.lit (a6 κ (gL (Prod.fst (aP a.a a.t
 a.k))))) (bG (dA a.a (Prod.snd (aP a.a a.t a.k))))) (∃ (a_2 : oz), ([AV.ptr 0 0 [] 0, cI v, AV.int 1], (bG (dA a.a (Prod.snd (aP a.a a.t a.k))))) =
 ([AV.ptr 0 0 [] 0, cI a_2.t, AV.int a_2.k], (bG a_2.a)) ∧ c8 a_2 ∧ K (AV.lit (a6 κ (gL (Prod.fst (aP a_2.a a_2.t a_2.k))))) (bG (dA a_2.a
 (Prod.snd (aP a_2.a a_2.t a_2.k)))))))))))))))) := by kernel_rfl
structure Dt where
 a : iO
 op : Int
 rel : ByteArray
 l : List AV
 u : AT
 v : AT
def Dt.lt (x : Dt) : Lt := ⟨x.op, ⟨x.rel, aa x.l⟩, x.u.tm, x.v.tm⟩
def bQ (x : Dt) : Int × (List (Value × AV) × Bool) := ia getM fh (aQ x.a.ds) x.lt (x.a.es, x.a.more)
def Oj (x : Dt) : List AV × List Dn.Obj := ([BK, .agg [.int x.op, .agg [.lit (.string x.rel), .ae 52 x.l], cI x.u, cI x.v]], bG x.a)
def GN (x : Dt) : Prop := x.a.ds.length ≤ aI ∧ dC x.lt ≤ 100000
noncomputable def L8 (κ : Kp) (x : Dt) : Out (AV × List Dn.Obj) := .one (.lit (a6 κ (bQ x).1), bG (dA x.a (bQ x).2))
def kd (a : iO) (u v : AT) : Int := if a5 getM v.tm a.es > a5 getM u.tm a.es then a5 getM v.tm a.es else a5 getM u.tm a.es
theorem P7 (x : Dt) : dd getM x.lt x.a.es = kd x.a x.u x.v := by
 unfold dd kd
 show (bif decide (a5 getM x.v.tm x.a.es > a5 getM x.u.tm x.a.es) then _ else _) = _
 by_cases h : a5 getM x.v.tm x.a.es > a5 getM x.u.tm x.a.es
 ·rw [aa6 h, if_pos h]; rfl
 ·rw [aa4 h, if_neg h]; rfl
theorem yi (κ : Kp) (b : Bool) : (!bF (a6 κ (gL b))) = b := by rw [iX, yc, Bool.not_not]
theorem Wp (κ : Kp) : bJ (OY κ) 12 134 (a8 Oj GN (L8 κ)) := by
 refine bh ?_
 rintro ⟨a, op, rel, l, u, v⟩ K ⟨h1, h2⟩ ho
 simp only at h1
 refine Eq.mpr (Wx κ a op rel l u v K) ?_
 have ho : K (.lit (a6 κ (bQ ⟨a, op, rel, l, u, v⟩).1)) (bG (dA a (bQ ⟨a, op, rel, l, u, v⟩).2)) := ho
 have h2 : aH [u.tm, v.tm] + aH (aa l) ≤ 100000 := h2
 simp only [aH] at h2
 have hu : c8 ⟨a, u, kd a u v⟩ := by show u.tm.gF ≤ 100000; omega
 have hv : c8 ⟨dA a (aP a u (kd a u v)).2, v, kd a u v⟩ := by show v.tm.gF ≤ 100000; omega
 have both : cX op = true → bQ ⟨a, op, rel, l, u, v⟩ = iF (aP a u (kd a u v)) (v.tm.want getM fh (kd a u v)) := fun hc => by
  unfold bQ ia
  rw [P7 ⟨a, op, rel, l, u, v⟩, show (Dt.lt ⟨a, op, rel, l, u, v⟩).op = op from rfl, hc]; rfl
 have c1 : cX op = true → (!bF (a6 κ (gL (aP a u (kd a u v)).1))) = true → K (.lit (a6 κ (gL (aP a u (kd a u v)).1))) (bG (dA a (aP a u (kd a u v)).2)) := fun hc q => by
  rw [yi] at q
  rw [both hc] at ho
  unfold iF at ho
  rw [q] at ho ⊢
  exact ho
 have c2 : cX op = true → (!bF (a6 κ (gL (aP a u (kd a u v)).1))) = false → K (.lit (a6 κ (gL (aP (dA a (aP a u (kd a u v)).2) v (kd a u v)).1))) (bG (dA (dA a (aP a u (kd a u v)).2) (aP (dA a (aP a u (kd a u v)).2) v (kd a u v)).2)) := fun hc q => by
  rw [yi] at q
  rw [both hc] at ho
  unfold iF at ho
  rw [q] at ho
  exact ho
 have hat : ∀ b : iO, b = a → (b.ds.length ≤ 9223372036854775807 ∧ aH (aa l) ≤ 100000) := fun b hb => by subst hb; exact ⟨h1, by omega⟩
 have nc : cX op = false → (decide (op = 1) || decide (op = 2)) = true → bQ ⟨a, op, rel, l, u, v⟩ = di a rel l := fun hc h12 => by
  unfold bQ ia
  rw [show (Dt.lt ⟨a, op, rel, l, u, v⟩).op = op from rfl, hc, h12]; rfl
 refine af.2 ⟨fun e => by
   have hc : cX op = true := (by rw [show op = 3 from eq_of_beq e]; rfl)
   exact ⟨⟨(a, u), rfl, trivial, (a, v), rfl, trivial, ⟨a, u, _⟩, rfl, hu, aq.2 ⟨cu _ _, af.2 ⟨fun q => c1 hc q, fun q => ⟨⟨_, v, _⟩, rfl, hv, c2 hc q⟩⟩⟩⟩,
    ⟨(a, u), rfl, trivial, (a, v), rfl, trivial, ⟨a, u, _⟩, rfl, hu, aq.2 ⟨cu _ _, af.2 ⟨fun q => c1 hc q, fun q => ⟨⟨_, v, _⟩, rfl, hv, c2 hc q⟩⟩⟩⟩,
    ⟨(a, u), rfl, trivial, (a, v), rfl, trivial, ⟨a, u, _⟩, rfl, hu, aq.2 ⟨cu _ _, af.2 ⟨fun q => c1 hc q, fun q => ⟨⟨_, v, _⟩, rfl, hv, c2 hc q⟩⟩⟩⟩⟩, fun e3 => af.2 ⟨fun e => by
   have hc : cX op = true := (by rw [show op = 4 from eq_of_beq e]; rfl)
   exact ⟨⟨(a, u), rfl, trivial, (a, v), rfl, trivial, ⟨a, u, _⟩, rfl, hu, aq.2 ⟨cu _ _, af.2 ⟨fun q => c1 hc q, fun q => ⟨⟨_, v, _⟩, rfl, hv, c2 hc q⟩⟩⟩⟩,
    ⟨(a, u), rfl, trivial, (a, v), rfl, trivial, ⟨a, u, _⟩, rfl, hu, aq.2 ⟨cu _ _, af.2 ⟨fun q => c1 hc q, fun q => ⟨⟨_, v, _⟩, rfl, hv, c2 hc q⟩⟩⟩⟩,
    ⟨(a, u), rfl, trivial, (a, v), rfl, trivial, ⟨a, u, _⟩, rfl, hu, aq.2 ⟨cu _ _, af.2 ⟨fun q => c1 hc q, fun q => ⟨⟨_, v, _⟩, rfl, hv, c2 hc q⟩⟩⟩⟩⟩, fun e4 => af.2 ⟨fun e => by
   have hc : cX op = true := (by rw [show op = 5 from eq_of_beq e]; rfl)
   exact ⟨⟨(a, u), rfl, trivial, (a, v), rfl, trivial, ⟨a, u, _⟩, rfl, hu, aq.2 ⟨cu _ _, af.2 ⟨fun q => c1 hc q, fun q => ⟨⟨_, v, _⟩, rfl, hv, c2 hc q⟩⟩⟩⟩,
    ⟨(a, u), rfl, trivial, (a, v), rfl, trivial, ⟨a, u, _⟩, rfl, hu, aq.2 ⟨cu _ _, af.2 ⟨fun q => c1 hc q, fun q => ⟨⟨_, v, _⟩, rfl, hv, c2 hc q⟩⟩⟩⟩,
    ⟨(a, u), rfl, trivial, (a, v), rfl, trivial, ⟨a, u, _⟩, rfl, hu, aq.2 ⟨cu _ _, af.2 ⟨fun q => c1 hc q, fun q => ⟨⟨_, v, _⟩, rfl, hv, c2 hc q⟩⟩⟩⟩⟩, fun e5 => af.2 ⟨fun e => by
   have hc : cX op = true := (by rw [show op = 6 from eq_of_beq e]; rfl)
   exact ⟨⟨(a, u), rfl, trivial, (a, v), rfl, trivial, ⟨a, u, _⟩, rfl, hu, aq.2 ⟨cu _ _, af.2 ⟨fun q => c1 hc q, fun q => ⟨⟨_, v, _⟩, rfl, hv, c2 hc q⟩⟩⟩⟩,
    ⟨(a, u), rfl, trivial, (a, v), rfl, trivial, ⟨a, u, _⟩, rfl, hu, aq.2 ⟨cu _ _, af.2 ⟨fun q => c1 hc q, fun q => ⟨⟨_, v, _⟩, rfl, hv, c2 hc q⟩⟩⟩⟩,
    ⟨(a, u), rfl, trivial, (a, v), rfl, trivial, ⟨a, u, _⟩, rfl, hu, aq.2 ⟨cu _ _, af.2 ⟨fun q => c1 hc q, fun q => ⟨⟨_, v, _⟩, rfl, hv, c2 hc q⟩⟩⟩⟩⟩, fun e6 => ?_⟩⟩⟩⟩
 simp only [beq_eq_false_iff_ne] at e3 e4 e5 e6
 have hc : cX op = false := by
  unfold cX
  rw [Bool.and_eq_false_iff, aa2, aa2]; omega
 refine af.2 ⟨fun e => ⟨(a, rel, l), rfl, hat a rfl, ?_⟩, fun e1 => af.2 ⟨fun e => ⟨(a, rel, l), rfl, hat a rfl, ?_⟩, fun e2 => ?_⟩⟩
 ·rw [nc hc (by rw [show op = 1 by simpa using e]; rfl)] at ho; exact ho
 ·rw [nc hc (by rw [show op = 2 by simpa using e]; rfl)] at ho; exact ho
 simp only [beq_eq_false_iff_ne] at e1 e2
 have hL : bQ ⟨a, op, rel, l, u, v⟩ = bif !decide ((di a rel l).1 = 0) then di a rel l
   else bif decide (op = 7) then (gL (aP (dA a (di a rel l).2) u 1).1, (aP (dA a (di a rel l).2) u 1).2)
   else iF (aP (dA a (di a rel l).2) u 1) (v.tm.want getM fh 1) := by
  unfold bQ ia
  rw [show (Dt.lt ⟨a, op, rel, l, u, v⟩).op = op from rfl, hc, aa4 e1, aa4 e2]; rfl
 rw [hL] at ho
 refine ⟨(a, rel, l), rfl, hat a rfl, aq.2 ⟨cu _ _, ?_⟩⟩
 rw [iX]
 refine af.2 ⟨fun q => ?_, fun q => ?_⟩
 ·rw [q] at ho; exact ho
 ·rw [q, aa5] at ho
  refine ⟨⟨dA a (di a rel l).2, u, 1⟩, rfl, by show u.tm.gF ≤ 100000; omega, aq.2 ⟨cu _ _, ?_⟩⟩
  rw [yi]
  refine af.2 ⟨fun q1 => ?_, fun q1 => af.2 ⟨fun q7 => ?_, fun q7 => ⟨⟨dA (dA a (di a rel l).2) (aP (dA a (di a rel l).2) u 1).2, v, 1⟩, rfl, by show v.tm.gF ≤ 100000; omega, ?_⟩⟩⟩
  ·have q1 : (aP (dA a (di a rel l).2) u 1).1 = true := q1
   unfold iF at ho
   rw [q1] at ho
   simp only [q1]
   cases h7 : decide (op = 7) <;> rw [h7] at ho <;> exact ho
  ·rw [show decide (op = 7) = true by simpa using q7] at ho
   exact ho
  ·have q1 : (aP (dA a (di a rel l).2) u 1).1 = false := q1
   rw [show decide (op = 7) = false by simpa using q7, aa5] at ho
   unfold iF at ho
   rw [q1] at ho
   exact ho
noncomputable def O6 (κ : Kp) : Env := (OY κ).ar 134 (a8 Oj GN (L8 κ))
theorem eYt (κ : Kp) : aw (O6 κ) := (eYa κ).ar (TC κ) (Wp κ)
theorem Tw (κ : Kp) : ai (O6 κ) := (TC κ).ar aJ
theorem yCo (κ : Kp) (v : Value) (K : AV → List Dn.Obj → Prop) : (a9 (O6 κ) 12 96 [.lit v] [] K) = (
 letI z1 := Value.iface 189 (Value.pointer (some (Kp.arity κ)))
 letI z2 := Value.iface 189 (Value.pointer (some (Kp.type κ)))
 letI z3 := Value.iface 189 (Value.pointer (some (Kp.fw κ)))
 aZ (kn κ v && kM κ z3) (ax (gu v z3) (K (AV.int 51) []) (aZ (kn κ v && kM κ z1) (ax (gu v z1) (K (AV.int 52) []) (aZ (kn κ v && kM κ z2) (ax (gu v z2) (K
 (AV.int 53) []) (K (AV.int 0) []))))))) := by kernel_rfl
noncomputable def J2 (κ : Kp) (v : Value) : Int := bif gu v (a6 κ 51) then 51 else bif gu v (a6 κ 52) then 52 else bif gu v (a6 κ 53) then 53 else 0
theorem GM (κ : Kp) {e : Int} (h : iS e) : J2 κ (a6 κ e) = e := by
 unfold J2
 rw [gW κ h (.inr (.inl rfl)), gW κ h (.inr (.inr (.inl rfl))), gW κ h (.inr (.inr (.inr rfl)))]
 rcases h with rfl | rfl | rfl | rfl <;> rfl
noncomputable def SR (κ : Kp) : List AV → Option (Bool × AV)
 | [.lit v] => some (kn κ v, .int (J2 κ v))
 | _ => none
theorem ZA (κ : Kp) : bM (O6 κ) 12 96 (SR κ) := by
 intro args x hh
 unfold SR at hh
 split at hh
 ·simp only [aa3, aa9] at hh
  obtain ⟨h1, rfl⟩ := hh
  refine ⟨_, rfl, rfl, ?_⟩
  obtain ⟨e, he, rfl⟩ := (tB _ _).1 h1
  refine Eq.mpr (yCo κ _ _) ?_
  rw [GM κ he]
  have k1 : ∀ k, vU k → (kn κ (a6 κ e) && kM κ (a6 κ k)) = true := fun k hk => by rw [yy κ he, yC κ hk]; rfl
  have n51 : Value.iface 189 (.pointer (some κ.fw)) = a6 κ 51 := rfl
  have n52 : Value.iface 189 (.pointer (some κ.arity)) = a6 κ 52 := rfl
  have n53 : Value.iface 189 (.pointer (some κ.type)) = a6 κ 53 := rfl
  rw [n51, n52, n53, k1 _ (.inl rfl), k1 _ (.inr (.inl rfl)), k1 _ (.inr (.inr rfl)), gW κ he (.inr (.inl rfl)), gW κ he (.inr (.inr (.inl rfl))), gW κ he (.inr (.inr (.inr rfl)))]
  rcases he with rfl | rfl | rfl | rfl <;> rfl
 ·cases hh
noncomputable def J1 (κ : Kp) : Env := (O6 κ).au 96 (SR κ)
theorem eYc (κ : Kp) : aw (J1 κ) := (eYt κ).au (Tw κ) (ZA κ)
theorem TQ (κ : Kp) : ai (J1 κ) := (Tw κ).au
structure NQ where
 a : iO
 w : Int
 bl : List AV
 i : Int
noncomputable abbrev KW (κ : Kp) (x : NQ) : S := sp 52 [(0, BK), (5, .lit (a6 κ x.w)), (14, .ae 55 x.bl), (15, .int x.bl.length), (16, .int x.i)] (bG x.a)
theorem W8 (κ : Kp) (x : NQ) (I : Nat → S → Prop) (n : Nat) (K : Exit → S → Prop) : (vc (J1 κ) 12 95 none 2 (ag (Pr κ).toProgram 95 3) (KW κ x) (bC (J1 κ) 95 3 2 I n K)) = (
 letI z1 := Value.iface 189 (Value.pointer (some (Kp.arity κ)))
 letI z2 := Value.iface 189 (Value.pointer (some (Kp.fw κ)))
 letI z3 := nth x.bl x.i.toNat
 letI z4 := IntKind.wrap IntKind.i64 (x.i + (1 : Int))
 letI z5 := a6 κ x.w
 letI z6 := Value.iface 189 (Value.pointer (some (Kp.type κ)))
 ax (decide (x.i < (↑(x.bl.length) : Int))) (aZ (decide ((0 : Int) ≤ x.i) && decide (x.i < (↑(x.bl.length) : Int))) (∃ (a : Dt), ([AV.ptr 0 0 [] 0, AV.agg
 [AV.int (toInt (ad z3 0)), AV.agg [AV.str (toStr (ad (ad z3 1) 0)), AV.ae 52 (ah (ad (ad z3 1) 1))], AV.agg [AV.int (toInt (ad (ad z3 2) 0)), AV.str (toStr (ad
 (ad z3 2) 1)), AV.int (toInt (ad (ad z3 2) 2)), AV.ae 52 (ah (ad (ad z3 2) 3))], AV.agg [AV.int (toInt (ad (ad z3 3) 0)), AV.str (toStr (ad (ad z3 3) 1)),
 AV.int (toInt (ad (ad z3 3) 2)), AV.ae 52 (ah (ad (ad z3 3) 3))]]], (bG x.a)) = ([AV.ptr 0 0 [] 0, AV.agg [AV.int a.op, AV.agg [AV.str a.rel, AV.ae 52 a.l], cI
 a.u, cI a.v]], (bG a.a)) ∧ (List.length a.a.ds ≤ 9223372036854775807 ∧ dC (Dt.lt a) ≤ 100000) ∧ aZ (aC z5) (ax (bF z5) (aZ (kn κ (a6 κ (Prod.fst (bQ a))) && kM
 κ z2) (ax (gu (a6 κ (Prod.fst (bQ a))) z2) (K Exit.ret (sp 52 [(4, AV.lit (a6 κ (Prod.fst (bQ a))))] (bG (dA a.a (Prod.snd (bQ a)))))) (aZ (kn κ (a6 κ (Prod.fst
 (bQ a))) && kM κ z1) (ax (gu (a6 κ (Prod.fst (bQ a))) z1) (K Exit.ret (sp 52 [(4, AV.lit (a6 κ (Prod.fst (bQ a))))] (bG (dA a.a (Prod.snd (bQ a)))))) (∃ (m :
 Nat), m < n ∧ I m (sp 52 [(0, AV.ptr 0 0 [] 0), (5, AV.lit (a6 κ (Prod.fst (bQ a)))), (14, AV.ae 55 x.bl), (15, AV.int (↑(x.bl.length) : Int)), (16, AV.int z4)]
 (bG (dA a.a (Prod.snd (bQ a)))))))))) (aZ (kn κ z5 && kM κ z6) (ax (gu z5 z6) (aZ (kn κ (a6 κ (Prod.fst (bQ a))) && kM κ z2) (ax (gu (a6 κ (Prod.fst (bQ a)))
 z2) (aZ (kn κ (a6 κ (Prod.fst (bQ a))) && kM κ z2) (ax (gu (a6 κ (Prod.fst (bQ a))) z2) (K Exit.ret (sp 52 [(4, AV.lit (a6 κ (Prod.fst (bQ a))))] (bG (dA a.a
 (Prod.snd (bQ a)))))) (aZ (kn κ (a6 κ (Prod.fst (bQ a))) && kM κ z1) (ax (gu (a6 κ (Prod.fst (bQ a))) z1) (K Exit.ret (sp 52 [(4, AV.lit (a6 κ (Prod.fst (bQ
 a))))] (bG (dA a.a (Prod.snd (bQ a)))))) (∃ (m : Nat), m < n ∧ I m (sp 52 [(0, AV.ptr 0 0 [] 0), (5, AV.lit (a6 κ (Prod.fst (bQ a)))), (14, AV.ae 55 x.bl), (15,
 AV.int (↑(x.bl.length) : Int)), (16, AV.int z4)] (bG (dA a.a (Prod.snd (bQ a)))))))))) (aZ (kn κ (a6 κ (Prod.fst (bQ a))) && kM κ z1) (ax (gu (a6 κ (Prod.fst
 (bQ a))) z1) (aZ (kn κ (a6 κ (Prod.fst (bQ a))) && kM κ z2) (ax (gu (a6 κ (Prod.fst (bQ a))) z2) (K Exit.ret (sp 52 [(4, AV.lit (a6 κ (Prod.fst (bQ a))))] (bG
 (dA a.a (Prod.snd (bQ a)))))) (aZ (kn κ (a6 κ (Prod.fst (bQ a))) && kM κ z1) (ax (gu (a6 κ (Prod.fst (bQ a))) z1) (K Exit.ret (sp 52 [(4, AV.lit (a6 κ (Prod.fst
 (bQ a))))] (bG (dA a.a (Prod.snd (bQ a)))))) (∃ (m : Nat), m < n ∧ I m (sp 52 [(0, AV.ptr 0 0 [] 0), (5, AV.lit (a6 κ (Prod.fst (bQ a)))), (14, AV.ae 55 x.bl),
 (15, AV.int (↑(x.bl.length) : Int)), (16, AV.int z4)] (bG (dA a.a (Prod.snd (bQ a)))))))))) (aZ (kn κ z5 && kM κ z2) (ax (gu z5 z2) (K Exit.ret (sp 52 [(4,
 AV.lit z5)] (bG (dA a.a (Prod.snd (bQ a)))))) (aZ (kn κ z5 && kM κ z1) (ax (gu z5 z1) (K Exit.ret (sp 52 [(4, AV.lit z5)] (bG (dA a.a (Prod.snd (bQ a)))))) (∃
 (m : Nat), m < n ∧ I m (sp 52 [(0, AV.ptr 0 0 [] 0), (5, AV.lit z5), (14, AV.ae 55 x.bl), (15, AV.int (↑(x.bl.length) : Int)), (16, AV.int z4)] (bG (dA a.a
 (Prod.snd (bQ a)))))))))))))) (aZ (kn κ z5 && kM κ z2) (ax (gu z5 z2) (K Exit.ret (sp 52 [(4, AV.lit z5)] (bG (dA a.a (Prod.snd (bQ a)))))) (aZ (kn κ z5 && kM κ
 z1) (ax (gu z5 z1) (K Exit.ret (sp 52 [(4, AV.lit z5)] (bG (dA a.a (Prod.snd (bQ a)))))) (∃ (m : Nat), m < n ∧ I m (sp 52 [(0, AV.ptr 0 0 [] 0), (5, AV.lit z5),
 (14, AV.ae 55 x.bl), (15, AV.int (↑(x.bl.length) : Int)), (16, AV.int z4)] (bG (dA a.a (Prod.snd (bQ a))))))))))))))) (K (Exit.exit 0) (sp 52 [(5, AV.lit z5)]
 (bG x.a)))) := by kernel_rfl
def ig (a : iO) (x : AV) : Dt := ⟨a, toInt (ad x 0), toStr (ad (ad x 1) 0), ah (ad (ad x 1) 1), kp (ad x 2), kp (ad x 3)⟩
theorem Bg (a : iO) (x : AV) : (ig a x).lt = bz x := by
 unfold Dt.lt ig
 simp only [fm]
 rfl
theorem pe {σ : Type} {get : σ → ByteArray → Int} {set : σ → ByteArray → Int → σ} (ds : List Dc) (l : Lt) (x : σ × Bool) : iS (ia get set ds l x).1 := by
 have hk : ∀ e, (e = 0 ∨ e = 51 ∨ e = 52) → iS e := fun e h => by
  rcases h with rfl | rfl | rfl
  ·exact .inl rfl
  ·exact .inr (.inl rfl)
  ·exact .inr (.inr (.inl rfl))
 have h53 : iS 53 := .inr (.inr (.inr rfl))
 have hb : ∀ {y : Bool × (σ × Bool)} {f : σ × Bool → Bool × (σ × Bool)}, iS (iF y f).1 := fun {y f} => by
  rcases q8 (y := y) (f := f) with e | e <;> rw [e]
  ·exact .inl rfl
  ·exact h53
 have ha : iS (b8 get set ds l.a x).1 := by
  unfold b8
  cases decide (known ds l.a = 0) with
  | false => exact hk _ (lE ds l.a)
  | true =>
   rw [aa7]
   cases (c0 get set (aV ds l.a.rel) l.a.l x).1
   ·exact .inl rfl
   ·exact h53
 unfold ia
 cases cX l.op with
 | true => exact hb
 | false =>
  rw [aa5]
  cases decide (l.op = 1) || decide (l.op = 2) with
  | true => exact ha
  | false =>
   rw [aa5]
   cases decide ((b8 get set ds l.a x).1 = 0) with
   | false => exact ha
   | true =>
    rw [Bool.not_true, aa5]
    cases decide (l.op = 7) with
    | true =>
     rw [aa7]
     cases (l.x.want get set 1 (b8 get set ds l.a x).2).1
     ·exact .inl rfl
     ·exact h53
    | false => exact hb
theorem r8 {σ : Type} {get : σ → ByteArray → Int} {set : σ → ByteArray → Int → σ} (ds : List Dc) (a : At) (x : σ × Bool) : iS (b8 get set ds a x).1 := by
 have h := pe (get := get) (set := set) ds ⟨1, a, .mk 0 ByteArray.empty 0 [], .mk 0 ByteArray.empty 0 []⟩ x
 exact h
theorem sc {w e : Int} (hw : iS w) (he : iS e) : iS (fU w e) := by
 unfold fU
 cases (decide (w = 0) || decide (w = 53) && o6 e)
 ·exact hw
 ·exact he
theorem sm {σ : Type} {get : σ → ByteArray → Int} {set : σ → ByteArray → Int → σ} (ds : List Dc) : ∀ (b : List Lt) (y : Int × (σ × Bool)), iS y.1 → iS (gh get set ds b y).1
 | [], _, h => h
 | l :: b, y, h => by
  rw [gh]
  have := sc h (pe (get := get) (set := set) ds l y.2)
  cases o6 (fU y.1 (ia get set ds l y.2).1) with
  | true => exact this
  | false => exact sm ds b _ this
def j2 (x : NQ) : Int × (List (Value × AV) × Bool) := gh getM fh (aQ x.a.ds) (bn (x.bl.drop x.i.toNat)) (x.w, (x.a.es, x.a.more))
def CC (x : NQ) : Prop := x.a.ds.length ≤ aI ∧ iS x.w ∧ x.bl.length ≤ 100000 ∧ (∀ l, l ∈ x.bl → dC (bz l) ≤ 100000) ∧ 0 ≤ x.i ∧ x.i ≤ x.bl.length
noncomputable def Is (κ : Kp) (x : NQ) : Out (Exit × S) := .all (fun _ : Bool => True) fun b => .ax b (.one (.ret, sp 52 [(4, .lit (a6 κ (j2 x).1))] (bG (dA x.a (j2 x).2)))) (.one (.exit 0, sp 52 [(5, .lit (a6 κ (j2 x).1))] (bG (dA x.a (j2 x).2))))
theorem W7 (κ : Kp) : bg (J1 κ) 12 95 3 (aK 2 (KW κ) CC (Is κ)) := by
 refine aO (fun x => x.bl.length - x.i.toNat) ?_
 rintro ⟨a, w, bl, i⟩ K ⟨h1, h2, h3, h4, h5, h6⟩ ho
 simp only at h1 h2 h3 h4 h5 h6
 rw [show (J1 κ).P = Pr κ from rfl]
 refine Eq.mpr (W8 κ ⟨a, w, bl, i⟩ _ _ K) ?_
 have ho1 := ho true trivial
 have ho2 := ho false trivial
 simp only [Out.run, ax] at ho1 ho2
 rw [af, aa0, aa2]
 refine ⟨fun hi => ?_, fun hi => ?_⟩
 ·simp only at hi
  have hk : i.toNat < bl.length := by omega
  have hb : j2 ⟨a, w, bl, i⟩ = bif o6 (fU w (bQ (ig a (nth bl i.toNat))).1) then (fU w (bQ (ig a (nth bl i.toNat))).1, (bQ (ig a (nth bl i.toNat))).2) else j2 ⟨dA a (bQ (ig a (nth bl i.toNat))).2, fU w (bQ (ig a (nth bl i.toNat))).1, bl, i + 1⟩ := by
   unfold j2 bQ
   simp only [show (i + 1).toNat = i.toNat + 1 by omega]
   rw [jd bl i.toNat hk, gh, Bg]; rfl
  have he : iS (bQ (ig a (nth bl i.toNat))).1 := pe _ _ _
  have hlc : dC (bz (nth bl i.toNat)) ≤ 100000 := h4 _ (by rw [bx _ _ hk]; exact List.getElem_mem hk)
  have R : o6 (fU w (bQ (ig a (nth bl i.toNat))).1) = true → K .ret (sp 52 [(4, .lit (a6 κ (fU w (bQ (ig a (nth bl i.toNat))).1)))] (bG (dA a (bQ (ig a (nth bl i.toNat))).2))) := fun e => by
   rw [hb, e, aa7] at ho1
   exact ho1
  have N : o6 (fU w (bQ (ig a (nth bl i.toNat))).1) = false → ∃ m, m < bl.length - i.toNat ∧ fp (KW κ) CC (Is κ) (fun x => x.bl.length - x.i.toNat) K m (sp 52 [(0, BK), (5, .lit (a6 κ (fU w (bQ (ig a (nth bl i.toNat))).1))), (14, .ae 55 bl), (15, .int bl.length), (16, .int (IntKind.wrap .i64 (i + 1)))] (bG (dA a (bQ (ig a (nth bl i.toNat))).2))) := fun e => by
   rw [hb, e, aa5] at ho1 ho2
   rw [aU (n := i + 1) (by omega) (by omega)]
   refine ⟨_, ?_, ⟨dA a (bQ (ig a (nth bl i.toNat))).2, fU w (bQ (ig a (nth bl i.toNat))).1, bl, i + 1⟩, rfl, ⟨h1, sc h2 he, h3, h4, by simp only; omega, by simp only; omega⟩, rfl, ?_⟩
   ·simp only; omega
   ·intro b _
    cases b
    ·exact ho2
    ·exact ho1
  refine aq.2 ⟨by simp; omega, ig a (nth bl i.toNat), rfl, ⟨h1, by rw [Bg]; exact hlc⟩, ?_⟩
  have n51 : Value.iface 189 (.pointer (some κ.fw)) = a6 κ 51 := rfl
  have n52 : Value.iface 189 (.pointer (some κ.arity)) = a6 κ 52 := rfl
  have n53 : Value.iface 189 (.pointer (some κ.type)) = a6 κ 53 := rfl
  have ta : (ig a (nth bl i.toNat)).a = a := rfl
  simp only [n51, n52, n53, ta, cu, iX]
  revert R N he
  generalize bQ (ig a (nth bl i.toNat)) = y
  intro he R N
  simp only [yy κ he, yy κ h2, yC κ (show vU 51 from .inl rfl), yC κ (show vU 52 from .inr (.inl rfl)), yC κ (show vU 53 from .inr (.inr rfl)), gW κ he (show iS 51 from .inr (.inl rfl)), gW κ he (show iS 52 from .inr (.inr (.inl rfl))), gW κ h2 (show iS 51 from .inr (.inl rfl)), gW κ h2 (show iS 52 from .inr (.inr (.inl rfl))), gW κ h2 (show iS 53 from .inr (.inr (.inr rfl)))]
  obtain ⟨e, y2⟩ := y
  simp only at he R N ⊢
  rcases h2 with rfl | rfl | rfl | rfl <;> rcases he with rfl | rfl | rfl | rfl <;> first | exact R rfl | exact N rfl
 ·simp only at hi
  have hb : j2 ⟨a, w, bl, i⟩ = (w, (a.es, a.more)) := by
   unfold j2
   simp only
   rw [aa8 (by omega)]; rfl
  rw [hb] at ho2
  exact ho2
noncomputable def N7 (κ : Kp) : Env := (J1 κ).aj 95 3 (aK 2 (KW κ) CC (Is κ))
theorem eYq (κ : Kp) : aw (N7 κ) := (eYc κ).aj (TQ κ) (W7 κ)
theorem Uy (κ : Kp) : ai (N7 κ) := (TQ κ).aj aE
theorem YC (κ : Kp) (a : iO) (r : b5) (K : AV → List Dn.Obj → Prop) : (a9 (N7 κ) 12 95 [BK, aF r] (bG a) K) = (
 letI z1 := Pg.toProgram (Env.P (J1 κ))
 ∃ (a_1 : MQ), ([AV.ptr 0 0 [] 0, AV.agg [AV.str r.rel, AV.ae 52 r.hl]], (bG a)) = ([AV.ptr 0 0 [] 0, AV.agg [AV.str a_1.2.1, AV.ae 52 a_1.2.2]], (bG a_1.1)) ∧
 (a_1.1.ds.length ≤ 9223372036854775807 ∧ aH (aa a_1.2.2) ≤ 100000) ∧ ag z1 95 3 = ag z1 95 3 ∧ ∃ (a : NQ), sp 52 [(0, AV.ptr 0 0 [] 0), (5, AV.lit (a6 κ
 (Prod.fst (di a_1.1 a_1.2.1 a_1.2.2)))), (14, AV.ae 55 r.bl), (15, AV.int (↑(r.bl.length) : Int)), (16, AV.int 0)] (bG (dA a_1.1 (Prod.snd (di a_1.1 a_1.2.1
 a_1.2.2)))) = sp 52 [(0, AV.ptr 0 0 [] 0), (5, AV.lit (a6 κ a.w)), (14, AV.ae 55 a.bl), (15, AV.int (↑(a.bl.length) : Int)), (16, AV.int a.i)] (bG a.a) ∧
 (List.length a.a.ds ≤ 9223372036854775807 ∧ (a.w = (0 : Int) ∨ a.w = (51 : Int) ∨ a.w = (52 : Int) ∨ a.w = (53 : Int)) ∧ a.bl.length ≤ 100000 ∧ (∀ (l : AV),
 List.Mem l a.bl → dC (bz l) ≤ 100000) ∧ (0 : Int) ≤ a.i ∧ a.i ≤ (↑(a.bl.length) : Int)) ∧ ∀ (y : Bool), True → ax y (K (AV.lit (a6 κ (Prod.fst (j2 a)))) (bG (dA
 a.a (Prod.snd (j2 a))))) (K (AV.lit (a6 κ (Prod.fst (j2 a)))) (bG (dA a.a (Prod.snd (j2 a)))))) := by kernel_rfl
abbrev Oa := iO × b5
def kK (x : Oa) : Int × (List (Value × AV) × Bool) := gh getM fh (aQ x.1.ds) (bn x.2.bl) (b8 getM fh (aQ x.1.ds) ⟨x.2.rel, aa x.2.hl⟩ (x.1.es, x.1.more))
def Qx (x : Oa) : List AV × List Dn.Obj := ([BK, aF x.2], bG x.1)
def GX (x : Oa) : Prop := x.1.ds.length ≤ aI ∧ bZ x.2
noncomputable def LZ (κ : Kp) (x : Oa) : Out (AV × List Dn.Obj) := .one (.lit (a6 κ (kK x).1), bG (dA x.1 (kK x).2))
theorem X8 (κ : Kp) : bJ (N7 κ) 12 95 (a8 Qx GX (LZ κ)) := by
 refine bh ?_
 rintro ⟨a, r⟩ K ⟨h1, h2⟩ ho
 simp only at h1 h2
 refine Eq.mpr (YC κ a r K) ?_
 have hlit : ∀ l, l ∈ r.bl → dC (bz l) ≤ 100000 := fun l hl => by
  obtain ⟨k, hk, e⟩ := List.getElem_of_mem hl
  have := fj h2 hk
  rwa [bx _ _ hk, e] at this
 have hs : kK (a, r) = j2 ⟨dA a (di a r.rel r.hl).2, (di a r.rel r.hl).1, r.bl, 0⟩ := by
  unfold kK j2 di
  simp only [ab8, ab0]; rfl
 have ho : K (.lit (a6 κ (kK (a, r)).1)) (bG (dA a (kK (a, r)).2)) := ho
 rw [hs] at ho
 refine ⟨(a, r.rel, r.hl), rfl, ⟨h1, kG h2⟩, rfl, ⟨dA a (di a r.rel r.hl).2, (di a r.rel r.hl).1, r.bl, 0⟩, rfl, ⟨h1, r8 _ _ _, h2.2, hlit, by simp only; omega, by simp only; omega⟩, fun b _ => ?_⟩
 cases b <;> exact ho
noncomputable def Lb (κ : Kp) : Env := (N7 κ).ar 95 (a8 Qx GX (LZ κ))
theorem Xq (κ : Kp) : aw (Lb κ) := (eYq κ).ar (Uy κ) (X8 κ)
theorem TJ (κ : Kp) : ai (Lb κ) := (Uy κ).ar aJ
end Go.Proofs.YtdpmikfheebicaaGreatDoor
namespace Go.Rl
open Go Go.Dn
section
variable {σ : Type} {get : σ → ByteArray → Int} {set : σ → ByteArray → Int → σ}
variable (hgs : ∀ st s k t, get (set st s k) t = bif t == s then k else get st t)
include hgs
theorem qT (ds : List Dc) {r : Rl} (hr : aG r = true) (V : List ByteArray) (hV : ∀ s, s ∈ cQ r → s ∈ V) (st : σ) (h0 : (dE get set ds r st).1 = 0) (hm : (dE get set ds r st).2.2 = true) : gD get V (dE get set ds r st).2.1 < gD get V st := by
 have hk : eH ds r = 0 := by
  cases e : decide (eH ds r = 0) with
  | true => simpa using e
  | false =>
   rw [aa2] at e
   rw [AU ds r st e] at h0; exact h0
 simp only [aG, aa1, List.all_eq_true] at hr
 have e1 := A6 (get := get) (set := set) ds (r := r) (pR hr.1.1.1) (fun l hl => Ho (hr.2 l hl)) hk st h0
 rw [e1] at hm ⊢
 exact n8 (kg hgs ds r st) V ((pn hgs ds r st hm).left (Ext.refl _ _) hV)
theorem nh (ds : List Dc) {r : Rl} (hr : aG r = true) (V : List ByteArray) (hV : ∀ s, s ∈ cQ r → s ∈ V) : ∀ (n m : Nat) (st : σ), gD get V st < n → gD get V st < m → dL get set ds r n st = dL get set ds r m st
 | 0, _, _, h, _ => by omega
 | _ + 1, 0, _, _, h => by omega
 | n + 1, m + 1, st, h1, h2 => by
  rw [dL, dL]
  cases h0 : decide ((dE get set ds r st).1 = 0) with
  | false => rfl
  | true =>
   rw [aa7, aa7]
   cases hm : (dE get set ds r st).2.2 with
   | false => rfl
   | true =>
    rw [aa7, aa7]
    have := qT hgs ds hr V hV st (by simpa using h0) hm
    exact nh ds hr V hV n m _ (by omega) (by omega)
end
end Go.Rl
namespace Go.Proofs.YtdpmikfheebicaaGreatDoor
open Go Go.Dn Go.Rl Go.Proofs
attribute [local irreducible] a9 vc
set_option maxRecDepth 20000
structure pC where
 ds : List AV
 r : b5
 es : List (Value × AV)
 more : Bool
abbrev Kg (x : pC) : S := sp 60 [(3, .ptr 0 0 [] 0), (6, .ptr 1 0 [] 0)] [.box 41 (aF x.r), .box 133 (.agg [.ae 62 x.ds, .mp 2, .bool x.more]), .map 9 3 x.es]
theorem xTy (κ : Kp) (x : pC) (I : Nat → S → Prop) (n : Nat) (K : Exit → S → Prop) : (vc (Lb κ) 12 61 none 0 (ag (Pr κ).toProgram 61 4) (Kg x) (bC (Lb κ) 61 4 0 I n K)) = (
 ax x.more (∃ (a : Oa), ([AV.ptr 0 0 [] 0, aF x.r], [Obj.box 133 (AV.agg [AV.ae 62 x.ds, AV.mp 1, AV.bool false]), Dn.Obj.map 9 3 x.es]) = ([AV.ptr 0 0 [] 0,
 aF a.2], (bG a.1)) ∧ (a.1.ds.length ≤ 9223372036854775807 ∧ aH (aa (aX 52 a.2.hl a.2.bl)) ≤ 100000 ∧ a.2.bl.length ≤ 100000) ∧ aZ (aC (a6 κ
 (Prod.fst (kK a)))) (ax (!bF (a6 κ (Prod.fst (kK a)))) (aZ (kn κ (a6 κ (Prod.fst (kK a)))) (K Exit.ret (sp 60 [(4, AV.nil), (5, AV.int
 (J2 κ (a6 κ (Prod.fst (kK a)))))] []))) (∃ (m : Nat), m < n ∧ I m (sp 60 [(3, AV.ptr 0 0 [] 0), (6, AV.ptr 1 0 [] 0)] [Obj.box 41 (aF x.r), Obj.box
 133 (AV.agg [AV.ae 62 (iO.ds (dA a.1 (Prod.snd (kK a)))), AV.mp 2, AV.bool (iO.more (dA a.1 (Prod.snd (kK a))))]), Dn.Obj.map 9 3 (iO.es (dA a.1
 (Prod.snd (kK a))))])))) (K (Exit.exit 0) (sp 60 [(3, AV.ptr 0 0 [] 0), (6, AV.ptr 1 0 [] 0)] [Obj.box 41 (aF x.r), Obj.box 133 (AV.agg [AV.ae 62 x.ds,
 AV.mp 2, AV.bool x.more]), Dn.Obj.map 9 3 x.es]))) := by kernel_rfl
abbrev WK (x : pC) : List Dc := aQ x.ds
def RQ (x : pC) : Nat := gD getM (bq (aL x.r)) x.es
def SA (x : pC) : Int × List (Value × AV) := dL getM fh (WK x) (aL x.r) (RQ x + 1) x.es
def gd (x : pC) : Int × List (Value × AV) := bif x.more then SA x else (0, x.es)
def HC (x : pC) : Prop := aG (aL x.r) = true ∧ x.ds.length ≤ aI ∧ bZ x.r
def DZ (x : pC) : Out (Exit × S) := .ax (decide ((gd x).1 = 0)) (.one (.exit 0, Kg ⟨x.ds, x.r, (gd x).2, false⟩)) (.one (.ret, sp 60 [(4, .nil), (5, .int (gd x).1)] []))
theorem z7 (ds : List Dc) (r : Rl) (es : List (Value × AV)) : iS (dE getM fh ds r es).1 := sm _ _ _ (r8 _ _ _)
theorem Xr (κ : Kp) : bg (Lb κ) 12 61 4 (aK 0 Kg HC DZ) := by
 refine aO (fun x => bif x.more then RQ x + 1 else 0) ?_
 rintro ⟨ds, r, es, more⟩ K ⟨h1, h2, h3⟩ ho
 simp only at h1 h2 h3
 rw [show (Lb κ).P = Pr κ from rfl]
 refine Eq.mpr (xTy κ ⟨ds, r, es, more⟩ _ _ K) ?_
 simp only [DZ, Out.run, af] at ho
 cases more with
 | false => exact ho.1 rfl
 | true =>
  have hp : kK (⟨ds, es, false⟩, r) = dE getM fh (aQ ds) (aL r) es := rfl
  have hV : ∀ s, s ∈ cQ (aL r) → s ∈ bq (aL r) := fun s hs => (iK h1).2 hs
  have hr := z7 (aQ ds) (aL r) es
  have he : gd ⟨ds, r, es, true⟩ = bif decide ((dE getM fh (aQ ds) (aL r) es).1 = 0) then gd ⟨ds, r, (dE getM fh (aQ ds) (aL r) es).2.1, (dE getM fh (aQ ds) (aL r) es).2.2⟩ else ((dE getM fh (aQ ds) (aL r) es).1, (dE getM fh (aQ ds) (aL r) es).2.1) := by
   have e0 : gd ⟨ds, r, es, true⟩ = dL getM fh (aQ ds) (aL r) (RQ ⟨ds, r, es, true⟩ + 1) es := rfl
   rw [e0, dL]
   cases h0 : decide ((dE getM fh (aQ ds) (aL r) es).1 = 0) with
   | false => rfl
   | true =>
    rw [aa7, aa7]
    unfold gd
    cases hm : (dE getM fh (aQ ds) (aL r) es).2.2 with
    | false => rfl
    | true =>
     rw [aa7]
     have := qT ki (aQ ds) h1 _ hV es (by simpa using h0) hm
     exact nh ki (aQ ds) h1 _ hV _ _ _ this (Nat.lt_succ_self _)
  refine ⟨(⟨ds, es, false⟩, r), rfl, ⟨h2, h3⟩, ?_⟩
  rw [hp]
  refine aq.2 ⟨cu _ _, ?_⟩
  rw [iX]
  cases h0 : decide ((dE getM fh (aQ ds) (aL r) es).1 = 0) with
  | false =>
   rw [he, h0, aa5] at ho
   refine aq.2 ⟨yy κ hr, ?_⟩
   rw [GM κ hr]
   exact ho.2 h0
  | true =>
   rw [he, h0, aa7] at ho
   refine ⟨_, ?_, ⟨ds, r, (dE getM fh (aQ ds) (aL r) es).2.1, (dE getM fh (aQ ds) (aL r) es).2.2⟩, rfl, ⟨h1, h2, h3⟩, rfl, ?_⟩
   ·simp only
    cases hm : (dE getM fh (aQ ds) (aL r) es).2.2 with
    | false => exact Nat.succ_pos _
    | true =>
     have := qT ki (aQ ds) h1 _ hV es (by simpa using h0) hm
     exact Nat.succ_lt_succ this
   ·simp only [DZ, Out.run, af]
    exact ho
noncomputable def LB (κ : Kp) : Env := (Lb κ).aj 61 4 (aK 0 Kg HC DZ)
theorem Vw (κ : Kp) : aw (LB κ) := (Xq κ).aj (TJ κ) (Xr κ)
theorem Ud (κ : Kp) : ai (LB κ) := (TJ κ).aj aE
def iA (l : List Int) : List AV := l.map fun k => .lit (.int .i64 k)
theorem ff (l : List Int) : (iA l).length = l.length := by simp [iA]
theorem MJ (l m : List Int) : iA (l ++ m) = iA l ++ iA m := by simp [iA]
structure Ni where
 ds : List AV
 es : List (Value × AV)
 o : List Int
 vs : List ByteArray
 i : Int
abbrev Lh (x : Ni) : S := sp 60 [(6, .ptr 0 0 [] 0), (8, .a7 2 0 (iA x.o).length), (36, .a7 3 0 x.vs.length), (37, .int x.vs.length), (38, .int x.i)] [.box 133 (.agg [.ae 62 x.ds, .mp 1, .bool false]), .map 9 3 x.es, .row 3 (iA x.o), .row 9 (strs x.vs)]
theorem YQ (κ : Kp) (ds : List AV) (es : List (Value × AV)) (o vs : List AV) (i : Int) (I : Nat → S → Prop) (n : Nat) (K : Exit → S → Prop) : (vc (LB κ) 12 61 none 0 (ag (Pr κ).toProgram 61 11) (sp 60 [(6, .ptr 0 0 [] 0), (8, .a7 2 0 o.length), (36, .a7 3 0 vs.length), (37, .int vs.length), (38, .int i)] [.box 133 (.agg [.ae 62 ds, .mp 1, .bool false]), .map 9 3 es, .row 3 o, .row 9 vs]) (bC (LB κ) 61 11 0 I n K)) = (
 letI z1 := eg es (Value.string (toStr (nth vs (0 + i.toNat)))) (AV.int 0)
 ax (decide (i < (↑(vs.length) : Int))) (aZ (decide ((0 : Int) ≤ i) && decide (i < (↑(vs.length) : Int))) (ax (toInt z1 == (0 : Int)) (K Exit.ret (sp 60 [(4,
 AV.nil), (5, AV.int 53)] [])) (aZ (decide ((o.length + 1 + 1) * 9 ≤ 70368744177664)) (∃ (m : Nat), m < n ∧ I m (sp 60 [(6, AV.ptr 0 0 [] 0), (8, AV.a7 2 0
 (o.length + 1)), (36, AV.a7 3 0 vs.length), (37, AV.int (↑(vs.length) : Int)), (38, AV.int (IntKind.wrap IntKind.i64 (i + (1 : Int))))] [Obj.box 133 (AV.agg
 [AV.ae 62 ds, AV.mp 1, AV.bool false]), Dn.Obj.map 9 3 es, Obj.row 3 (List.take o.length o ++ [AV.int (toInt z1)]), Obj.row 9 vs]))))) (K (Exit.exit 2) (sp 60
 [(8, AV.a7 0 0 o.length)] [Obj.row 3 o]))) := by kernel_rfl
def ju (x : Ni) : List ByteArray := x.vs.drop x.i.toNat
def r6 (x : Ni) : Bool := (ju x).all fun s => !decide (getM x.es s = 0)
def It (x : Ni) : Prop := x.vs.length ≤ 100000 ∧ x.o.length ≤ x.i.toNat ∧ 0 ≤ x.i ∧ x.i ≤ x.vs.length
def Ey (x : Ni) : Out (Exit × S) := .ax (r6 x) (.one (.exit 2, sp 60 [(8, .a7 0 0 (iA (x.o ++ (ju x).map (getM x.es))).length)] [.row 3 (iA (x.o ++ (ju x).map (getM x.es)))])) (.one (.ret, sp 60 [(4, .nil), (5, .int 53)] []))
theorem lTz (κ : Kp) : bg (LB κ) 12 61 11 (aK 0 Lh It Ey) := by
 refine aO (fun x => x.vs.length - x.i.toNat) ?_
 rintro ⟨ds, es, o, vs, i⟩ K ⟨h1, h2, h3, h4⟩ ho
 simp only at h1 h2 h3 h4
 rw [show (LB κ).P = Pr κ from rfl]
 have e0 : (⟨ds, es, o, vs, i⟩ : Ni).vs.length = (strs vs).length := (aM vs).symm
 simp only [Lh, e0]
 refine Eq.mpr (YQ κ ds es (iA o) (strs vs) i _ _ K) ?_
 simp only [Ey, Out.run, af] at ho
 simp only [aM]
 rw [af, aa0, aa2, aq, aa1, aa0, aa0]
 refine ⟨fun hi => ⟨⟨h3, hi⟩, ?_⟩, fun hi => ?_⟩
 ·have hk : i.toNat < vs.length := by omega
  have hr : ju ⟨ds, es, o, vs, i⟩ = vs[i.toNat] :: ju ⟨ds, es, o ++ [getM es vs[i.toNat]], vs, i + 1⟩ := by
   unfold ju
   simp only [show (i + 1).toNat = i.toNat + 1 by omega]
   exact ab1 hk
  have ha : r6 ⟨ds, es, o, vs, i⟩ = (!decide (getM es vs[i.toNat] = 0) && r6 ⟨ds, es, o ++ [getM es vs[i.toNat]], vs, i + 1⟩) := by
   unfold r6
   rw [hr, ac1]
  rw [Nat.zero_add, nU vs _ hk, Fo]
  have hg : toInt (eg es (Value.string (toStr (.lit (.string vs[i.toNat])))) (AV.int 0)) = getM es vs[i.toNat] := rfl
  rw [hg, af]
  refine ⟨fun e => ?_, fun e => ?_⟩
  ·rw [ha, e] at ho
   exact ho.2 rfl
  ·rw [ha, e, hr, Bool.not_false, ac0] at ho
   rw [aq, aa0, ff]
   rw [aU (n := i + 1) (by omega) (by omega)]
   refine ⟨by omega, _, ?_, ⟨ds, es, o ++ [getM es vs[i.toNat]], vs, i + 1⟩, ?_, ⟨h1, by simp only [ab9, List.length_singleton]; omega, by simp only; omega, by simp only; omega⟩, rfl, ?_⟩
   ·simp only; omega
   ·simp only [Lh, MJ, ff, ab9, List.length_singleton, List.take_of_length_le (show (iA o).length ≤ o.length by rw [ff]; omega)]
    rfl
   ·simp only [Ey, Out.run, af]
    rw [show o ++ [getM es vs[i.toNat]] ++ (ju ⟨ds, es, o ++ [getM es vs[i.toNat]], vs, i + 1⟩).map (getM es) = o ++ (vs[i.toNat] :: ju ⟨ds, es, o ++ [getM es vs[i.toNat]], vs, i + 1⟩).map (getM es) by simp]
    exact ho
 ·have hr : ju ⟨ds, es, o, vs, i⟩ = [] := by
   unfold ju
   exact aa8 (by simp only; omega)
  have ha : r6 ⟨ds, es, o, vs, i⟩ = true := by
   unfold r6
   rw [hr]; rfl
  rw [ha, hr] at ho
  have := ho.1 rfl
  simp only [ac3, List.append_nil] at this
  exact this
noncomputable def Og (κ : Kp) : Env := (LB κ).aj 61 11 (aK 0 Lh It Ey)
theorem YD (κ : Kp) : aw (Og κ) := (Vw κ).aj (Ud κ) (lTz κ)
theorem U8 (κ : Kp) : ai (Og κ) := (Ud κ).aj aE
theorem WS (κ : Kp) (ds : List AV) (r : b5) (K : AV → List Dn.Obj → Prop) : (a9 (Og κ) 12 61 [.ae 62 ds, aF r] [] K) = (
 letI z1 := Pg.toProgram (Env.P (Lb κ))
 letI z2 := Pg.toProgram (Env.P (LB κ))
 aZ (List.all [AV.agg [AV.agg [AV.str r.rel, AV.ae 52 r.hl], AV.ae 55 r.bl, AV.int r.line]] gy) (ax (!dS ds [AV.agg [AV.agg [AV.str r.rel, AV.ae 52 r.hl], AV.ae 55 r.bl, AV.int r.line]]) (K (AV.bR [AV.nil, AV.int 30]) []) (ag z1 61 4 = ag z1 61 4 ∧ ∃ (a : pC), sp 60 [(3, AV.ptr 0 0 [] 0), (6, AV.ptr 1 0 [] 0)] [Obj.box 41 (AV.agg [AV.agg [AV.str r.rel, AV.ae 52 r.hl], AV.ae 55 r.bl, AV.int r.line]), Obj.box 133 (AV.agg [AV.ae 62 ds, AV.mp 2, AV.bool true]), Dn.Obj.map 9 3 []] = sp 60 [(3, AV.ptr 0 0 [] 0), (6, AV.ptr 1 0 [] 0)] [Obj.box 41 (AV.agg [AV.agg [AV.str a.r.rel, AV.ae 52 a.r.hl], AV.ae 55 a.r.bl, AV.int a.r.line]), Obj.box 133 (AV.agg [AV.ae 62 a.ds, AV.mp 2, AV.bool a.more]), Dn.Obj.map 9 3 a.es] ∧ (aG (aL a.r) = true ∧ a.ds.length ≤ 9223372036854775807 ∧ aH (aa (aX 52 a.r.hl a.r.bl)) ≤ 100000 ∧ List.length a.r.bl ≤ 100000) ∧ ax (decide (Prod.fst (gd a) = (0 : Int))) (∃ (a_1 : b5), ([AV.agg [AV.agg [AV.lit (Value.string (b5.rel (pC.r {ds := a.ds, r := a.r, es := Prod.snd (gd a), more := false }))), AV.ae 52 (b5.hl (pC.r {ds := a.ds, r := a.r, es := Prod.snd (gd a), more := false }))], AV.ae 55 (b5.bl (pC.r {ds := a.ds, r := a.r, es := Prod.snd (gd a), more := false })), AV.lit (Value.int IntKind.i64 (b5.line (pC.r {ds := a.ds, r := a.r, es := Prod.snd (gd a), more := false })))]], az) = ([AV.agg [AV.agg [AV.str a_1.rel, AV.ae 52 a_1.hl], AV.ae 55 a_1.bl, AV.int a_1.line]], az) ∧ (aG (aL a_1) = true ∧ aH (aa (aX 52 a_1.hl a_1.bl)) ≤ 100000 ∧ a_1.bl.length ≤ 100000) ∧ ag z2 61 11 = ag z2 61 11 ∧ ∃ (a_2 : Ni), sp 60 [(6, AV.ptr 0 0 [] 0), (8, AV.a7 2 0 0), (36, AV.a7 3 0 (List.length (bq (aL a_1)))), (37, AV.int (↑(List.length (bq (aL a_1))) : Int)), (38, AV.int 0)] [Obj.box 133 (AV.agg [AV.ae 62 (pC.ds {ds := a.ds, r := a.r, es := Prod.snd (gd a), more := false }), AV.mp 1, AV.bool false]), Dn.Obj.map 9 3 (pC.es {ds := a.ds, r := a.r, es := Prod.snd (gd a), more := false }), Obj.row 3 [], Obj.row 9 (strs (bq (aL a_1)))] = sp 60 [(6, AV.ptr 0 0 [] 0), (8, AV.a7 2 0 (List.length (iA a_2.o))), (36, AV.a7 3 0 a_2.vs.length), (37, AV.int (↑(a_2.vs.length) : Int)), (38, AV.int a_2.i)] [Obj.box 133 (AV.agg [AV.ae 62 a_2.ds, AV.mp 1, AV.bool false]), Dn.Obj.map 9 3 a_2.es, Obj.row 3 (iA a_2.o), Obj.row 9 (strs a_2.vs)] ∧ (a_2.vs.length ≤ 100000 ∧ a_2.o.length ≤ a_2.i.toNat ∧ (0 : Int) ≤ a_2.i ∧ a_2.i ≤ (↑(a_2.vs.length) : Int)) ∧ ax (r6 a_2) (K (AV.bR [AV.a7 0 0 (List.length (iA (a_2.o ++ List.map (getM a_2.es) (ju a_2)))), AV.int 0]) [Obj.row 3 (iA (a_2.o ++ List.map (getM a_2.es) (ju a_2)))]) (K (AV.bR [AV.nil, AV.int 53]) [])) (K (AV.bR [AV.nil, AV.int (Prod.fst (gd a))]) [])))) := by kernel_rfl
abbrev Nq := List AV × b5
def ph (x : Nq) : Int × List Int := yE (aQ x.1) (aL x.2)
def J4 (x : Nq) : List AV × List Dn.Obj := ([.ae 62 x.1, aF x.2], [])
def ya (x : Nq) : Prop := x.1.length ≤ aI ∧ bZ x.2
def wm (x : Nq) : Out (AV × List Dn.Obj) := .ax (dS x.1 [aF x.2]) (.ax (decide ((ph x).1 = 0)) (.one (.bR [.a7 0 0 (iA (ph x).2).length, .int 0], [.row 3 (iA (ph x).2)])) (.one (.bR [.nil, .int (ph x).1], []))) (.one (.bR [.nil, .int 30], []))
theorem ru {ds : List AV} {r : b5} (h : dS ds [aF r] = true) : aG (aL r) = true := by
 unfold dS at h
 rw [aa1] at h
 have := h.2
 rw [ac1, aa1] at this
 exact this.1
theorem F7 {r : b5} (h : bZ r) : (bq (aL r)).length ≤ 100000 := by
 have := lI h
 rwa [nC] at this
theorem VB (κ : Kp) : bJ (Og κ) 12 61 (a8 J4 ya wm) := by
 refine bh ?_
 rintro ⟨ds, r⟩ K ⟨h1, h2⟩ ho
 simp only at h1 h2
 refine Eq.mpr (WS κ ds r K) ?_
 simp only [wm, Out.run, af] at ho
 have hl1 := dh (aa r.hl)
 rw [cL] at hl1
 have hc := kG h2
 have hl := h2.2
 refine aq.2 ⟨?_, ?_⟩
 ·show (gy (aF r) && true) = true
  have : gy (aF r) = (decide (r.hl.length ≤ aI) && decide (r.bl.length ≤ aI)) := rfl
  rw [this, aa6 (by simp only [aI]; omega), aa6 (by simp only [aI]; omega)]; rfl
 refine af.2 ⟨fun e => ho.2 (by simpa using e), fun e => ?_⟩
 have e' : dS ds [aF r] = true := by simpa using e
 have hr := ru e'
 have ho1 := ho.1 e'
 have hf : gd ⟨ds, r, [], true⟩ = dL getM fh (aQ ds) (aL r) ((bq (aL r)).length + 1) [] := nh ki (aQ ds) hr _ (fun s hs => (iK hr).2 hs) _ _ _ (Nat.lt_succ_self _) (Nat.lt_succ_of_le (vJ _ _ _))
 have ht : ph (ds, r) = bif decide ((gd ⟨ds, r, [], true⟩).1 = 0) then (bif (bq (aL r)).all (fun s => !decide (getM (gd ⟨ds, r, [], true⟩).2 s = 0)) then (0, (bq (aL r)).map (getM (gd ⟨ds, r, [], true⟩).2)) else (53, [])) else ((gd ⟨ds, r, [], true⟩).1, []) := by
  rw [hf]; rfl
 rw [ht] at ho1
 refine ⟨rfl, ⟨ds, r, [], true⟩, rfl, ⟨hr, h1, h2⟩, ?_⟩
 refine af.2 ⟨fun e1 => ⟨r, rfl, ⟨hr, h2⟩, rfl, ⟨ds, (gd ⟨ds, r, [], true⟩).2, [], bq (aL r), 0⟩, rfl, ⟨F7 h2, Nat.zero_le _, by simp only; omega, by simp only; omega⟩, ?_⟩, fun e1 => ?_⟩
 ·rw [e1, aa7] at ho1
  have ha : r6 ⟨ds, (gd ⟨ds, r, [], true⟩).2, [], bq (aL r), 0⟩ = (bq (aL r)).all (fun s => !decide (getM (gd ⟨ds, r, [], true⟩).2 s = 0)) := rfl
  rw [ha]
  refine af.2 ⟨fun e2 => ?_, fun e2 => ?_⟩
  ·rw [e2] at ho1
   exact ho1.1 rfl
  ·rw [e2] at ho1
   exact ho1.2 rfl
 ·rw [e1, aa5] at ho1
  exact ho1.2 e1
noncomputable def Ld (κ : Kp) : Env := (Og κ).ar 61 (a8 J4 ya wm)
theorem eTy (κ : Kp) : aw (Ld κ) := (YD κ).ar (U8 κ) (VB κ)
theorem TO (κ : Kp) : ai (Ld κ) := (U8 κ).ar aJ
abbrev JK (ds rs : List AV) : AV := .agg [.ae 62 ds, .ae 41 rs]
def jF (x : AV) : b5 := ⟨[], [], toStr (ad (ad x 0) 0), ah (ad (ad x 0) 1), ah (ad x 1), toInt (ad x 2), 0⟩
structure lU where
 ds : List AV
 rs : List AV
 i : Int
abbrev wc (x : lU) : Dn.Obj := .box 25 (JK x.ds x.rs)
def L5 (ds : List AV) : List AV → Int → Int × Int
 | [], _ => (0, 0)
 | d :: l, i => bif decide (jw (toStr (ad d 0)) ds = i) then L5 ds l (i + 1) else (toInt (ad d 5), 50)
def gq (ds : List AV) (x : AV) : Int := bif dS ds [aF (jF x)] then (ph (ds, jF x)).1 else 30
def Gz (f : AV → Int) : List AV → Int × Int
 | [] => (0, 0)
 | x :: l => bif decide (f x = 0) then Gz f l else (toInt (ad x 2), f x)
def ov (ds rs : List AV) : Int × Int := bif dS ds rs then (bif decide ((L5 ds ds 0).2 = 0) then Gz (gq ds) rs else L5 ds ds 0) else (0, 30)
def gf (x : AV) : Int := M6 (aL (jF x))
def zT (ds rs : List AV) : Int × Int := bif decide ((ov ds rs).2 = 0) then Gz gf rs else ov ds rs
def qa (ds rs : List AV) : Prop := ds.length ≤ aI ∧ rs.length ≤ aI ∧ ∀ x, x ∈ rs → bZ (jF x)
theorem DH {ds rs : List AV} (h : qa ds rs) : rs.all gy = true := by
 refine List.all_eq_true.2 fun x hx => ?_
 have h2 := h.2.2 x hx
 have hl1 := dh (aa (jF x).hl)
 rw [cL] at hl1
 have hc := kG h2
 have hl := h2.2
 have : gy x = (decide ((jF x).hl.length ≤ aI) && decide ((jF x).bl.length ≤ aI)) := rfl
 rw [this, aa6 (by simp only [aI]; omega), aa6 (by simp only [aI]; omega)]; rfl
abbrev Nx (x : lU) : S := sp 57 [(1, .ptr 0 0 [] 0), (16, .ae 62 x.ds), (17, .int x.ds.length), (18, .int x.i)] [wc x]
theorem xC1 (κ : Kp) (x : lU) (I : Nat → S → Prop) (n : Nat) (K : Exit → S → Prop) : (vc (Ld κ) 12 31 none 0 (ag (Pr κ).toProgram 31 4) (Nx x) (bC (Ld κ) 31 4 0 I n K)) = (
 letI z1 := AV.agg [AV.ae 62 x.ds, AV.ae 41 x.rs]
 ax (decide (x.i < (↑(x.ds.length) : Int))) (aZ (decide ((0 : Int) ≤ x.i) && decide (x.i < (↑(x.ds.length) : Int))) (∃ (a : List AV × ByteArray), ([AV.ae 62
 x.ds, AV.str (toStr (ad (nth x.ds x.i.toNat) 0))], az) = ([AV.ae 62 a.1, AV.str a.2], az) ∧ jc a ∧ ax (jw a.2 a.1 != x.i) (K Exit.ret (sp 57 [(2, AV.int (toInt
 (ad (nth x.ds x.i.toNat) 5))), (3, AV.int 50)] [])) (∃ (m : Nat), m < n ∧ I m (sp 57 [(1, AV.ptr 0 0 [] 0), (16, AV.ae 62 x.ds), (17, AV.int (↑(x.ds.length) :
 Int)), (18, AV.int (IntKind.wrap IntKind.i64 (x.i + (1 : Int))))] [Obj.box 25 z1])))) (K (Exit.exit 0) (sp 57 [(1, AV.ptr 0 0 [] 0)] [Obj.box 25 z1]))) := by kernel_rfl
def tf (x : lU) : Int × Int := L5 x.ds (x.ds.drop x.i.toNat) x.i
def yh (x : lU) : Prop := x.ds.length ≤ aI ∧ 0 ≤ x.i ∧ x.i ≤ x.ds.length
def EC (x : lU) : Out (Exit × S) := .ax (decide ((tf x).2 = 0)) (.one (.exit 0, sp 57 [(1, .ptr 0 0 [] 0)] [wc x])) (.one (.ret, sp 57 [(2, .int (tf x).1), (3, .int (tf x).2)] []))
theorem Xb (κ : Kp) : bg (Ld κ) 12 31 4 (aK 0 Nx yh EC) := by
 refine aO (fun x => x.ds.length - x.i.toNat) ?_
 rintro ⟨ds, rs, i⟩ K ⟨h1, h2, h3⟩ ho
 simp only at h1 h2 h3
 rw [show (Ld κ).P = Pr κ from rfl]
 refine Eq.mpr (xC1 κ ⟨ds, rs, i⟩ _ _ K) ?_
 simp only [aI] at h1
 simp only [EC, Out.run, af] at ho
 rw [af, aa0, aa2, aq, aa1, aa0, aa0]
 refine ⟨fun hi => ⟨⟨h2, hi⟩, (ds, toStr (ad (nth ds i.toNat) 0)), rfl, h1, ?_⟩, fun hi => ?_⟩
 ·simp only at hi
  have hk : i.toNat < ds.length := by omega
  have hr : tf ⟨ds, rs, i⟩ = bif decide (jw (toStr (ad (nth ds i.toNat) 0)) ds = i) then tf ⟨ds, rs, i + 1⟩ else (toInt (ad (nth ds i.toNat) 5), 50) := by
   unfold tf
   simp only [show (i + 1).toNat = i.toNat + 1 by omega]
   rw [ab1 hk, ← bx ds i.toNat hk, L5]
  rw [hr] at ho
  simp only [sD]
  cases e : decide (jw (toStr (ad (nth ds i.toNat) 0)) ds = i) with
  | false =>
   rw [e] at ho
   exact ho.2 rfl
  | true =>
   rw [e] at ho
   rw [aU (n := i + 1) (by omega) (by omega)]
   refine ⟨_, ?_, ⟨ds, rs, i + 1⟩, rfl, ⟨by simpa [aI] using h1, by simp only; omega, by simp only; omega⟩, rfl, ?_⟩
   ·simp only; omega
   ·simp only [EC, Out.run, af]
    exact ho
 ·simp only at hi
  have hr : tf ⟨ds, rs, i⟩ = (0, 0) := by
   unfold tf
   simp only
   rw [aa8 (by omega)]; rfl
  rw [hr] at ho
  exact ho.1 rfl
noncomputable def Lp (κ : Kp) : Env := (Ld κ).aj 31 4 (aK 0 Nx yh EC)
theorem XA (κ : Kp) : aw (Lp κ) := (eTy κ).aj (TO κ) (Xb κ)
theorem U9 (κ : Kp) : ai (Lp κ) := (TO κ).aj aE
abbrev Hp (x : lU) : S := sp 57 [(1, .ptr 0 0 [] 0), (38, .ae 41 x.rs), (39, .int x.rs.length), (40, .int x.i)] [wc x]
theorem xC2 (κ : Kp) (x : lU) (I : Nat → S → Prop) (n : Nat) (K : Exit → S → Prop) : (vc (Lp κ) 12 31 none 0 (ag (Pr κ).toProgram 31 11) (Hp x) (bC (Lp κ) 31 11 0 I n K)) = (
 letI z1 := sp 57 [(1, AV.ptr 0 0 [] 0), (38, AV.ae 41 x.rs), (39, AV.int (↑(x.rs.length) : Int)), (40, AV.int (IntKind.wrap IntKind.i64 (x.i + (1 : Int))))]
  [Obj.box 25 (AV.agg [AV.ae 62 x.ds, AV.ae 41 x.rs])]
 letI z2 := nth x.rs x.i.toNat
 letI z3 := toInt (ad z2 2)
 ax (decide (x.i < (↑(x.rs.length) : Int))) (aZ (decide ((0 : Int) ≤ x.i) && decide (x.i < (↑(x.rs.length) : Int))) (∃ (a : Nq), ([AV.ae 62 x.ds, AV.agg [AV.agg
 [AV.str (toStr (ad (ad z2 0) 0)), AV.ae 52 (ah (ad (ad z2 0) 1))], AV.ae 55 (ah (ad z2 1)), AV.int z3]], az) = ([AV.ae 62 a.1, aF a.2], az) ∧ (a.1.length ≤
 9223372036854775807 ∧ aH (aa (aX 52 a.2.hl a.2.bl)) ≤ 100000 ∧ a.2.bl.length ≤ 100000) ∧ ax (dS a.1 [aF a.2]) (ax (decide (Prod.fst (ph a) = (0 : Int))) (∃ (m :
 Nat), m < n ∧ I m z1) (ax (Prod.fst (ph a) != (0 : Int)) (K Exit.ret (sp 57 [(2, AV.int z3), (3, AV.int (Prod.fst (ph a)))] [])) (∃ (m : Nat), m < n ∧ I m z1)))
 (K Exit.ret (sp 57 [(2, AV.int z3), (3, AV.int 30)] [])))) (K (Exit.exit 2) (sp 57 [] []))) := by kernel_rfl
def oA (f : AV → Int) (x : lU) : Int × Int := Gz f (x.rs.drop x.i.toNat)
def jt (x : lU) : Prop := qa x.ds x.rs ∧ 0 ≤ x.i ∧ x.i ≤ x.rs.length
def Ag (x : lU) : Out (Exit × S) := .ax (decide ((oA (gq x.ds) x).2 = 0)) (.one (.exit 2, sp 57 [] [])) (.one (.ret, sp 57 [(2, .int (oA (gq x.ds) x).1), (3, .int (oA (gq x.ds) x).2)] []))
theorem tc (f : AV → Int) (ds rs : List AV) (i : Int) (h0 : 0 ≤ i) (hk : i.toNat < rs.length) : oA f ⟨ds, rs, i⟩ = bif decide (f (nth rs i.toNat) = 0) then oA f ⟨ds, rs, i + 1⟩ else (toInt (ad (nth rs i.toNat) 2), f (nth rs i.toNat)) := by
 unfold oA
 simp only [show (i + 1).toNat = i.toNat + 1 by omega]
 rw [ab1 hk, ← bx rs i.toNat hk, Gz]
theorem tn (f : AV → Int) (ds rs : List AV) (i : Int) (h : rs.length ≤ i.toNat) : oA f ⟨ds, rs, i⟩ = (0, 0) := by
 unfold oA
 simp only
 rw [aa8 h]; rfl
theorem XS (κ : Kp) : bg (Lp κ) 12 31 11 (aK 0 Hp jt Ag) := by
 refine aO (fun x => x.rs.length - x.i.toNat) ?_
 rintro ⟨ds, rs, i⟩ K ⟨h1, h2, h3⟩ ho
 simp only at h1 h2 h3
 rw [show (Lp κ).P = Pr κ from rfl]
 refine Eq.mpr (xC2 κ ⟨ds, rs, i⟩ _ _ K) ?_
 have hml := h1.2.1
 simp only [aI] at hml
 simp only [Ag, Out.run, af] at ho
 rw [af, aa0, aa2, aq, aa1, aa0, aa0]
 refine ⟨fun hi => ⟨⟨h2, hi⟩, (ds, jF (nth rs i.toNat)), rfl, ⟨h1.1, ?_⟩, ?_⟩, fun hi => ?_⟩
 ·simp only at hi
  exact h1.2.2 _ (by rw [bx _ _ (show i.toNat < rs.length by omega)]; exact List.getElem_mem _)
 ·simp only at hi
  have hk : i.toNat < rs.length := by omega
  rw [tc _ _ _ _ h2 hk] at ho
  have next : gq ds (nth rs i.toNat) = 0 → ∃ m, m < rs.length - i.toNat ∧ fp Hp jt Ag (fun x => x.rs.length - x.i.toNat) K m (Hp ⟨ds, rs, i + 1⟩) := fun e => by
   rw [e] at ho
   refine ⟨_, ?_, ⟨ds, rs, i + 1⟩, rfl, ⟨h1, by simp only; omega, by simp only; omega⟩, rfl, ?_⟩
   ·simp only; omega
   ·simp only [Ag, Out.run, af]
    exact ho
  have stop : ∀ e : Int, gq ds (nth rs i.toNat) = e → e ≠ 0 → K .ret (sp 57 [(2, .int (toInt (ad (nth rs i.toNat) 2))), (3, .int e)] []) := fun e he h0 => by
   rw [he, aa4 h0] at ho
   exact ho.2 (aa4 h0)
  rw [aU (n := i + 1) (by omega) (by omega)]
  have ht : gq ds (nth rs i.toNat) = bif dS ds [aF (jF (nth rs i.toNat))] then (ph (ds, jF (nth rs i.toNat))).1 else 30 := rfl
  refine af.2 ⟨fun e1 => ?_, fun e1 => ?_⟩
  ·rw [e1, aa7] at ht
   refine af.2 ⟨fun e2 => next (by rw [ht]; simpa using e2), fun e2 => ?_⟩
   rw [aa2] at e2
   have := stop _ ht e2
   simp only [sD]
   refine af.2 ⟨fun _ => this, fun e3 => ?_⟩
   rw [ab2, aa0] at e3
   exact absurd e3 e2
  ·rw [e1, aa5] at ht
   exact stop 30 ht (by decide)
 ·simp only at hi
  rw [tn _ _ _ _ (by omega)] at ho
  exact ho.1 rfl
noncomputable def Qn (κ : Kp) : Env := (Lp κ).aj 31 11 (aK 0 Hp jt Ag)
theorem Zr (κ : Kp) : aw (Qn κ) := (XA κ).aj (U9 κ) (XS κ)
theorem Vh (κ : Kp) : ai (Qn κ) := (U9 κ).aj aE
theorem Xy (κ : Kp) (ds rs : List AV) (K : AV → List Dn.Obj → Prop) : (a9 (Qn κ) 12 31 [JK ds rs] [] K) = (
 letI z1 := Pg.toProgram (Env.P (Ld κ))
 letI z2 := Pg.toProgram (Env.P (Lp κ))
 aZ (List.all rs gy) (ax (!dS ds rs) (K (AV.bR [AV.int 0, AV.int 30]) []) (ag z1 31 4 = ag z1 31 4 ∧ ∃ (a : lU), sp 57 [(1, AV.ptr 0 0 [] 0), (16, AV.ae 62 ds),
 (17, AV.int (↑(ds.length) : Int)), (18, AV.int 0)] [Obj.box 25 (AV.agg [AV.ae 62 ds, AV.ae 41 rs])] = sp 57 [(1, AV.ptr 0 0 [] 0), (16, AV.ae 62 a.ds), (17,
 AV.int (↑(a.ds.length) : Int)), (18, AV.int a.i)] [Obj.box 25 (AV.agg [AV.ae 62 a.ds, AV.ae 41 a.rs])] ∧ (a.ds.length ≤ 9223372036854775807 ∧ (0 : Int) ≤ a.i ∧
 a.i ≤ (↑(a.ds.length) : Int)) ∧ ax (decide (Prod.snd (tf a) = (0 : Int))) (ag z2 31 11 = ag z2 31 11 ∧ ∃ (a_1 : lU), sp 57 [(1, AV.ptr 0 0 [] 0), (38, AV.ae 41
 a.rs), (39, AV.int (↑(a.rs.length) : Int)), (40, AV.int 0)] [Obj.box 25 (AV.agg [AV.ae 62 a.ds, AV.ae 41 a.rs])] = sp 57 [(1, AV.ptr 0 0 [] 0), (38, AV.ae 41
 a_1.rs), (39, AV.int (↑(a_1.rs.length) : Int)), (40, AV.int a_1.i)] [Obj.box 25 (AV.agg [AV.ae 62 a_1.ds, AV.ae 41 a_1.rs])] ∧ ((a_1.ds.length ≤
 9223372036854775807 ∧ a_1.rs.length ≤ 9223372036854775807 ∧ ∀ (x : AV), List.Mem x a_1.rs → aH (aa (aX 52 (b5.hl (jF x)) (b5.bl (jF x)))) ≤ 100000 ∧ List.length
 (b5.bl (jF x)) ≤ 100000) ∧ (0 : Int) ≤ a_1.i ∧ a_1.i ≤ (↑(a_1.rs.length) : Int)) ∧ ax (decide (Prod.snd (oA (gq a_1.ds) a_1) = (0 : Int))) (K (AV.bR [AV.int 0,
 AV.int 0]) []) (K (AV.bR [AV.int (Prod.fst (oA (gq a_1.ds) a_1)), AV.int (Prod.snd (oA (gq a_1.ds) a_1))]) [])) (K (AV.bR [AV.int (Prod.fst (tf a)), AV.int
 (Prod.snd (tf a))]) [])))) := by kernel_rfl
abbrev LU := List AV × List AV
def Ba (x : LU) : List AV × List Dn.Obj := ([JK x.1 x.2], [])
def ni (x : LU) : Prop := qa x.1 x.2
def xn (x : LU) : Out (AV × List Dn.Obj) := .one (.bR [.int (ov x.1 x.2).1, .int (ov x.1 x.2).2], [])
theorem vG (f : AV → Int) : ∀ l, (Gz f l).2 = 0 → Gz f l = (0, 0)
 | [], _ => rfl
 | x :: l, h => by
  rw [Gz] at h ⊢
  cases e : decide (f x = 0) with
  | true => rw [e, aa7] at h; exact vG f l h
  | false =>
   rw [e, aa5] at h
   rw [aa2] at e
   exact absurd h e
theorem cCd (κ : Kp) : bJ (Qn κ) 12 31 (a8 Ba ni xn) := by
 refine bh ?_
 rintro ⟨ds, rs⟩ K h1 ho
 have h1 : qa ds rs := h1
 refine Eq.mpr (Xy κ ds rs K) ?_
 simp only [xn, Out.run, ov] at ho
 refine aq.2 ⟨DH h1, af.2 ⟨fun e => ?_, fun e => ?_⟩⟩
 ·rw [show dS ds rs = false by simpa using e] at ho
  exact ho
 ·rw [show dS ds rs = true by simpa using e, aa7] at ho
  have e1 : tf ⟨ds, rs, 0⟩ = L5 ds ds 0 := rfl
  have e2 : oA (gq ds) ⟨ds, rs, 0⟩ = Gz (gq ds) rs := rfl
  refine ⟨rfl, ⟨ds, rs, 0⟩, rfl, ⟨h1.1, by simp only; omega, by simp only; omega⟩, ?_⟩
  rw [e1]
  refine af.2 ⟨fun e3 => ⟨rfl, ⟨ds, rs, 0⟩, rfl, ⟨h1, by simp only; omega, by simp only; omega⟩, ?_⟩, fun e3 => ?_⟩
  ·rw [e3, aa7] at ho
   rw [e2]
   refine af.2 ⟨fun e4 => ?_, fun e4 => ho⟩
   rw [aa0] at e4
   rw [vG _ _ e4] at ho
   exact ho
  ·rw [e3, aa5] at ho
   exact ho
noncomputable def J8 (κ : Kp) : Env := (Qn κ).ar 31 (a8 Ba ni xn)
theorem Xw (κ : Kp) : aw (J8 κ) := (Zr κ).ar (Vh κ) (cCd κ)
theorem Tu (κ : Kp) : ai (J8 κ) := (Vh κ).ar aJ
abbrev IQ (x : lU) : S := sp 37 [(20, .ae 41 x.rs), (21, .int x.rs.length), (22, .int x.i)] []
theorem xC3 (κ : Kp) (x : lU) (I : Nat → S → Prop) (n : Nat) (K : Exit → S → Prop) : (vc (J8 κ) 12 12 none 0 (ag (Pr κ).toProgram 12 5) (IQ x) (bC (J8 κ) 12 5 0 I n K)) = (
 letI z1 := nth x.rs x.i.toNat
 letI z2 := toInt (ad z1 2)
 ax (decide (x.i < (↑(x.rs.length) : Int))) (aZ (decide ((0 : Int) ≤ x.i) && decide (x.i < (↑(x.rs.length) : Int))) (∃ (a : b5), ([AV.agg [AV.agg [AV.str (toStr
 (ad (ad z1 0) 0)), AV.ae 52 (ah (ad (ad z1 0) 1))], AV.ae 55 (ah (ad z1 1)), AV.int z2]], az) = ([aF a], az) ∧ (aH (aa (aX 52 a.hl a.bl)) ≤ 100000 ∧ a.bl.length
 ≤ 100000) ∧ ax (aG (aL a)) (ax (iw (aL a)) (∃ (m : Nat), m < n ∧ I m (sp 37 [(20, AV.ae 41 x.rs), (21, AV.int (↑(x.rs.length) : Int)), (22, AV.int (IntKind.wrap
 IntKind.i64 (x.i + (1 : Int))))] [])) (K Exit.ret (sp 37 [(2, AV.int z2), (3, AV.int 60)] []))) (K Exit.ret (sp 37 [(2, AV.int z2), (3, AV.int 30)] [])))) (K
 (Exit.exit 0) (sp 37 [] []))) := by kernel_rfl
def AO (x : lU) : Out (Exit × S) := .ax (decide ((oA gf x).2 = 0)) (.one (.exit 0, sp 37 [] [])) (.one (.ret, sp 37 [(2, .int (oA gf x).1), (3, .int (oA gf x).2)] []))
theorem Vu (κ : Kp) : bg (J8 κ) 12 12 5 (aK 0 IQ jt AO) := by
 refine aO (fun x => x.rs.length - x.i.toNat) ?_
 rintro ⟨ds, rs, i⟩ K ⟨h1, h2, h3⟩ ho
 simp only at h1 h2 h3
 rw [show (J8 κ).P = Pr κ from rfl]
 refine Eq.mpr (xC3 κ ⟨ds, rs, i⟩ _ _ K) ?_
 have hml := h1.2.1
 simp only [aI] at hml
 simp only [AO, Out.run, af] at ho
 rw [af, aa0, aa2, aq, aa1, aa0, aa0]
 refine ⟨fun hi => ⟨⟨h2, hi⟩, jF (nth rs i.toNat), rfl, ?_, ?_⟩, fun hi => ?_⟩
 ·simp only at hi
  exact h1.2.2 _ (by rw [bx _ _ (show i.toNat < rs.length by omega)]; exact List.getElem_mem _)
 ·simp only at hi
  have hk : i.toNat < rs.length := by omega
  rw [tc _ _ _ _ h2 hk] at ho
  have next : gf (nth rs i.toNat) = 0 → ∃ m, m < rs.length - i.toNat ∧ fp IQ jt AO (fun x => x.rs.length - x.i.toNat) K m (IQ ⟨ds, rs, i + 1⟩) := fun e => by
   rw [e] at ho
   refine ⟨_, ?_, ⟨ds, rs, i + 1⟩, rfl, ⟨h1, by simp only; omega, by simp only; omega⟩, rfl, ?_⟩
   ·simp only; omega
   ·simp only [AO, Out.run, af]
    exact ho
  have stop : ∀ e : Int, gf (nth rs i.toNat) = e → e ≠ 0 → K .ret (sp 37 [(2, .int (toInt (ad (nth rs i.toNat) 2))), (3, .int e)] []) := fun e he h0 => by
   rw [he, aa4 h0] at ho
   exact ho.2 (aa4 h0)
  rw [aU (n := i + 1) (by omega) (by omega)]
  have ht : gf (nth rs i.toNat) = bif aG (aL (jF (nth rs i.toNat))) then bif iw (aL (jF (nth rs i.toNat))) then 0 else 60 else 30 := rfl
  refine af.2 ⟨fun e1 => ?_, fun e1 => ?_⟩
  ·rw [e1, aa7] at ht
   refine af.2 ⟨fun e2 => next (by rw [ht, e2]; rfl), fun e2 => stop 60 (by rw [ht, e2]; rfl) (by decide)⟩
  ·rw [e1, aa5] at ht
   exact stop 30 ht (by decide)
 ·simp only at hi
  rw [tn _ _ _ _ (by omega)] at ho
  exact ho.1 rfl
noncomputable def P9 (κ : Kp) : Env := (J8 κ).aj 12 5 (aK 0 IQ jt AO)
theorem eC3 (κ : Kp) : aw (P9 κ) := (Xw κ).aj (Tu κ) (Vu κ)
theorem UF (κ : Kp) : ai (P9 κ) := (Tu κ).aj aE
theorem yCs (κ : Kp) (ds rs : List AV) (K : AV → List Dn.Obj → Prop) : (a9 (P9 κ) 12 12 [JK ds rs] [] K) = (
 letI z1 := Pg.toProgram (Env.P (J8 κ))
 ∃ (a : LU), ([AV.agg [AV.ae 62 ds, AV.ae 41 rs]], az) = ([AV.agg [AV.ae 62 a.1, AV.ae 41 a.2]], az) ∧ (a.1.length ≤ 9223372036854775807 ∧ a.2.length ≤
 9223372036854775807 ∧ ∀ (x : AV), List.Mem x a.2 → aH (aa (aX 52 (b5.hl (jF x)) (b5.bl (jF x)))) ≤ 100000 ∧ List.length (b5.bl (jF x)) ≤ 100000) ∧ ax (Prod.snd
 (ov a.1 a.2) != (0 : Int)) (K (AV.bR [AV.int (Prod.fst (ov a.1 a.2)), AV.int (Prod.snd (ov a.1 a.2))]) []) (ag z1 12 5 = ag z1 12 5 ∧ ∃ (a : lU), sp 37 [(20,
 AV.ae 41 rs), (21, AV.int (↑(rs.length) : Int)), (22, AV.int 0)] [] = sp 37 [(20, AV.ae 41 a.rs), (21, AV.int (↑(a.rs.length) : Int)), (22, AV.int a.i)] [] ∧
 ((a.ds.length ≤ 9223372036854775807 ∧ a.rs.length ≤ 9223372036854775807 ∧ ∀ (x : AV), List.Mem x a.rs → aH (aa (aX 52 (b5.hl (jF x)) (b5.bl (jF x)))) ≤ 100000 ∧
 List.length (b5.bl (jF x)) ≤ 100000) ∧ (0 : Int) ≤ a.i ∧ a.i ≤ (↑(a.rs.length) : Int)) ∧ ax (decide (Prod.snd (oA gf a) = (0 : Int))) (K (AV.bR [AV.int 0,
 AV.int 0]) []) (K (AV.bR [AV.int (Prod.fst (oA gf a)), AV.int (Prod.snd (oA gf a))]) []))) := by kernel_rfl
def wV (x : LU) : Out (AV × List Dn.Obj) := .one (.bR [.int (zT x.1 x.2).1, .int (zT x.1 x.2).2], [])
theorem XX (κ : Kp) : bJ (P9 κ) 12 12 (a8 Ba ni wV) := by
 refine bh ?_
 rintro ⟨ds, rs⟩ K h1 ho
 have h1 : qa ds rs := h1
 refine Eq.mpr (yCs κ ds rs K) ?_
 simp only [wV, Out.run, zT] at ho
 refine ⟨(ds, rs), rfl, h1, ?_⟩
 simp only [sD]
 have e2 : oA gf ⟨ds, rs, 0⟩ = Gz gf rs := rfl
 refine af.2 ⟨fun e => ?_, fun e => ?_⟩
 ·rw [show decide ((ov ds rs).2 = 0) = false by simpa using e] at ho
  exact ho
 ·rw [show decide ((ov ds rs).2 = 0) = true by simpa using e] at ho
  refine ⟨trivial, ⟨ds, rs, 0⟩, rfl, ⟨h1, by simp only; omega, by simp only; omega⟩, ?_⟩
  rw [e2]
  refine af.2 ⟨fun e4 => ?_, fun e4 => ho⟩
  rw [aa0] at e4
  rw [aa7, vG _ _ e4] at ho
  exact ho
noncomputable def Lu (κ : Kp) : Env := (P9 κ).ar 12 (a8 Ba ni wV)
theorem eCs (κ : Kp) : aw (Lu κ) := (eC3 κ).ar (UF κ) (XX κ)
theorem U3 (κ : Kp) : ai (Lu κ) := (UF κ).ar aJ
theorem xRd (κ : Kp) (d : GA) (i : Int) (I : Nat → S → Prop) (n : Nat) (K : Exit → S → Prop) : (vc (Lu κ) 12 98 none 0 (ag (Pr κ).toProgram 98 5) (sp 63 [(1, .ptr 0 0 [] 0), (4, .int i)] [.box 62 (NK d)]) (bC (Lu κ) 98 5 0 I n K)) = (
 letI z1 := sp 63 [(1, AV.ptr 0 0 [] 0), (4, AV.int (IntKind.wrap IntKind.i64 (i + (1 : Int))))] [Obj.box 62 (AV.agg [AV.str d.rel, AV.ae 9 d.names, AV.ae 3
  d.types, AV.bool d.i, AV.bool d.o, AV.int d.line])]
 letI z2 := decide ((0 : Int) ≤ i) && decide (i < (↑(d.types.length) : Int))
 letI z3 := K Exit.ret (sp 63 [(2, AV.bool false)] [])
 ax (decide (i < (↑(d.names.length) : Int))) (aZ (decide ((0 : Int) ≤ i) && decide (i < (↑(d.names.length) : Int))) (ax (!isName (toStr (nth d.names i.toNat)))
 z3 (aZ z2 (ax (toInt (nth d.types i.toNat) != (1 : Int)) (aZ z2 (ax (toInt (nth d.types i.toNat) != (2 : Int)) z3 (∃ (m : Nat), m < n ∧ I m z1))) (∃ (m : Nat),
 m < n ∧ I m z1))))) (K (Exit.exit 0) (sp 63 [] []))) := by kernel_rfl
abbrev KU (a : GA × Int) : S := sp 63 [(1, .ptr 0 0 [] 0), (4, .int a.2)] [.box 62 (NK a.1)]
def A9 (a : GA × Int) : Out (Exit × S) := .ax (u9 (a.1.names.drop a.2.toNat) (a.1.types.drop a.2.toNat)) (.one (.exit 0, sp 63 [] [])) (.one (.ret, sp 63 [(2, .bool false)] []))
theorem lRd (κ : Kp) : bg (Lu κ) 12 98 5 (aK 0 KU qS A9) := by
 refine aO (fun a => a.1.names.length - a.2.toNat) ?_
 rintro ⟨d, i⟩ K ⟨h1, h2, h3, h4⟩ ho
 simp only at h1 h2 h3 h4
 rw [show (Lu κ).P = Pr κ from rfl]
 refine Eq.mpr (xRd κ d i _ _ K) ?_
 simp only [A9, Out.run, af] at ho
 simp only [af, aq, aa0, aa2, aa1, Bool.not_eq_true', ab2, bne_iff_ne, bne_eq_false_iff_eq]
 refine ⟨fun hi => ?_, fun hi => ?_⟩
 ·have hk : i.toNat < d.names.length := by omega
  rw [xq hk (by omega)] at ho
  rw [aU (n := i + 1) (by omega) (by omega)]
  have go : pL (nth d.types i.toNat) = true → isName (toStr (nth d.names i.toNat)) = true → ∃ m, m < d.names.length - i.toNat ∧ fp KU qS A9 (fun a => a.1.names.length - a.2.toNat) K m (KU (d, i + 1)) := fun e1 e2 => by
   rw [e1, e2, ac0, ac0] at ho
   refine ⟨_, ?_, (d, i + 1), rfl, ⟨h1, h2, by simp only; omega, by simp only; omega⟩, rfl, ?_⟩
   ·simp only; omega
   ·simp only [A9, Out.run, af, show (i + 1).toNat = i.toNat + 1 by omega]
    exact ho
  refine ⟨⟨h3, hi⟩, fun e => ho.2 (by rw [e]; rfl), fun e => ⟨⟨h3, by omega⟩, fun e1 => ⟨⟨h3, by omega⟩, fun e2 => ho.2 ?_, fun e2 => go ?_ e⟩, fun e1 => go ?_ e⟩⟩
  ·have : pL (nth d.types i.toNat) = false := by unfold pL; rw [aa4 e1, aa4 e2]; rfl
   rw [this, e]; rfl
  ·unfold pL; rw [aa6 e2, Bool.or_true]
  ·unfold pL; rw [aa6 e1, Bool.true_or]
 ·rw [aa8 (by omega)] at ho
  exact ho.1 rfl
noncomputable def Hr (κ : Kp) : Env := (Lu κ).aj 98 5 (aK 0 KU qS A9)
theorem RU (κ : Kp) : aw (Hr κ) := (eCs κ).aj (U3 κ) (lRd κ)
theorem OO (κ : Kp) : ai (Hr κ) := (U3 κ).aj aE
theorem Vq (κ : Kp) (d : GA) (K : AV → List Dn.Obj → Prop) : (a9 (Hr κ) 12 98 [NK d] [] K) = (
 letI z1 := K (AV.bool false) []
 letI z2 := Pg.toProgram (Env.P (Lu κ))
 ax (!isName d.rel) z1 (ax (decide ((↑(d.names.length) : Int) < (1 : Int))) z1 (ax (decide ((↑(d.names.length) : Int) > (8 : Int))) z1 (ax ((↑(d.types.length) :
 Int) != (↑(d.names.length) : Int)) z1 (ag z2 98 5 = ag z2 98 5 ∧ ∃ (a : GA × Int), sp 63 [(1, AV.ptr 0 0 [] 0), (4, AV.int 0)] [Obj.box 62 (AV.agg [AV.str
 d.rel, AV.ae 9 d.names, AV.ae 3 d.types, AV.bool d.i, AV.bool d.o, AV.int d.line])] = sp 63 [(1, AV.ptr 0 0 [] 0), (4, AV.int a.2)] [Obj.box 62 (AV.agg [AV.str
 a.1.rel, AV.ae 9 a.1.names, AV.ae 3 a.1.types, AV.bool a.1.i, AV.bool a.1.o, AV.int a.1.line])] ∧ (a.1.types.length = a.1.names.length ∧ a.1.names.length ≤ 8 ∧
 (0 : Int) ≤ a.2 ∧ a.2 ≤ (↑(a.1.names.length) : Int)) ∧ ax (u9 (List.drop a.2.toNat a.1.names) (List.drop a.2.toNat a.1.types)) (K (AV.bool true) []) z1))))) := by kernel_rfl
theorem pRd (κ : Kp) : bM (Hr κ) 12 98 NB := by
 intro args x hh
 unfold NB at hh
 split at hh
 ·rename_i rel ns ts bi bo line
  simp only [aa3, aa9, true_and] at hh
  subst hh
  refine ⟨_, rfl, rfl, ?_⟩
  refine Eq.mpr (Vq κ ⟨rel, ns, ts, bi, bo, line⟩ _) ?_
  unfold sl
  simp only [af, aa0, aa2, Bool.not_eq_true', ab2, bne_iff_ne, bne_eq_false_iff_eq]
  refine ⟨fun e => cO (by rw [e]; rfl), fun e => ⟨fun e2 => cO ?_, fun e2 => ⟨fun e3 => cO ?_, fun e3 => ⟨fun e4 => cO ?_, fun e4 => ⟨trivial, (⟨rel, ns, ts, bi, bo, line⟩, 0), rfl, ⟨by simp only; omega, by simp only; omega, by simp only; omega, by simp only; omega⟩, ?_⟩⟩⟩⟩⟩
  ·rw [aa6 (show ns.length = 0 by omega)]; simp
  ·rw [aa4 (show ¬ ns.length ≤ 8 by omega)]; simp
  ·rw [aa4 (show ¬ ts.length = ns.length by omega)]; simp
  ·rw [e, aa4 (show ¬ ns.length = 0 by omega), aa6 (show ns.length ≤ 8 by omega), aa6 (show ts.length = ns.length by omega)]
   simp only [ab8, ab0, Bool.not_false, ac0]
   exact ⟨fun e5 => cO e5.symm, fun e5 => cO e5.symm⟩
 ·cases hh
noncomputable def y1 (κ : Kp) : Env := (Hr κ).au 98 NB
theorem Sr (κ : Kp) : aw (y1 κ) := (RU κ).au (OO κ) (pRd κ)
theorem Ok (κ : Kp) : ai (y1 κ) := (OO κ).au
def jX (x : AV) : Bool := gy x && vH (ah (ad x 1))
theorem Bo {ds rs : List AV} (h : qa ds rs) : rs.all jX = true := by
 refine List.all_eq_true.2 fun x hx => ?_
 have h1 := List.all_eq_true.1 (DH h) x hx
 have h2 := vv (h.2.2 x hx)
 have h3 : vH (ah (ad x 1)) = true := h2
 unfold jX
 rw [h1, h3]; rfl
abbrev Nc (x : lU) : S := sp 47 [(1, .ptr 0 0 [] 0), (3, .int x.i)] [wc x]
theorem Vo (κ : Kp) (x : lU) (I : Nat → S → Prop) (n : Nat) (K : Exit → S → Prop) : (vc (y1 κ) 12 62 none 0 (ag (Pr κ).toProgram 62 4) (Nc x) (bC (y1 κ) 62 4 0 I n K)) = (
 letI z1 := AV.agg [AV.ae 62 x.ds, AV.ae 41 x.rs]
 letI z2 := nth x.ds x.i.toNat
 ax (decide (x.i < (↑(x.ds.length) : Int))) (aZ (decide ((0 : Int) ≤ x.i) && decide (x.i < (↑(x.ds.length) : Int))) (ax (!sl (toStr (ad z2 0)) (ah (ad z2 1)) (ah
 (ad z2 2))) (K Exit.ret (sp 47 [(2, AV.bool false)] [])) (∃ (m : Nat), m < n ∧ I m (sp 47 [(1, AV.ptr 0 0 [] 0), (3, AV.int (IntKind.wrap IntKind.i64 (x.i + (1
 : Int))))] [Obj.box 25 z1])))) (K (Exit.exit 0) (sp 47 [(1, AV.ptr 0 0 [] 0)] [Obj.box 25 z1]))) := by kernel_rfl
def Iq (x : lU) : Prop := x.ds.length ≤ aI ∧ 0 ≤ x.i ∧ x.i ≤ x.ds.length
def DU (x : lU) : Out (Exit × S) := .ax ((x.ds.drop x.i.toNat).all sG) (.one (.exit 0, sp 47 [(1, .ptr 0 0 [] 0)] [wc x])) (.one (.ret, sp 47 [(2, .bool false)] []))
theorem lS1 (κ : Kp) : bg (y1 κ) 12 62 4 (aK 0 Nc Iq DU) := by
 refine aO (fun x => x.ds.length - x.i.toNat) ?_
 rintro ⟨ds, rs, i⟩ K ⟨h1, h2, h3⟩ ho
 simp only at h1 h2 h3
 rw [show (y1 κ).P = Pr κ from rfl]
 refine Eq.mpr (Vo κ ⟨ds, rs, i⟩ _ _ K) ?_
 simp only [aI] at h1
 simp only [DU, Out.run, af] at ho
 rw [af, aa0, aa2, aq, aa1, aa0, aa0]
 refine ⟨fun hi => ⟨⟨h2, hi⟩, ?_⟩, fun hi => ?_⟩
 ·simp only at hi
  have hk : i.toNat < ds.length := by omega
  rw [ab1 hk, ← bx ds i.toNat hk, ac1] at ho
  rw [af]
  refine ⟨fun e => ho.2 (by rw [show sG (nth ds i.toNat) = false by simpa using (show (!sG (nth ds i.toNat)) = true from e)]; rfl), fun e => ?_⟩
  rw [show sG (nth ds i.toNat) = true by simpa using (show (!sG (nth ds i.toNat)) = false from e), ac0] at ho
  rw [aU (n := i + 1) (by omega) (by omega)]
  refine ⟨_, ?_, ⟨ds, rs, i + 1⟩, rfl, ⟨by simpa [aI] using h1, by simp only; omega, by simp only; omega⟩, rfl, ?_⟩
  ·simp only; omega
  ·simp only [DU, Out.run, af, show (i + 1).toNat = i.toNat + 1 by omega]
   exact ho
 ·simp only at hi
  rw [aa8 (by omega)] at ho
  exact ho.1 rfl
noncomputable def J6 (κ : Kp) : Env := (y1 κ).aj 62 4 (aK 0 Nc Iq DU)
theorem X1 (κ : Kp) : aw (J6 κ) := (Sr κ).aj (Ok κ) (lS1 κ)
theorem Uc (κ : Kp) : ai (J6 κ) := (Ok κ).aj aE
abbrev Nn (x : lU) : S := sp 47 [(1, .ptr 0 0 [] 0), (5, .int x.i)] [wc x]
theorem Wq (κ : Kp) (x : lU) (I : Nat → S → Prop) (n : Nat) (K : Exit → S → Prop) : (vc (J6 κ) 12 62 none 0 (ag (Pr κ).toProgram 62 10) (Nn x) (bC (J6 κ) 62 10 0 I n K)) = (
 letI z1 := nth x.rs x.i.toNat
 letI z2 := ah (ad z1 1)
 ax (decide (x.i < (↑(x.rs.length) : Int))) (aZ (decide ((0 : Int) ≤ x.i) && decide (x.i < (↑(x.rs.length) : Int))) (aZ (decide (List.length (ah (ad (ad z1 0) 1)) ≤ 9223372036854775807) && decide (List.length z2 ≤ 9223372036854775807) && vH z2) (ax (!aG {head := { rel := toStr (ad (ad z1 0) 0), l := aa (ah (ad (ad z1 0) 1)) }, body := bn z2 }) (K Exit.ret (sp 47 [(2, AV.bool false)] [])) (∃ (m : Nat), m < n ∧ I m (sp 47 [(1, AV.ptr 0 0 [] 0), (5, AV.int (IntKind.wrap IntKind.i64 (x.i + (1 : Int))))] [Obj.box 25 (AV.agg [AV.ae 62 x.ds, AV.ae 41 x.rs])]))))) (K (Exit.exit 2) (sp 47 [] []))) := by kernel_rfl
def G3 (x : lU) : Prop := x.rs.length ≤ aI ∧ 0 ≤ x.i ∧ x.i ≤ x.rs.length ∧ x.rs.all jX = true
def E1 (x : lU) : Out (Exit × S) := .ax ((x.rs.drop x.i.toNat).all jm) (.one (.exit 2, sp 47 [] [])) (.one (.ret, sp 47 [(2, .bool false)] []))
theorem Xn (κ : Kp) : bg (J6 κ) 12 62 10 (aK 0 Nn G3 E1) := by
 refine aO (fun x => x.rs.length - x.i.toNat) ?_
 rintro ⟨ds, rs, i⟩ K ⟨h1, h2, h3, h4⟩ ho
 simp only at h1 h2 h3 h4
 rw [show (J6 κ).P = Pr κ from rfl]
 refine Eq.mpr (Wq κ ⟨ds, rs, i⟩ _ _ K) ?_
 simp only [aI] at h1
 simp only [E1, Out.run, af] at ho
 rw [af, aa0, aa2, aq, aa1, aa0, aa0]
 refine ⟨fun hi => ⟨⟨h2, hi⟩, ?_⟩, fun hi => ?_⟩
 ·simp only at hi
  have hk : i.toNat < rs.length := by omega
  have hf := List.all_eq_true.1 h4 (nth rs i.toNat) (by rw [bx _ _ hk]; exact List.getElem_mem hk)
  rw [ab1 hk, ← bx rs i.toNat hk, ac1] at ho
  rw [aq]
  refine ⟨hf, ?_⟩
  rw [af]
  refine ⟨fun e => ho.2 (by rw [show jm (nth rs i.toNat) = false by simpa using (show (!jm (nth rs i.toNat)) = true from e)]; rfl), fun e => ?_⟩
  rw [show jm (nth rs i.toNat) = true by simpa using (show (!jm (nth rs i.toNat)) = false from e), ac0] at ho
  rw [aU (n := i + 1) (by omega) (by omega)]
  refine ⟨_, ?_, ⟨ds, rs, i + 1⟩, rfl, ⟨by simpa [aI] using h1, by simp only; omega, by simp only; omega, h4⟩, rfl, ?_⟩
  ·simp only; omega
  ·simp only [E1, Out.run, af, show (i + 1).toNat = i.toNat + 1 by omega]
   exact ho
 ·simp only at hi
  rw [aa8 (by omega)] at ho
  exact ho.1 rfl
noncomputable def PF (κ : Kp) : Env := (J6 κ).aj 62 10 (aK 0 Nn G3 E1)
theorem eS2 (κ : Kp) : aw (PF κ) := (X1 κ).aj (Uc κ) (Xn κ)
theorem TX (κ : Kp) : ai (PF κ) := (Uc κ).aj aE
theorem yRr (κ : Kp) (ds rs : List AV) (K : AV → List Dn.Obj → Prop) : (a9 (PF κ) 12 62 [JK ds rs] [] K) = (
 letI z1 := K (AV.bool false) []
 letI z2 := Pg.toProgram (Env.P (y1 κ))
 letI z3 := Pg.toProgram (Env.P (J6 κ))
 ax (decide ((↑(ds.length) : Int) > (60 : Int))) z1 (ax (decide ((↑(rs.length) : Int) > (200 : Int))) z1 (ag z2 62 4 = ag z2 62 4 ∧ ∃ (a : lU), sp 47 [(1, AV.ptr
 0 0 [] 0), (3, AV.int 0)] [Obj.box 25 (AV.agg [AV.ae 62 ds, AV.ae 41 rs])] = sp 47 [(1, AV.ptr 0 0 [] 0), (3, AV.int a.i)] [Obj.box 25 (AV.agg [AV.ae 62 a.ds,
 AV.ae 41 a.rs])] ∧ (a.ds.length ≤ 9223372036854775807 ∧ (0 : Int) ≤ a.i ∧ a.i ≤ (↑(a.ds.length) : Int)) ∧ ax (List.all (List.drop a.i.toNat a.ds) sG) (ag z3 62
 10 = ag z3 62 10 ∧ ∃ (a_1 : lU), sp 47 [(1, AV.ptr 0 0 [] 0), (5, AV.int 0)] [Obj.box 25 (AV.agg [AV.ae 62 a.ds, AV.ae 41 a.rs])] = sp 47 [(1, AV.ptr 0 0 [] 0),
 (5, AV.int a_1.i)] [Obj.box 25 (AV.agg [AV.ae 62 a_1.ds, AV.ae 41 a_1.rs])] ∧ (a_1.rs.length ≤ 9223372036854775807 ∧ (0 : Int) ≤ a_1.i ∧ a_1.i ≤
 (↑(a_1.rs.length) : Int) ∧ List.all a_1.rs jX = true) ∧ ax (List.all (List.drop a_1.i.toNat a_1.rs) jm) (K (AV.bool true) []) z1) z1))) := by kernel_rfl
def SP : List AV → Option (Bool × AV)
 | [.agg [.ae 62 ds, .ae 41 rs]] => some (rs.all jX, .bool (dS ds rs))
 | _ => none
theorem X4 (κ : Kp) : bM (PF κ) 12 62 SP := by
 intro args x hh
 unfold SP at hh
 split at hh
 ·rename_i ds rs
  simp only [aa3, aa9] at hh
  obtain ⟨h1, rfl⟩ := hh
  refine ⟨_, rfl, rfl, ?_⟩
  refine Eq.mpr (yRr κ ds rs _) ?_
  unfold dS
  rw [af, aa0, aa2]
  refine ⟨fun e => cO (by rw [aa4 (show ¬ ds.length ≤ 60 by omega)]; rfl), fun e => ?_⟩
  rw [af, aa0, aa2]
  refine ⟨fun e2 => cO (by rw [aa4 (show ¬ rs.length ≤ 200 by omega)]; simp), fun e2 => ?_⟩
  rw [aa6 (show ds.length ≤ 60 by omega), aa6 (show rs.length ≤ 200 by omega)]
  refine ⟨rfl, ⟨ds, rs, 0⟩, rfl, ⟨by simp only [aI]; omega, by simp only; omega, by simp only; omega⟩, ?_⟩
  simp only [ab8, ab0, ac0]
  rw [af]
  refine ⟨fun e3 => ⟨trivial, ⟨ds, rs, 0⟩, rfl, ⟨by simp only [aI]; omega, by simp only; omega, by simp only; omega, h1⟩, ?_⟩, fun e3 => cO (by rw [e3]; rfl)⟩
  simp only [ab8, ab0]
  rw [af, e3]
  exact ⟨fun e4 => cO (by rw [e4]; rfl), fun e4 => cO (by rw [e4]; rfl)⟩
 ·cases hh
noncomputable def KG (κ : Kp) : Env := (PF κ).au 62 SP
theorem X3 (κ : Kp) : aw (KG κ) := (eS2 κ).au (TX κ) (X4 κ)
theorem TR (κ : Kp) : ai (KG κ) := (TX κ).au
abbrev MB (a : List AV × ByteArray × Int) : S := sp 21 [(0, .ae 62 a.1), (1, .lit (.string a.2.1)), (6, .int a.2.2)] []
theorem XC (κ : Kp) (a : List AV × ByteArray × Int) (I : Nat → S → Prop) (n : Nat) (K : Exit → S → Prop) : (vc (KG κ) 12 63 none 0 (ag (Pr κ).toProgram 63 2) (MB a) (bC (KG κ) 63 2 0 I n K)) = (
 ax (decide (a.2.2 < (↑(a.1.length) : Int))) (aZ (decide ((0 : Int) ≤ a.2.2) && decide (a.2.2 < (↑(a.1.length) : Int))) (ax (ByteArray.toList (toStr (ad (nth
 a.1 (Int.toNat a.2.2)) 0)) == ByteArray.toList a.2.1) (K Exit.ret (sp 21 [(4, AV.int a.2.2), (5, AV.bool true)] [])) (∃ (m : Nat), m < n ∧ I m (sp 21 [(0,
 AV.ae 62 a.1), (1, AV.str a.2.1), (6, AV.int (IntKind.wrap IntKind.i64 (a.2.2 + (1 : Int))))] [])))) (K (Exit.exit 0) (sp 21 [] []))) := by kernel_rfl
def Eu (a : List AV × ByteArray × Int) : Out (Exit × S) := .ax (decide (0 ≤ iu a.2.1 (a.1.drop a.2.2.toNat) a.2.2)) (.one (.ret, sp 21 [(4, .int (iu a.2.1 (a.1.drop a.2.2.toNat) a.2.2)), (5, .bool true)] [])) (.one (.exit 0, sp 21 [] []))
theorem lFr (κ : Kp) : bg (KG κ) 12 63 2 (aK 0 MB yL Eu) := by
 refine aO (fun a => a.1.length - a.2.2.toNat) ?_
 rintro ⟨ds, s, i⟩ K ⟨h1, h2, h3⟩ ho
 simp only at h1 h2 h3
 rw [show (KG κ).P = Pr κ from rfl]
 refine Eq.mpr (XC κ (ds, s, i) _ _ K) ?_
 simp only [aI] at h1
 simp only [Eu, Out.run, af] at ho
 simp only [af, aq, aa0, aa2, aa1]
 refine ⟨fun hi => ⟨⟨h2, hi⟩, ?_⟩, fun hi => ?_⟩
 ·have hk : i.toNat < ds.length := by omega
  rw [ab1 hk, ← bx ds i.toNat hk, iu] at ho
  refine ⟨fun e => ?_, fun e => ?_⟩
  ·rw [show gC (toStr (ad (nth ds i.toNat) 0)) s = true from e, aa7] at ho
   exact ho.1 (aa6 h2)
  ·rw [show gC (toStr (ad (nth ds i.toNat) 0)) s = false from e, aa5] at ho
   rw [aU (n := i + 1) (by omega) (by omega)]
   refine ⟨_, ?_, (ds, s, i + 1), rfl, ⟨by simpa [aI] using h1, by simp only; omega, by simp only; omega⟩, rfl, ?_⟩
   ·simp only; omega
   ·simp only [Eu, Out.run, af, show (i + 1).toNat = i.toNat + 1 by omega]
    exact ho
 ·rw [aa8 (by omega)] at ho
  exact ho.2 rfl
noncomputable def Jx (κ : Kp) : Env := (KG κ).aj 63 2 (aK 0 MB yL Eu)
theorem Ru (κ : Kp) : aw (Jx κ) := (X3 κ).aj (TR κ) (lFr κ)
theorem QD (κ : Kp) : ai (Jx κ) := (TR κ).aj aE
theorem V5 (κ : Kp) (ds : List AV) (s : ByteArray) (K : AV → List Dn.Obj → Prop) : (a9 (Jx κ) 12 63 [.ae 62 ds, .lit (.string s)] [] K) = (
 letI z1 := Pg.toProgram (Env.P (KG κ))
 ag z1 63 2 = ag z1 63 2 ∧ ∃ (a : List AV × ByteArray × Int), sp 21 [(0, AV.ae 62 ds), (1, AV.str s), (6, AV.int 0)] [] = sp 21 [(0, AV.ae 62 a.1), (1, AV.str
 a.2.1), (6, AV.int a.2.2)] [] ∧ (a.1.length ≤ 9223372036854775807 ∧ (0 : Int) ≤ a.2.2 ∧ a.2.2 ≤ (↑(a.1.length) : Int)) ∧ ax (decide ((0 : Int) ≤ iu a.2.1
 (List.drop (Int.toNat a.2.2) a.1) a.2.2)) (K (AV.bR [AV.int (iu a.2.1 (List.drop (Int.toNat a.2.2) a.1) a.2.2), AV.bool true]) []) (K (AV.bR [AV.int 0, AV.bool
 false]) [])) := by kernel_rfl
theorem Xo (κ : Kp) : bJ (Jx κ) 12 63 (a8 Fg jc rD) := by
 refine bh ?_
 rintro ⟨ds, s⟩ K h1 ho
 refine Eq.mpr (V5 κ ds s K) ?_
 simp only [rD, Out.run, jw, v8] at ho
 refine ⟨rfl, (ds, s, 0), rfl, ⟨h1, by simp only; omega, by simp only; omega⟩, ?_⟩
 simp only [ab8, ab0]
 rw [af]
 refine ⟨fun e => ?_, fun e => ?_⟩
 ·rw [e, aa7] at ho
  exact ho
 ·rw [e, aa5] at ho
  exact ho
noncomputable def OS (κ : Kp) : Env := (Jx κ).ar 63 (a8 Fg jc rD)
theorem YX (κ : Kp) : aw (OS κ) := (Ru κ).ar (QD κ) (Xo κ)
theorem TM (κ : Kp) : ai (OS κ) := (QD κ).ar aJ
theorem yKn (κ : Kp) (ds : List AV) (rel : ByteArray) (l : List AV) (K : AV → List Dn.Obj → Prop) : (a9 (OS κ) 12 99 [.ae 62 ds, .agg [.lit (.string rel), .ae 52 l]] [] K) = (
 ∃ (a : List AV × ByteArray), ([AV.ae 62 ds, AV.str rel], az) = ([AV.ae 62 a.1, AV.str a.2], az) ∧ jc a ∧ ax (!v8 a.2 a.1) (K (AV.int 51) []) (aZ
 (decide ((0 : Int) ≤ jw a.2 a.1) && decide (jw a.2 a.1 < (↑(ds.length) : Int))) (ax ((↑(List.length (ah (ad (nth ds (Int.toNat (jw a.2 a.1))) 2))) :
 Int) != (↑(l.length) : Int)) (K (AV.int 52) []) (K (AV.int 0) [])))) := by kernel_rfl
def RV : List AV → Option (Bool × AV)
 | [.ae 62 ds, .agg [.lit (.string rel), .ae 52 l]] => some (decide (ds.length ≤ aI), .int (known (aQ ds) ⟨rel, aa l⟩))
 | _ => none
theorem Vx (κ : Kp) : bM (OS κ) 12 99 RV := by
 intro args x hh
 unfold RV at hh
 split at hh
 ·rename_i ds rel l
  simp only [aa3, aa9, aa0] at hh
  obtain ⟨h1, rfl⟩ := hh
  refine ⟨_, rfl, rfl, ?_⟩
  refine Eq.mpr (yKn κ ds rel l _) ?_
  rw [rG]
  refine ⟨(ds, rel), rfl, h1, ?_⟩
  cases hf : ie rel (aQ ds) with
  | none => simp only [(nR hf).1]; exact rfl
  | some k =>
   obtain ⟨e1, e2, e3⟩ := nd hf
   have hwl : (ah (ad (nth ds (Int.toNat (k : Int))) 2)).length = (fr ds k).length := by simp [fr]
   simp only [e1, e2, hwl, sD]
   refine aq.2 ⟨by simp; omega, ?_⟩
   cases hq : decide ((fr ds k).length = l.length) with
   | false =>
    rw [aa2] at hq
    rw [aa4 (show ¬ (((fr ds k).length : Int) = (l.length : Int)) by omega)]
    exact rfl
   | true =>
    rw [aa0] at hq
    rw [aa6 (show (((fr ds k).length : Int) = (l.length : Int)) by omega)]
    exact rfl
 ·cases hh
noncomputable def Qk (κ : Kp) : Env := (OS κ).au 99 RV
theorem V9 (κ : Kp) : aw (Qk κ) := (YX κ).au (TM κ) (Vx κ)
theorem UH (κ : Kp) : ai (Qk κ) := (TM κ).au
end Go.Proofs.YtdpmikfheebicaaGreatDoor
