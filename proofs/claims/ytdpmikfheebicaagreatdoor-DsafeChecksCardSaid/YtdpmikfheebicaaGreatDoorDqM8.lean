import Derived.Test.YtdpmikfheebicaaGreatDoorDqM1
import Derived.Test.YtdpmikfheebicaaGreatDoorDqM6
import Derived.Test.YtdpmikfheebicaaGreatDoorDqM7
namespace Go.Rl
open Go Go.Dn
structure Dc where
 rel : ByteArray
 types : List Int
def ie (s : ByteArray) : List Dc → Option Nat
 | [] => none
 | d :: l => bif gC d.rel s then some 0 else (ie s l).map (· + 1)
def aV (ds : List Dc) (s : ByteArray) : List Int := match ie s ds with | some i => (ds.getD i ⟨ByteArray.empty, []⟩).types | none => []
def known (ds : List Dc) (a : At) : Int := match ie a.rel ds with | none => 51 | some _ => bif decide ((aV ds a.rel).length = a.l.length) then 0 else 52
def dw (l : Lt) : Bool := decide (l.op < 3) || decide (6 < l.op)
def dt (ds : List Dc) : List Lt → Int
 | [] => 0
 | l :: b => bif dw l && !decide (known ds l.a = 0) then known ds l.a else dt ds b
def eH (ds : List Dc) (r : Rl) : Int := bif decide (known ds r.head = 0) then dt ds r.body else known ds r.head
section
variable {σ : Type} (get : σ → ByteArray → Int) (set : σ → ByteArray → Int → σ)
def a5 (t : Tm) (st : σ) : Int := bif decide (t.op = 1) then get st t.s else bif decide (t.op = 3) then 2 else bif decide (t.op = 4) then 0 else 1
mutual
def Tm.bU : Tm → Int → σ → Bool × σ
 | .mk op s _ l, w, st => bif decide (op = 1) then (bif decide (w = 0) || !decide (get st s = 0) then (false, st) else (true, set st s w)) else cg l st
def cg : List Tm → σ → Bool × σ
 | [], st => (false, st)
 | t :: l, st => ((Tm.bU t 1 st).1 || (cg l (Tm.bU t 1 st).2).1, (cg l (Tm.bU t 1 st).2).2)
end
mutual
def Tm.want : Tm → Int → σ × Bool → Bool × (σ × Bool)
 | .mk op s n l, k, x =>
  bif (dJ l x).1 then dJ l x
  else bif decide (k = 0) || decide (op = 4) then (false, (dJ l x).2)
  else bif decide (a5 get (.mk op s n l) (dJ l x).2.1 = 0) then (false, (set (dJ l x).2.1 s k, true))
  else (!decide (a5 get (.mk op s n l) (dJ l x).2.1 = k), (dJ l x).2)
def dJ : List Tm → σ × Bool → Bool × (σ × Bool)
 | [], x => (false, x)
 | t :: l, x => bif (Tm.want t 1 x).1 then Tm.want t 1 x else dJ l (Tm.want t 1 x).2
end
mutual
def Tm.fits : Tm → Int → σ → Bool
 | .mk op s _ l, w, st => bif decide (op = 1) then decide (get st s = w) else bif decide (op = 2) then decide (w = 1) else bif decide (op = 3) then decide (w = 2) else bif decide (op = 4) then true else decide (w = 1) && ji l st
def ji : List Tm → σ → Bool
 | [], _ => true
 | t :: l, st => Tm.fits t 1 st && ji l st
end
def bs : List Int → List Tm → σ → Bool × σ
 | w :: ws, t :: l, st => ((t.bU get set w st).1 || (bs ws l (t.bU get set w st).2).1, (bs ws l (t.bU get set w st).2).2)
 | _, _, st => (false, st)
def c0 : List Int → List Tm → σ × Bool → Bool × (σ × Bool)
 | w :: ws, t :: l, x => bif (t.want get set w x).1 then t.want get set w x else c0 ws l (t.want get set w x).2
 | _, _, x => (false, x)
def dH : List Int → List Tm → σ → Bool
 | w :: ws, t :: l, st => t.fits get w st && dH ws l st
 | _, _, _ => true
def cX (op : Int) : Bool := decide (3 ≤ op) && decide (op ≤ 6)
def dd (l : Lt) (st : σ) : Int := bif decide (a5 get l.y st > a5 get l.x st) then a5 get l.y st else a5 get l.x st
def b6 (ds : List Dc) (l : Lt) (st : σ) : Bool × σ :=
 bif cX l.op then
  ((l.x.bU get set (dd get l st) st).1 || (l.y.bU get set (dd get l st) (l.x.bU get set (dd get l st) st).2).1, (l.y.bU get set (dd get l st) (l.x.bU get set (dd get l st) st).2).2)
 else bif decide (l.op = 1) || decide (l.op = 2) then bs get set (aV ds l.a.rel) l.a.l st
 else ((bs get set (aV ds l.a.rel) l.a.l st).1 || (l.x.bU get set 1 (bs get set (aV ds l.a.rel) l.a.l st).2).1 || (l.y.bU get set 1 (l.x.bU get set 1 (bs get set (aV ds l.a.rel) l.a.l st).2).2).1,
  (l.y.bU get set 1 (l.x.bU get set 1 (bs get set (aV ds l.a.rel) l.a.l st).2).2).2)
def cK (ds : List Dc) : List Lt → σ → Bool × σ
 | [], st => (false, st)
 | l :: b, st => ((b6 get set ds l st).1 || (cK ds b (b6 get set ds l st).2).1, (cK ds b (b6 get set ds l st).2).2)
def bV (ds : List Dc) (r : Rl) (st : σ) : Bool × σ :=
 ((bs get set (aV ds r.head.rel) r.head.l st).1 || (cK get set ds r.body (bs get set (aV ds r.head.rel) r.head.l st).2).1, (cK get set ds r.body (bs get set (aV ds r.head.rel) r.head.l st).2).2)
def eF (ds : List Dc) (l : Lt) (st : σ) : Bool :=
 bif cX l.op then (l.x.fits get 1 st && l.y.fits get 1 st) || (l.x.fits get 2 st && l.y.fits get 2 st)
 else bif decide (l.op = 1) || decide (l.op = 2) then dH get (aV ds l.a.rel) l.a.l st
 else dH get (aV ds l.a.rel) l.a.l st && l.x.fits get 1 st && (decide (l.op = 7) || l.y.fits get 1 st)
def iG (ds : List Dc) (r : Rl) (st : σ) : Bool := dH get (aV ds r.head.rel) r.head.l st && r.body.all fun l => eF get ds l st
def b8 (ds : List Dc) (a : At) (x : σ × Bool) : Int × (σ × Bool) :=
 bif decide (known ds a = 0) then (bif (c0 get set (aV ds a.rel) a.l x).1 then 53 else 0, (c0 get set (aV ds a.rel) a.l x).2) else (known ds a, x)
def iF (y : Bool × (σ × Bool)) (f : σ × Bool → Bool × (σ × Bool)) : Int × (σ × Bool) := bif y.1 then (53, y.2) else (bif (f y.2).1 then 53 else 0, (f y.2).2)
def ia (ds : List Dc) (l : Lt) (x : σ × Bool) : Int × (σ × Bool) :=
 bif cX l.op then iF (l.x.want get set (dd get l x.1) x) (l.y.want get set (dd get l x.1))
 else bif decide (l.op = 1) || decide (l.op = 2) then b8 get set ds l.a x
 else bif !decide ((b8 get set ds l.a x).1 = 0) then b8 get set ds l.a x
 else bif decide (l.op = 7) then (bif (l.x.want get set 1 (b8 get set ds l.a x).2).1 then 53 else 0, (l.x.want get set 1 (b8 get set ds l.a x).2).2)
 else iF (l.x.want get set 1 (b8 get set ds l.a x).2) (l.y.want get set 1)
def o6 (e : Int) : Bool := decide (e = 51) || decide (e = 52)
def fU (w e : Int) : Int := bif decide (w = 0) || decide (w = 53) && o6 e then e else w
def gh (ds : List Dc) : List Lt → Int × (σ × Bool) → Int × (σ × Bool)
 | [], y => y
 | l :: b, y => bif o6 (fU y.1 (ia get set ds l y.2).1) then (fU y.1 (ia get set ds l y.2).1, (ia get set ds l y.2).2)
  else gh ds b (fU y.1 (ia get set ds l y.2).1, (ia get set ds l y.2).2)
def dE (ds : List Dc) (r : Rl) (st : σ) : Int × (σ × Bool) := gh get set ds r.body (b8 get set ds r.head (st, false))
def dL (ds : List Dc) (r : Rl) : Nat → σ → Int × σ
 | 0, st => (0, st)
 | n + 1, st => bif decide ((dE get set ds r st).1 = 0) then (bif (dE get set ds r st).2.2 then dL ds r n (dE get set ds r st).2.1 else (0, (dE get set ds r st).2.1)) else ((dE get set ds r st).1, (dE get set ds r st).2.1)
def ck (ds : List Dc) (r : Rl) : Nat → σ → σ
 | 0, st => st
 | n + 1, st => bif (bV get set ds r st).1 then ck ds r n (bV get set ds r st).2 else (bV get set ds r st).2
def Ext (st st' : σ) : Prop := ∀ s, get st s ≠ 0 → get st' s = get st s
theorem Ext.refl (st : σ) : Ext get st st := fun _ _ => rfl
variable {get set}
theorem Ext.trans {a b c : σ} (h1 : Ext get a b) (h2 : Ext get b c) : Ext get a c := fun s h => by rw [h2 s (by rw [h1 s h]; exact h), h1 s h]
variable (hgs : ∀ st s k t, get (set st s k) t = bif t == s then k else get st t)
include hgs
mutual
theorem Tm.cV : ∀ (t : Tm) (w : Int) (st : σ), Ext get st (t.bU get set w st).2
 | .mk op s n l, w, st => by
  rw [Tm.bU]
  cases decide (op = 1) with
  | false => exact lX l st
  | true =>
   rw [aa7]
   cases h : (decide (w = 0) || !decide (get st s = 0)) with
   | true => exact Ext.refl _ _
   | false =>
    intro t ht
    rw [aa5, hgs]
    cases e : t == s with
    | false => rfl
    | true =>
     rw [Bool.or_eq_false_iff, ab2, aa0] at h
     rw [eq_of_beq e] at ht
     exact absurd h.2 ht
theorem lX : ∀ (l : List Tm) (st : σ), Ext get st (cg get set l st).2
 | [], st => (fun _ => Ext.refl _ _) hgs
 | t :: l, st => by rw [cg]; exact (Tm.cV t 1 st).trans (lX l _)
end
theorem fE : ∀ (ws : List Int) (l : List Tm) (st : σ), Ext get st (bs get set ws l st).2
 | w :: ws, t :: l, st => by rw [bs]; exact (Tm.cV hgs t w st).trans (fE ws l _)
 | [], _, st => by rw [bs]; exact Ext.refl _ _; intro _ _ _ _ h; cases h
 | _ :: _, [], st => by rw [bs]; exact Ext.refl _ _; intro _ _ _ _ _ h; cases h
theorem sb (ds : List Dc) (l : Lt) (st : σ) : Ext get st (b6 get set ds l st).2 := by
 unfold b6
 cases cX l.op with
 | true => exact (Tm.cV hgs l.x _ st).trans (Tm.cV hgs l.y _ _)
 | false =>
  rw [aa5]
  cases (decide (l.op = 1) || decide (l.op = 2)) with
  | true => exact fE hgs _ _ st
  | false => exact ((fE hgs _ _ st).trans (Tm.cV hgs l.x 1 _)).trans (Tm.cV hgs l.y 1 _)
theorem iR (ds : List Dc) : ∀ (b : List Lt) (st : σ), Ext get st (cK get set ds b st).2
 | [], st => Ext.refl _ _
 | l :: b, st => by rw [cK]; exact (sb hgs ds l st).trans (iR ds b _)
theorem kg (ds : List Dc) (r : Rl) (st : σ) : Ext get st (bV get set ds r st).2 := (fE hgs _ _ st).trans (iR hgs ds _ _)
theorem sn (ds : List Dc) (r : Rl) : ∀ (n : Nat) (st : σ), Ext get st (ck get set ds r n st)
 | 0, st => Ext.refl _ _
 | n + 1, st => by
  rw [ck]
  cases (bV get set ds r st).1 with
  | true => exact (kg hgs ds r st).trans (sn ds r n _)
  | false => exact kg hgs ds r st
end
mutual
def Tm.wf : Tm → Bool
 | .mk op _ _ l => bif dV op then decide (l.length = 2) && sH l else decide (l.length = 0)
def sH : List Tm → Bool
 | [] => true
 | t :: l => t.wf && sH l
end
theorem um : ∀ (h : Nat) (t : Tm), ak h t = true → t.wf = true
 | 0, _, h => by simp [ak] at h
 | h + 1, .mk op s n l, e => by
  rw [hN] at e
  rw [Tm.wf]
  have go : ∀ l : List Tm, fc h l = true → sH l = true := by
   intro l
   induction l with
   | nil => intro _; rfl
   | cons t l ih =>
    intro e
    simp only [fc, ac1, aa1] at e
    rw [sH, um h t e.1.2, ih e.2]; rfl
  cases h0 : decide (op = 0) with
  | true => rw [h0, aa7] at e; cases e
  | false =>
   rw [h0, aa5] at e
   cases h2 : dV op with
   | true =>
    rw [h2, aa7] at e
    simp only [aa1] at e
    rw [aa7, e.1.2, go l e.2]; rfl
   | false =>
    rw [h2, aa5, aa1] at e
    exact e.2
theorem D8 {t : Tm} (h : BJ t = true) : t.wf = true ∧ t.op = 0 := by
 obtain ⟨op, s, n, l⟩ := t
 simp only [BJ, aa1, aa0] at h
 have h0 : op = 0 := h.1.1
 subst h0
 exact ⟨aa6 h.2, rfl⟩
theorem H6 {h : Nat} : ∀ {l : List Tm}, l.all (ak h) = true → sH l = true
 | [], _ => rfl
 | t :: l, e => by
  simp only [ac1, aa1] at e
  rw [sH, um h t e.1, H6 e.2]; rfl
theorem pR {a : At} (h : aW a = true) : sH a.l = true := by
 simp only [aW, aa1] at h
 exact H6 h.2
structure sF (l : Lt) : Prop where
 x : l.x.wf = true
 y : l.y.wf = true
 a : sH l.a.l = true
 cmp : cX l.op = true → l.x.op ≠ 4 ∧ l.y.op ≠ 4
 one : l.op = 7 → l.y.op = 0
theorem Ho {l : Lt} (h : dI l = true) : sF l := by
 unfold dI at h
 have nA : FO l.a = true → sH l.a.l = true := fun h => by
  simp only [FO, aa1, aa0] at h
  rw [List.eq_nil_of_length_eq_zero h.2]; rfl
 have v1 : ∀ {t : Tm}, ak 20 t = true → t.wf = true := fun h => um _ _ h
 have hc : cX l.op = true → 3 ≤ l.op ∧ l.op ≤ 6 := fun h => by
  simpa [cX] using h
 cases h1 : decide (l.op = 1) || decide (l.op = 2) with
 | true =>
  rw [h1, aa7] at h; simp only [aa1] at h
  simp only [ab6, aa0] at h1
  exact ⟨(D8 h.2.1).1, (D8 h.2.2).1, pR h.1, fun e => by have := hc e; omega, fun e => by omega⟩
 | false =>
  rw [h1, aa5] at h
  cases h2 : decide (l.op = 3) || decide (l.op = 4) || decide (l.op = 5) || decide (l.op = 6) with
  | true =>
   rw [h2, aa7] at h; simp only [aa1, Bool.not_eq_true', aa2] at h
   simp only [ab6, aa0] at h2
   exact ⟨v1 h.1.2, v1 h.2, nA h.1.1.1.1, fun _ => ⟨h.1.1.1.2, h.1.1.2⟩, fun e => by omega⟩
  | false =>
   rw [h2, aa5] at h
   simp only [Bool.or_eq_false_iff, aa2] at h1 h2
   cases h3 : decide (l.op = 7) with
   | true =>
    rw [h3, aa7] at h; simp only [aa1] at h
    exact ⟨v1 h.2, (D8 h.1.2.2).1, pR h.1.1, fun e => by have := hc e; omega, fun _ => (D8 h.1.2.2).2⟩
   | false =>
    rw [h3, aa5] at h
    rw [aa2] at h3
    cases h4 : decide (l.op = 8) || decide (l.op = 9) || decide (l.op = 10) with
    | true =>
     rw [h4, aa7] at h; simp only [aa1] at h
     exact ⟨v1 h.1.2, v1 h.2, pR h.1.1.1, fun e => by have := hc e; omega, fun e => absurd e h3⟩
    | false => rw [h4, aa5] at h; cases h
section
variable {σ : Type} {get : σ → ByteArray → Int} {set : σ → ByteArray → Int → σ}
theorem Hj {op : Int} (h : op = 1) : dV op = false := by subst h; rfl
mutual
theorem Tm.fa : ∀ (t : Tm) (k : Int) (x : σ × Bool), t.wf = true → (t.want get set k x).1 = false → (t.want get set k x).2 = ((t.bU get set k x.1).2, x.2 || (t.bU get set k x.1).1)
 | .mk op s n l, k, x, hw, h => by
  rw [Tm.wf] at hw
  rw [Tm.want] at h ⊢
  rw [Tm.bU]
  cases he : (dJ get set l x).1 with
  | true => rw [he, aa7, he] at h; cases h
  | false =>
   rw [he, aa5] at h
   rw [aa5]
   cases h1 : decide (op = 1) with
   | true =>
    rw [aa0] at h1
    rw [Hj h1, aa5, aa0] at hw
    rw [List.eq_nil_of_length_eq_zero hw]
    rw [List.eq_nil_of_length_eq_zero hw] at h
    rw [dJ] at h ⊢
    subst h1
    simp only [a5, Tm.op, Tm.s, aa7, decide_true, show decide ((1 : Int) = 4) = false from rfl, Bool.or_false] at h ⊢
    cases hk : decide (k = 0) with
    | true => simp
    | false =>
     rw [hk] at h
     simp only [aa5, Bool.false_or] at h ⊢
     cases hg : decide (get x.1 s = 0) with
     | true => simp
     | false => simp
   | false =>
    rw [aa5]
    have ih : (dJ get set l x).2 = ((cg get set l x.1).2, x.2 || (cg get set l x.1).1) := by
     cases h2 : dV op with
     | true =>
      rw [h2, aa7, aa1] at hw
      exact zS l x hw.2 he
     | false =>
      rw [h2, aa5, aa0] at hw
      rw [List.eq_nil_of_length_eq_zero hw]
      simp [dJ, cg]
    cases hk : decide (k = 0) || decide (op = 4) with
    | true => exact ih
    | false =>
     rw [hk, aa5] at h
     rw [aa5]
     rw [Bool.or_eq_false_iff] at hk
     have hn : decide (a5 get (.mk op s n l) (dJ get set l x).2.1 = 0) = false := by
      unfold a5
      rw [show (Tm.mk op s n l).op = op from rfl, h1, aa5, hk.2]
      cases decide (op = 3) <;> rfl
     rw [hn, aa5]
     exact ih
theorem zS : ∀ (l : List Tm) (x : σ × Bool), sH l = true → (dJ get set l x).1 = false → (dJ get set l x).2 = ((cg get set l x.1).2, x.2 || (cg get set l x.1).1)
 | [], x, _, _ => by simp [dJ, cg]
 | t :: l, x, hw, h => by
  rw [sH, aa1] at hw
  rw [dJ] at h ⊢
  rw [cg]
  cases he : (t.want get set 1 x).1 with
  | true => rw [he, aa7, he] at h; cases h
  | false =>
   rw [he, aa5] at h
   rw [aa5]
   have e1 := Tm.fa t 1 x hw.1 he
   have e2 := zS l _ hw.2 h
   rw [e2, e1]
   simp only [Bool.or_assoc]
end
theorem kf : ∀ (ws : List Int) (l : List Tm) (x : σ × Bool), sH l = true → (c0 get set ws l x).1 = false → (c0 get set ws l x).2 = ((bs get set ws l x.1).2, x.2 || (bs get set ws l x.1).1)
 | [], l, x, _, _ => by simp [c0, bs]
 | w :: ws, [], x, _, _ => by simp [c0, bs]
 | w :: ws, t :: l, x, hw, h => by
  rw [sH, aa1] at hw
  rw [c0] at h ⊢
  rw [bs]
  cases he : (t.want get set w x).1 with
  | true => rw [he, aa7, he] at h; cases h
  | false =>
   rw [he, aa5] at h
   rw [aa5]
   have e1 := t.fa w x hw.1 he
   have e2 := kf ws l _ hw.2 h
   rw [e2, e1]
   simp only [Bool.or_assoc]
theorem qO {y : Bool × (σ × Bool)} {f : σ × Bool → Bool × (σ × Bool)} (h : (iF y f).1 = 0) : y.1 = false ∧ (f y.2).1 = false ∧ (iF y f).2 = (f y.2).2 := by
 unfold iF at h ⊢
 cases h1 : y.1 with
 | true => rw [h1] at h; cases h
 | false =>
  rw [h1, aa5] at h
  cases h2 : (f y.2).1 with
  | true => rw [h2] at h; cases h
  | false => exact ⟨rfl, rfl, rfl⟩
theorem q8 {y : Bool × (σ × Bool)} {f : σ × Bool → Bool × (σ × Bool)} : (iF y f).1 = 0 ∨ (iF y f).1 = 53 := by
 unfold iF
 cases y.1 with
 | true => exact .inr rfl
 | false =>
  rw [aa5]
  cases (f y.2).1
  ·exact .inl rfl
  ·exact .inr rfl
theorem CS {t : Tm} (hw : t.wf = true) (h : t.op = 0) (k : Int) (st : σ) : t.bU get set k st = (false, st) := by
 obtain ⟨op, s, n, l⟩ := t
 have h : op = 0 := h
 subst h
 have : l.length = 0 := by simpa [Tm.wf, dV] using hw
 rw [List.eq_nil_of_length_eq_zero this, Tm.bU, cg]
 rfl
theorem zm (ds : List Dc) {l : Lt} (hl : sF l) (hk : dw l = true → known ds l.a = 0) (x : σ × Bool) (h : (ia get set ds l x).1 = 0) : (ia get set ds l x).2 = ((b6 get set ds l x.1).2, x.2 || (b6 get set ds l x.1).1) := by
 unfold ia at h ⊢
 unfold b6
 cases hc : cX l.op with
 | true =>
  rw [hc, aa7] at h
  rw [aa7, aa7]
  obtain ⟨h1, h2, h3⟩ := qO h
  have e1 := l.x.fa _ x hl.x h1
  have e2 := l.y.fa _ _ hl.y h2
  rw [h3, e2, e1]
  simp only [Bool.or_assoc]
 | false =>
  rw [hc, aa5] at h
  rw [aa5, aa5]
  have hat : dw l = true := by
   simp only [cX, Bool.and_eq_false_iff, aa2] at hc
   simp only [dw, ab6, aa0]; omega
  have ha : b8 get set ds l.a x = (bif (c0 get set (aV ds l.a.rel) l.a.l x).1 then 53 else 0, (c0 get set (aV ds l.a.rel) l.a.l x).2) := by
   unfold b8; rw [hk hat]; rfl
  have ok : (b8 get set ds l.a x).1 = 0 → (b8 get set ds l.a x).2 = ((bs get set (aV ds l.a.rel) l.a.l x.1).2, x.2 || (bs get set (aV ds l.a.rel) l.a.l x.1).1) := fun e => by
   rw [ha] at e ⊢
   cases he : (c0 get set (aV ds l.a.rel) l.a.l x).1 with
   | true => rw [he] at e; cases e
   | false => exact kf _ _ _ hl.a he
  cases h12 : decide (l.op = 1) || decide (l.op = 2) with
  | true =>
   rw [h12, aa7] at h
   rw [aa7, aa7]
   exact ok h
  | false =>
   rw [h12, aa5] at h
   rw [aa5, aa5]
   cases he : decide ((b8 get set ds l.a x).1 = 0) with
   | false => rw [he, Bool.not_false, aa7] at h; rw [h] at he; cases he
   | true =>
    rw [he, Bool.not_true, aa5] at h
    rw [Bool.not_true, aa5]
    rw [aa0] at he
    have e0 := ok he
    cases h7 : decide (l.op = 7) with
    | true =>
     rw [h7, aa7] at h
     rw [aa7]
     have hx : (l.x.want get set 1 (b8 get set ds l.a x).2).1 = false := by
      cases e : (l.x.want get set 1 (b8 get set ds l.a x).2).1 with
      | true => rw [e] at h; cases h
      | false => rfl
     have e1 := l.x.fa 1 _ hl.x hx
     rw [aa0] at h7
     rw [e1, e0, CS hl.y (hl.one h7)]
     simp only [Bool.or_false, Bool.or_assoc]
    | false =>
     rw [h7, aa5] at h
     rw [aa5]
     obtain ⟨h1, h2, h3⟩ := qO h
     have e1 := l.x.fa _ _ hl.x h1
     have e2 := l.y.fa _ _ hl.y h2
     rw [h3, e2, e1, e0]
     simp only [Bool.or_assoc]
theorem lh (ds : List Dc) {l : Lt} (hk : dw l = true → known ds l.a = 0) (x : σ × Bool) : (ia get set ds l x).1 = 0 ∨ (ia get set ds l x).1 = 53 := by
 unfold ia
 cases hc : cX l.op with
 | true => rw [aa7]; exact q8
 | false =>
  have hat : dw l = true := by
   simp only [cX, Bool.and_eq_false_iff, aa2] at hc
   simp only [dw, ab6, aa0]; omega
  have ha : (b8 get set ds l.a x).1 = 0 ∨ (b8 get set ds l.a x).1 = 53 := by
   unfold b8; rw [hk hat]
   simp only [decide_true, aa7]
   cases (c0 get set (aV ds l.a.rel) l.a.l x).1
   ·exact .inl rfl
   ·exact .inr rfl
  rw [aa5]
  cases decide (l.op = 1) || decide (l.op = 2) with
  | true => exact ha
  | false =>
   rw [aa5]
   cases decide ((b8 get set ds l.a x).1 = 0) with
   | false => exact ha
   | true =>
    rw [Bool.not_true, aa5]
    cases decide (l.op = 7) with
    | true =>
     rw [aa7]
     cases (l.x.want get set 1 (b8 get set ds l.a x).2).1
     ·exact .inl rfl
     ·exact .inr rfl
    | false => rw [aa5]; exact q8
theorem Kc (ds : List Dc) {l : Lt} (hat : dw l = true) (hk : known ds l.a ≠ 0) (x : σ × Bool) : (ia get set ds l x).1 = known ds l.a := by
 have hc : cX l.op = false := by
  simp only [dw, ab6, aa0] at hat
  simp only [cX, Bool.and_eq_false_iff, aa2]; omega
 have ha : b8 get set ds l.a x = (known ds l.a, x) := by
  unfold b8; rw [aa4 hk]; rfl
 unfold ia
 rw [hc, aa5, ha]
 simp only [aa4 hk, Bool.not_false, aa7]
 cases decide (l.op = 1) || decide (l.op = 2) <;> rfl
theorem jY (ds : List Dc) : ∀ (b : List Lt) (x : σ × Bool), dt ds b = 0 → (gh get set ds b (53, x)).1 = 53
 | [], _, _ => rfl
 | l :: b, x, h => by
  rw [dt] at h
  have hk : dw l = true → known ds l.a = 0 := fun e => by
   rw [e, ac0] at h
   cases h0 : decide (known ds l.a = 0) with
   | true => simpa using h0
   | false => rw [h0] at h; simp at h h0; exact absurd h h0
  have hb : dt ds b = 0 := by
   cases e : dw l with
   | false => rw [e] at h; exact h
   | true => rw [e, aa6 (hk e)] at h; exact h
  rw [gh]
  have hn : fU 53 (ia get set ds l x).1 = 53 := by
   rcases lh (get := get) (set := set) ds hk x with e | e <;> rw [e] <;> rfl
  simp only [hn]
  exact jY ds b _ hb
theorem Am (ds : List Dc) : ∀ (b : List Lt) (x : σ × Bool), dt ds b = 0 → (∀ l, l ∈ b → sF l) → (gh get set ds b (0, x)).1 = 0 → (gh get set ds b (0, x)).2 = ((cK get set ds b x.1).2, x.2 || (cK get set ds b x.1).1)
 | [], x, _, _, _ => by simp [gh, cK]
 | l :: b, x, h, hw, he => by
  rw [dt] at h
  have hk : dw l = true → known ds l.a = 0 := fun e => by
   rw [e, ac0] at h
   cases h0 : decide (known ds l.a = 0) with
   | true => simpa using h0
   | false => rw [h0] at h; simp at h h0; exact absurd h h0
  have hb : dt ds b = 0 := by
   cases e : dw l with
   | false => rw [e] at h; exact h
   | true => rw [e, aa6 (hk e)] at h; exact h
  rw [gh] at he ⊢
  rw [cK]
  have hn : ∀ e : Int, fU 0 e = e := fun e => rfl
  simp only [hn] at he ⊢
  rcases lh (get := get) (set := set) ds hk x with e | e
  ·rw [e] at he ⊢
   have e1 := zm ds (hw l ab3) hk x e
   have e2 := Am ds b _ hb (fun m hm => hw m (List.mem_cons_of_mem _ hm)) he
   rw [show o6 0 = false from rfl, aa5, e2, e1]
   simp only [Bool.or_assoc]
  ·rw [e] at he
   rw [show o6 53 = false from rfl, aa5, jY ds b _ hb] at he
   cases he
theorem A6 (ds : List Dc) {r : Rl} (hh : sH r.head.l = true) (hw : ∀ l, l ∈ r.body → sF l) (hk : eH ds r = 0) (st : σ) (h : (dE get set ds r st).1 = 0) : (dE get set ds r st).2 = ((bV get set ds r st).2, (bV get set ds r st).1) := by
 unfold eH at hk
 have h0 : known ds r.head = 0 := by
  cases e : decide (known ds r.head = 0) with
  | true => simpa using e
  | false => rw [e, aa5] at hk; exact hk
 rw [h0] at hk
 have hb : dt ds r.body = 0 := hk
 unfold dE at h ⊢
 have ha : b8 get set ds r.head (st, false) = (bif (c0 get set (aV ds r.head.rel) r.head.l (st, false)).1 then 53 else 0, (c0 get set (aV ds r.head.rel) r.head.l (st, false)).2) := by
  unfold b8; rw [h0]; rfl
 rw [ha] at h ⊢
 cases he : (c0 get set (aV ds r.head.rel) r.head.l (st, false)).1 with
 | true => rw [he, aa7, jY ds _ _ hb] at h; cases h
 | false =>
  rw [he, aa5] at h
  rw [aa5, Am ds _ _ hb hw h, kf _ _ _ hh he]
  simp only [Bool.false_or]; rfl
end
section
variable {σ : Type} {get : σ → ByteArray → Int} {set : σ → ByteArray → Int → σ}
variable (hgs : ∀ st s k t, get (set st s k) t = bif t == s then k else get st t)
theorem oj {op : Int} (h : dV op = true) : decide (op = 1) = false ∧ decide (op = 2) = false ∧ decide (op = 3) = false ∧ decide (op = 4) = false := by
 simp only [dV, ab6, aa0] at h
 simp only [aa2]; omega
theorem zf {t : Tm} {w : Int} {st : σ} (h4 : t.op ≠ 4) (h : t.fits get w st = true) : a5 get t st = w := by
 obtain ⟨op, s, n, l⟩ := t
 have h4 : op ≠ 4 := h4
 rw [Tm.fits] at h
 unfold a5
 rw [show (Tm.mk op s n l).op = op from rfl, show (Tm.mk op s n l).s = s from rfl]
 cases h1 : decide (op = 1) with
 | true => rw [h1, aa7, aa0] at h; exact h
 | false =>
  rw [h1, aa5] at h
  rw [aa5]
  cases h2 : decide (op = 2) with
  | true =>
   rw [h2, aa7, aa0] at h
   rw [aa0] at h2; subst h2; exact h.symm
  | false =>
   rw [h2, aa5] at h
   cases h3 : decide (op = 3) with
   | true => rw [h3, aa7, aa0] at h; exact h.symm
   | false =>
    rw [h3, aa5, aa4 h4, aa5, aa1, aa0] at h
    rw [aa5, aa4 h4]; exact h.1.symm
theorem B9 {t : Tm} {st st' : σ} (h : Ext get st st') (h0 : a5 get t st ≠ 0) : a5 get t st' = a5 get t st := by
 unfold a5 at h0 ⊢
 cases h1 : decide (t.op = 1) with
 | true => rw [h1, aa7] at h0; exact h _ h0
 | false => rfl
theorem vF {op : Int} {s : ByteArray} {n : Int} {l : List Tm} {w : Int} {st : σ} (h : (Tm.mk op s n l).fits get w st = true) (hw : (Tm.mk op s n l).wf = true) : ji get l st = true := by
 rw [Tm.wf] at hw
 cases h2 : dV op with
 | false =>
  rw [h2, aa5, aa0] at hw
  rw [List.eq_nil_of_length_eq_zero hw]; rfl
 | true =>
  obtain ⟨e1, e2, e3, e4⟩ := oj h2
  rw [Tm.fits, e1, e2, e3, e4] at h
  simp only [aa5, aa1] at h
  exact h.2
include hgs
mutual
theorem Tm.k9 : ∀ (t : Tm) (k : Int) (x : σ × Bool), t.wf = true → (t.want get set k x).1 = true → ∀ τ, Ext get (t.bU get set k x.1).2 τ → t.fits get k τ = false
 | .mk op s n l, k, x, hw, h, τ, hx => by
  have _ := hgs
  cases hf : (Tm.mk op s n l).fits get k τ with
  | false => rfl
  | true =>
   exfalso
   have hp := vF hf hw
   have hw' := hw
   rw [Tm.wf] at hw
   rw [Tm.want] at h
   cases he : (dJ get set l x).1 with
   | true =>
    cases h2 : dV op with
    | false =>
     rw [h2, aa5, aa0] at hw
     rw [List.eq_nil_of_length_eq_zero hw, dJ] at he
     cases he
    | true =>
     rw [h2, aa7, aa1] at hw
     rw [Tm.bU, (oj h2).1, aa5] at hx
     rw [ry l x hw.2 he τ hx] at hp; cases hp
   | false =>
    rw [he, aa5] at h
    cases hk : decide (k = 0) || decide (op = 4) with
    | true => rw [hk, aa7] at h; cases h
    | false =>
     rw [hk, aa5] at h
     simp only [Bool.or_eq_false_iff, aa2] at hk
     cases h0 : decide (a5 get (.mk op s n l) (dJ get set l x).2.1 = 0) with
     | true => rw [h0, aa7] at h; cases h
     | false =>
      rw [h0, aa5, Bool.not_eq_true', aa2] at h
      rw [aa2] at h0
      have hty := zf (t := .mk op s n l) hk.2 hf
      have hext : Ext get (dJ get set l x).2.1 τ ∨ op ≠ 1 := by
       cases h1 : decide (op = 1) with
       | false => right; simpa using h1
       | true =>
        left
        rw [aa0] at h1
        rw [Hj h1, aa5, aa0] at hw
        have hl := List.eq_nil_of_length_eq_zero hw
        subst hl; subst h1
        rw [dJ] at h0 ⊢
        rw [Tm.bU] at hx
        have hg : get x.1 s ≠ 0 := h0
        rw [aa4 hg] at hx
        simpa using hx
      rcases hext with e | e
      ·rw [B9 e h0] at hty; exact h hty
      ·apply h
       rw [← hty]
       unfold a5
       rw [show (Tm.mk op s n l).op = op from rfl, aa4 e]; rfl
theorem ry : ∀ (l : List Tm) (x : σ × Bool), sH l = true → (dJ get set l x).1 = true → ∀ τ, Ext get (cg get set l x.1).2 τ → ji get l τ = false
 | [], x, _, h, _, _ => by rw [dJ] at h; cases h
 | t :: l, x, hw, h, τ, hx => by
  rw [sH, aa1] at hw
  rw [dJ] at h
  rw [cg] at hx
  rw [ji]
  cases he : (t.want get set 1 x).1 with
  | true =>
   rw [Tm.k9 t 1 x hw.1 he τ ((lX hgs l _).trans hx)]; rfl
  | false =>
   rw [he, aa5] at h
   have e1 := t.fa 1 x hw.1 he
   rw [ry l _ hw.2 h τ (by rw [e1]; exact hx), Bool.and_false]
end
theorem wY : ∀ (t : Tm) (x : σ × Bool), t.wf = true → (t.want get set 0 x).1 = true → ∀ τ, Ext get (t.bU get set 0 x.1).2 τ → ∀ w, t.fits get w τ = false
 | .mk op s n m, x, hw, e1, τ, hx, w => by
  cases hf : (Tm.mk op s n m).fits get w τ with
  | false => rfl
  | true =>
   exfalso
   have hpp := vF hf hw
   rw [Tm.want] at e1
   cases he : (dJ get set m x).1 with
   | false => rw [he, aa5] at e1; cases e1
   | true =>
    rw [Tm.wf] at hw
    cases h2 : dV op with
    | false =>
     rw [h2, aa5, aa0] at hw
     rw [List.eq_nil_of_length_eq_zero hw, dJ] at he
     cases he
    | true =>
     rw [h2, aa7, aa1] at hw
     rw [Tm.bU, (oj h2).1, aa5] at hx
     rw [ry hgs m x hw.2 he τ hx] at hpp; cases hpp
theorem rM : ∀ (ws : List Int) (l : List Tm) (x : σ × Bool), sH l = true → (c0 get set ws l x).1 = true → ∀ τ, Ext get (bs get set ws l x.1).2 τ → dH get ws l τ = false
 | [], l, x, _, h, _, _ => by simp [c0] at h
 | w :: ws, [], x, _, h, _, _ => by simp [c0] at h
 | w :: ws, t :: l, x, hw, h, τ, hx => by
  rw [sH, aa1] at hw
  rw [c0] at h
  rw [bs] at hx
  rw [dH]
  cases he : (t.want get set w x).1 with
  | true => rw [Tm.k9 hgs t w x hw.1 he τ ((fE hgs ws l _).trans hx)]; rfl
  | false =>
   rw [he, aa5] at h
   have e1 := t.fa w x hw.1 he
   rw [rM ws l _ hw.2 h τ (by rw [e1]; exact hx), Bool.and_false]
theorem Ls {l : Lt} (hl : sF l) (hc : cX l.op = true) (x : σ × Bool) (h : (iF (l.x.want get set (dd get l x.1) x) (l.y.want get set (dd get l x.1))).1 ≠ 0) (τ : σ)
  (hx : Ext get (l.y.bU get set (dd get l x.1) (l.x.bU get set (dd get l x.1) x.1).2).2 τ) (w : Int) : l.x.fits get w τ = true → l.y.fits get w τ = true → False := by
 intro f1 f2
 obtain ⟨h4x, h4y⟩ := hl.cmp hc
 have t1 := zf h4x f1
 have t2 := zf h4y f2
 have hx1 : Ext get (l.x.bU get set (dd get l x.1) x.1).2 τ := (Tm.cV hgs l.y _ _).trans hx
 have hx0 : Ext get x.1 τ := (Tm.cV hgs l.x _ _).trans hx1
 have hkind : a5 get l.x x.1 = dd get l x.1 ∨ a5 get l.y x.1 = dd get l x.1 := by
  unfold dd
  cases decide (a5 get l.y x.1 > a5 get l.x x.1)
  ·exact .inl rfl
  ·exact .inr rfl
 have fit_k : dd get l x.1 ≠ 0 → w = dd get l x.1 := fun hk => by
  rcases hkind with e | e
  ·rw [← t1, B9 hx0 (by rw [e]; exact hk), e]
  ·rw [← t2, B9 hx0 (by rw [e]; exact hk), e]
 unfold iF at h
 cases e1 : (l.x.want get set (dd get l x.1) x).1 with
 | true =>
  by_cases hk : dd get l x.1 = 0
  ·rw [hk] at e1 hx1
   rw [wY hgs l.x x hl.x e1 τ hx1 w] at f1; cases f1
  ·rw [fit_k hk, Tm.k9 hgs l.x _ x hl.x e1 τ hx1] at f1; cases f1
 | false =>
  rw [e1, aa5] at h
  have es := l.x.fa _ x hl.x e1
  cases e2 : (l.y.want get set (dd get l x.1) (l.x.want get set (dd get l x.1) x).2).1 with
  | false => rw [e2] at h; exact h rfl
  | true =>
   have hy : Ext get (l.y.bU get set (dd get l x.1) (l.x.want get set (dd get l x.1) x).2.1).2 τ := by rw [es]; exact hx
   by_cases hk : dd get l x.1 = 0
   ·rw [hk] at e2 hy
    rw [wY hgs l.y _ hl.y e2 τ hy w] at f2; cases f2
   ·rw [fit_k hk, Tm.k9 hgs l.y _ _ hl.y e2 τ hy] at f2; cases f2
theorem LF (ds : List Dc) {l : Lt} (hl : sF l) (hk : dw l = true → known ds l.a = 0) (x : σ × Bool) (h : (ia get set ds l x).1 ≠ 0) (τ : σ) (hx : Ext get (b6 get set ds l x.1).2 τ) : eF get ds l τ = false := by
 unfold ia at h
 unfold b6 at hx
 unfold eF
 cases hc : cX l.op with
 | true =>
  rw [hc, aa7] at h hx
  rw [aa7, Bool.or_eq_false_iff]
  have go := Ls hgs hl hc x h τ hx
  constructor
  ·cases f1 : l.x.fits get 1 τ with
   | false => rfl
   | true => cases f2 : l.y.fits get 1 τ with
    | false => rfl
    | true => exact (go 1 f1 f2).elim
  ·cases f1 : l.x.fits get 2 τ with
   | false => rfl
   | true => cases f2 : l.y.fits get 2 τ with
    | false => rfl
    | true => exact (go 2 f1 f2).elim
 | false =>
  rw [hc, aa5] at h hx
  rw [aa5]
  have hat : dw l = true := by
   simp only [cX, Bool.and_eq_false_iff, aa2] at hc
   simp only [dw, ab6, aa0]; omega
  have ha : b8 get set ds l.a x = (bif (c0 get set (aV ds l.a.rel) l.a.l x).1 then 53 else 0, (c0 get set (aV ds l.a.rel) l.a.l x).2) := by
   unfold b8; rw [hk hat]; rfl
  have aerr : (b8 get set ds l.a x).1 ≠ 0 → Ext get (bs get set (aV ds l.a.rel) l.a.l x.1).2 τ → dH get (aV ds l.a.rel) l.a.l τ = false := fun e hx => by
   rw [ha] at e
   cases he : (c0 get set (aV ds l.a.rel) l.a.l x).1 with
   | false => rw [he] at e; exact absurd rfl e
   | true => exact rM hgs _ _ _ hl.a he τ hx
  cases h12 : decide (l.op = 1) || decide (l.op = 2) with
  | true =>
   rw [h12, aa7] at h hx
   exact aerr h hx
  | false =>
   rw [h12, aa5] at h hx
   rw [aa5]
   have hxx : Ext get (l.x.bU get set 1 (bs get set (aV ds l.a.rel) l.a.l x.1).2).2 τ := (Tm.cV hgs l.y _ _).trans hx
   have hxa : Ext get (bs get set (aV ds l.a.rel) l.a.l x.1).2 τ := (Tm.cV hgs l.x _ _).trans hxx
   cases he : decide ((b8 get set ds l.a x).1 = 0) with
   | false =>
    rw [aa2] at he
    rw [aerr he hxa]; rfl
   | true =>
    rw [he, Bool.not_true, aa5] at h
    rw [aa0] at he
    have e0 : (b8 get set ds l.a x).2 = ((bs get set (aV ds l.a.rel) l.a.l x.1).2, x.2 || (bs get set (aV ds l.a.rel) l.a.l x.1).1) := by
     rw [ha] at he ⊢
     cases hq : (c0 get set (aV ds l.a.rel) l.a.l x).1 with
     | true => rw [hq] at he; cases he
     | false => exact kf _ _ _ hl.a hq
    have xerr : (l.x.want get set 1 (b8 get set ds l.a x).2).1 = true → l.x.fits get 1 τ = false := fun e => Tm.k9 hgs l.x 1 _ hl.x e τ (by rw [e0]; exact hxx)
    cases h7 : decide (l.op = 7) with
    | true =>
     rw [h7, aa7] at h
     cases e : (l.x.want get set 1 (b8 get set ds l.a x).2).1 with
     | false => rw [e] at h; exact absurd rfl h
     | true => rw [xerr e]; simp
    | false =>
     rw [h7, aa5] at h
     unfold iF at h
     cases e : (l.x.want get set 1 (b8 get set ds l.a x).2).1 with
     | true => rw [xerr e]; simp
     | false =>
      rw [e, aa5] at h
      have es := l.x.fa 1 _ hl.x e
      cases e2 : (l.y.want get set 1 (l.x.want get set 1 (b8 get set ds l.a x).2).2).1 with
      | false => rw [e2] at h; exact absurd rfl h
      | true =>
       rw [Tm.k9 hgs l.y 1 _ hl.y e2 τ (by rw [es, e0]; exact hx)]; simp
theorem Ap (ds : List Dc) : ∀ (b : List Lt) (x : σ × Bool), dt ds b = 0 → (∀ l, l ∈ b → sF l) → (gh get set ds b (0, x)).1 ≠ 0 → ∀ τ, Ext get (cK get set ds b x.1).2 τ → (b.all fun l => eF get ds l τ) = false
 | [], x, _, _, h, _, _ => absurd rfl h
 | l :: b, x, h, hw, he, τ, hx => by
  rw [dt] at h
  have hk : dw l = true → known ds l.a = 0 := fun e => by
   rw [e, ac0] at h
   cases h0 : decide (known ds l.a = 0) with
   | true => simpa using h0
   | false => rw [h0] at h; simp at h h0; exact absurd h h0
  have hb : dt ds b = 0 := by
   cases e : dw l with
   | false => rw [e] at h; exact h
   | true => rw [e, aa6 (hk e)] at h; exact h
  rw [gh] at he
  rw [cK] at hx
  have hn : ∀ e : Int, fU 0 e = e := fun e => rfl
  simp only [hn] at he
  rw [ac1]
  rcases lh (get := get) (set := set) ds hk x with e | e
  ·rw [e, show o6 0 = false from rfl, aa5] at he
   have e1 := zm ds (hw l ab3) hk x e
   rw [Ap ds b _ hb (fun m hm => hw m (List.mem_cons_of_mem _ hm)) he τ (by rw [e1]; exact hx), Bool.and_false]
  ·rw [LF hgs ds (hw l ab3) hk x (by rw [e]; decide) τ ((iR hgs ds b _).trans hx)]; rfl
theorem IX (ds : List Dc) {r : Rl} (hh : sH r.head.l = true) (hw : ∀ l, l ∈ r.body → sF l) (hk : eH ds r = 0) (st : σ) (h : (dE get set ds r st).1 ≠ 0) (τ : σ) (hx : Ext get (bV get set ds r st).2 τ) : (dE get set ds r st).1 = 53 ∧ iG get ds r τ = false := by
 unfold eH at hk
 have h0 : known ds r.head = 0 := by
  cases e : decide (known ds r.head = 0) with
  | true => simpa using e
  | false => rw [e, aa5] at hk; exact hk
 rw [h0] at hk
 have hb : dt ds r.body = 0 := hk
 unfold dE at h ⊢
 unfold bV at hx
 unfold iG
 have ha : b8 get set ds r.head (st, false) = (bif (c0 get set (aV ds r.head.rel) r.head.l (st, false)).1 then 53 else 0, (c0 get set (aV ds r.head.rel) r.head.l (st, false)).2) := by
  unfold b8; rw [h0]; rfl
 rw [ha] at h ⊢
 cases he : (c0 get set (aV ds r.head.rel) r.head.l (st, false)).1 with
 | true =>
  rw [aa7, jY ds _ _ hb, rM hgs _ _ _ hh he τ ((iR hgs ds _ _).trans hx)]
  exact ⟨rfl, rfl⟩
 | false =>
  rw [he, aa5] at h
  rw [aa5]
  have e1 := kf _ _ _ hh he
  rw [Ap hgs ds _ _ hb hw h τ (by rw [e1]; exact hx), Bool.and_false]
  refine ⟨?_, rfl⟩
  have go : ∀ (b : List Lt) (x : σ × Bool), dt ds b = 0 → (gh get set ds b (0, x)).1 = 0 ∨ (gh get set ds b (0, x)).1 = 53 := by
   intro b
   induction b with
   | nil => intro x _; exact .inl rfl
   | cons l b ih =>
    intro x h
    rw [dt] at h
    have hk : dw l = true → known ds l.a = 0 := fun e => by
     rw [e, ac0] at h
     cases h0 : decide (known ds l.a = 0) with
     | true => simpa using h0
     | false => rw [h0] at h; simp at h h0; exact absurd h h0
    have hb : dt ds b = 0 := by
     cases e : dw l with
     | false => rw [e] at h; exact h
     | true => rw [e, aa6 (hk e)] at h; exact h
    rw [gh]
    have hn : ∀ e : Int, fU 0 e = e := fun e => rfl
    simp only [hn]
    rcases lh (get := get) (set := set) ds hk x with e | e
    ·rw [e]; exact ih _ hb
    ·rw [e]; right; exact jY ds b _ hb
  rcases go r.body _ hb with e | e
  ·exact absurd e h
  ·exact e
end
section
variable {σ : Type} {get : σ → ByteArray → Int} {set : σ → ByteArray → Int → σ}
mutual
theorem Tm.gx : ∀ (t : Tm) (w : Int) (st : σ), (t.bU get set w st).1 = false → (t.bU get set w st).2 = st
 | .mk op s n l, w, st, h => by
  rw [Tm.bU] at h ⊢
  cases h1 : decide (op = 1) with
  | false => rw [h1, aa5] at h; exact wP l st h
  | true =>
   rw [h1, aa7] at h
   rw [aa7]
   cases hc : (decide (w = 0) || !decide (get st s = 0)) with
   | true => rfl
   | false => rw [hc, aa5] at h; cases h
theorem wP : ∀ (l : List Tm) (st : σ), (cg get set l st).1 = false → (cg get set l st).2 = st
 | [], _, _ => rfl
 | t :: l, st, h => by
  rw [cg] at h ⊢
  rw [Bool.or_eq_false_iff] at h
  have e1 := Tm.gx t 1 st h.1
  rw [e1] at h
  simp only [e1]
  exact wP l st h.2
end
theorem jP : ∀ (ws : List Int) (l : List Tm) (st : σ), (bs get set ws l st).1 = false → (bs get set ws l st).2 = st
 | [], l, st, _ => by simp [bs]
 | w :: ws, [], st, _ => by simp [bs]
 | w :: ws, t :: l, st, h => by
  rw [bs] at h ⊢
  rw [Bool.or_eq_false_iff] at h
  have e1 := Tm.gx t w st h.1
  rw [e1] at h
  simp only [e1]
  exact jP ws l st h.2
theorem tP (ds : List Dc) (l : Lt) (st : σ) (h : (b6 get set ds l st).1 = false) : (b6 get set ds l st).2 = st := by
 unfold b6 at h ⊢
 cases hc : cX l.op with
 | true =>
  rw [hc, aa7, Bool.or_eq_false_iff] at h
  have e1 := Tm.gx l.x _ st h.1
  rw [e1] at h
  rw [aa7]
  simp only [e1]
  exact Tm.gx l.y _ st h.2
 | false =>
  rw [hc, aa5] at h
  rw [aa5]
  cases h12 : decide (l.op = 1) || decide (l.op = 2) with
  | true => rw [h12, aa7] at h; exact jP _ _ _ h
  | false =>
   rw [h12, aa5, Bool.or_eq_false_iff, Bool.or_eq_false_iff] at h
   rw [aa5]
   have e0 := jP _ _ _ h.1.1
   rw [e0] at h
   have e1 := Tm.gx l.x _ st h.1.2
   rw [e1] at h
   simp only [e0, e1]
   exact Tm.gx l.y _ st h.2
theorem xd (ds : List Dc) : ∀ (b : List Lt) (st : σ), (cK get set ds b st).1 = false → (cK get set ds b st).2 = st ∧ ∀ l, l ∈ b → (b6 get set ds l st).1 = false
 | [], st, _ => ⟨rfl, fun _ h => nomatch h⟩
 | l :: b, st, h => by
  rw [cK] at h ⊢
  rw [Bool.or_eq_false_iff] at h
  have e1 := tP ds l st h.1
  rw [e1] at h
  simp only [e1]
  obtain ⟨h2, h3⟩ := xd ds b st h.2
  refine ⟨h2, fun m hm => ?_⟩
  rcases List.mem_cons.1 hm with rfl | hm
  ·exact h.1
  ·exact h3 m hm
mutual
theorem Tm.fix : ∀ (t : Tm) (k : Int) (x : σ × Bool), t.wf = true → (t.want get set k x).1 = false → (t.bU get set k x.1).1 = false → k ≠ 0 → t.fits get k x.1 = true
 | .mk op s n l, k, x, hw, h, hl, hk => by
  have hok := Tm.fa (.mk op s n l) k x hw h
  have hno := Tm.gx (get := get) (set := set) (.mk op s n l) k x.1 hl
  have hw' := hw
  rw [Tm.wf] at hw
  rw [Tm.want] at h
  rw [Tm.bU] at hl
  cases he : (dJ get set l x).1 with
  | true => rw [he, aa7, he] at h; cases h
  | false =>
   rw [he, aa5] at h
   rw [Tm.fits]
   cases h2 : dV op with
   | false =>
    rw [h2, aa5, aa0] at hw
    have hn := List.eq_nil_of_length_eq_zero hw
    subst hn
    rw [dJ] at h
    rw [aa4 hk, Bool.false_or] at h
    cases h1 : decide (op = 1) with
    | true =>
     rw [h1, aa7, aa4 hk, Bool.false_or] at hl
     rw [aa7]
     rw [aa0] at h1
     subst h1
     have hg : decide (get x.1 s = 0) = false := by
      cases e : decide (get x.1 s = 0) with
      | false => rfl
      | true => rw [e] at hl; simp at hl
     simp only [a5, Tm.op, Tm.s, show decide ((1 : Int) = 4) = false from rfl, decide_true, aa7, aa5, hg] at h
     simpa using h
    | false =>
     rw [aa5]
     cases h22 : decide (op = 2) with
     | true =>
      rw [aa0] at h22
      subst h22
      simp only [a5, Tm.op, show decide ((2 : Int) = 4) = false from rfl, show decide ((2 : Int) = 1) = false from rfl, show decide ((2 : Int) = 3) = false from rfl, show decide ((1 : Int) = 0) = false from rfl, aa5] at h
      rw [aa7, aa0]
      have : (1 : Int) = k := by simpa using h
      exact this.symm
     | false =>
      rw [aa5]
      cases h3 : decide (op = 3) with
      | true =>
       rw [aa0] at h3
       subst h3
       simp only [a5, Tm.op, show decide ((3 : Int) = 4) = false from rfl, show decide ((3 : Int) = 1) = false from rfl, decide_true, aa7, show decide ((2 : Int) = 0) = false from rfl, aa5] at h
       rw [aa7, aa0]
       have : (2 : Int) = k := by simpa using h
       exact this.symm
      | false =>
       rw [aa5]
       cases h4 : decide (op = 4) with
       | true => rfl
       | false =>
        rw [h4, aa5] at h
        have ht : a5 get (.mk op s n []) x.1 = 1 := by
         unfold a5; rw [show (Tm.mk op s n []).op = op from rfl, h1, h3, h4]; rfl
        rw [ht, show decide ((1 : Int) = 0) = false from rfl, aa5] at h
        have : (1 : Int) = k := by simpa using h
        subst this
        rfl
   | true =>
    rw [h2, aa7, aa1] at hw
    obtain ⟨e1, e2, e3, e4⟩ := oj h2
    rw [e1, e2, e3, e4]
    rw [e1, aa5] at hl
    rw [aa4 hk, e4, Bool.or_false, aa5] at h
    have ht : a5 get (.mk op s n l) (dJ get set l x).2.1 = 1 := by
     unfold a5; rw [show (Tm.mk op s n l).op = op from rfl, e1, e3, e4]; rfl
    rw [ht, show decide ((1 : Int) = 0) = false from rfl, aa5] at h
    have : (1 : Int) = k := by simpa using h
    subst this
    simp only [aa5, decide_true, ac0]
    exact QG l x hw.2 he hl
theorem QG : ∀ (l : List Tm) (x : σ × Bool), sH l = true → (dJ get set l x).1 = false → (cg get set l x.1).1 = false → ji get l x.1 = true
 | [], _, _, _, _ => rfl
 | t :: l, x, hw, h, hl => by
  rw [sH, aa1] at hw
  rw [dJ] at h
  rw [cg, Bool.or_eq_false_iff] at hl
  rw [ji]
  cases he : (t.want get set 1 x).1 with
  | true => rw [he, aa7, he] at h; cases h
  | false =>
   rw [he, aa5] at h
   have e1 := t.fa 1 x hw.1 he
   have e2 := Tm.gx t 1 x.1 hl.1
   rw [e2] at hl e1
   rw [Tm.fix t 1 x hw.1 he hl.1 (by decide), ac0]
   have := QG l (t.want get set 1 x).2 hw.2 h (by rw [e1]; exact hl.2)
   rw [e1] at this
   exact this
end
theorem Lc : ∀ (ws : List Int) (l : List Tm) (x : σ × Bool), sH l = true → (∀ w, w ∈ ws → w ≠ 0) → (c0 get set ws l x).1 = false → (bs get set ws l x.1).1 = false → dH get ws l x.1 = true
 | [], _, _, _, _, _, _ => by simp [dH]
 | _ :: _, [], _, _, _, _, _ => by simp [dH]
 | w :: ws, t :: l, x, hw, hws, h, hl => by
  rw [sH, aa1] at hw
  rw [c0] at h
  rw [bs, Bool.or_eq_false_iff] at hl
  rw [dH]
  cases he : (t.want get set w x).1 with
  | true => rw [he, aa7, he] at h; cases h
  | false =>
   rw [he, aa5] at h
   have e1 := t.fa w x hw.1 he
   have e2 := Tm.gx t w x.1 hl.1
   rw [e2] at hl e1
   rw [Tm.fix t w x hw.1 he hl.1 (hws w ab3), ac0]
   have := Lc ws l (t.want get set w x).2 hw.2 (fun v hv => hws v (List.mem_cons_of_mem _ hv)) h (by rw [e1]; exact hl.2)
   rw [e1] at this
   exact this
def xi (get : σ → ByteArray → Int) (st : σ) : Prop := ∀ s, get st s = 0 ∨ get st s = 1 ∨ get st s = 2
def ze (ds : List Dc) : Prop := ∀ s w, w ∈ aV ds s → w = 1 ∨ w = 2
theorem BS {st : σ} (hv : xi get st) (t : Tm) : a5 get t st = 0 ∨ a5 get t st = 1 ∨ a5 get t st = 2 := by
 unfold a5
 cases decide (t.op = 1) with
 | true => exact hv _
 | false =>
  rw [aa5]
  cases decide (t.op = 3) with
  | true => exact .inr (.inr rfl)
  | false =>
   rw [aa5]
   cases decide (t.op = 4)
   ·exact .inr (.inl rfl)
   ·exact .inl rfl
theorem uj {st : σ} (hv : xi get st) (l : Lt) : dd get l st = 0 ∨ dd get l st = 1 ∨ dd get l st = 2 := by
 unfold dd
 cases decide (a5 get l.y st > a5 get l.x st)
 ·exact BS hv _
 ·exact BS hv _
theorem GQ (ds : List Dc) (hds : ze ds) {l : Lt} (hl : sF l) (hk : dw l = true → known ds l.a = 0) (x : σ × Bool) (hv : xi get x.1) (hz : l.x.op = 1 → get x.1 l.x.s ≠ 0) (h : (ia get set ds l x).1 = 0) (hn : (b6 get set ds l x.1).1 = false) : eF get ds l x.1 = true := by
 unfold ia at h
 unfold b6 at hn
 unfold eF
 cases hc : cX l.op with
 | true =>
  rw [hc, aa7] at h hn
  rw [aa7]
  obtain ⟨h1, h2, _⟩ := qO h
  rw [Bool.or_eq_false_iff] at hn
  have e1 := l.x.fa _ x hl.x h1
  have e2 := Tm.gx l.x _ x.1 hn.1
  rw [e2] at hn e1
  have hk0 : dd get l x.1 ≠ 0 := by
   have hx0 : a5 get l.x x.1 ≠ 0 := by
    unfold a5
    cases h1 : decide (l.x.op = 1) with
    | true => rw [aa7]; exact hz (by simpa using h1)
    | false =>
     rw [aa5]
     cases decide (l.x.op = 3) with
     | true => rw [aa7]; decide
     | false => rw [aa5, aa4 (hl.cmp hc).1, aa5]; decide
   have hvx := BS hv l.x
   unfold dd
   cases e : decide (a5 get l.y x.1 > a5 get l.x x.1) with
   | false => exact hx0
   | true => rw [aa0] at e; rw [aa7]; omega
  have f1 := Tm.fix l.x _ x hl.x h1 hn.1 hk0
  have f2 := Tm.fix l.y _ (l.x.want get set (dd get l x.1) x).2 hl.y h2 (by rw [e1]; exact hn.2) hk0
  rw [e1] at f2
  rcases uj hv l with e | e | e
  ·exact absurd e hk0
  ·rw [e] at f1 f2; rw [f1, f2]; rfl
  ·rw [e] at f1 f2; rw [f1, f2]; simp
 | false =>
  rw [hc, aa5] at h hn
  rw [aa5]
  have hat : dw l = true := by
   simp only [cX, Bool.and_eq_false_iff, aa2] at hc
   simp only [dw, ab6, aa0]; omega
  have ha : b8 get set ds l.a x = (bif (c0 get set (aV ds l.a.rel) l.a.l x).1 then 53 else 0, (c0 get set (aV ds l.a.rel) l.a.l x).2) := by
   unfold b8; rw [hk hat]; rfl
  have hws : ∀ w, w ∈ aV ds l.a.rel → w ≠ 0 := fun w hw => by rcases hds _ w hw with e | e <;> omega
  have aok : (b8 get set ds l.a x).1 = 0 → (c0 get set (aV ds l.a.rel) l.a.l x).1 = false := fun e => by
   rw [ha] at e
   cases he : (c0 get set (aV ds l.a.rel) l.a.l x).1 with
   | true => rw [he] at e; cases e
   | false => rfl
  cases h12 : decide (l.op = 1) || decide (l.op = 2) with
  | true =>
   rw [h12, aa7] at h hn
   rw [aa7]
   exact Lc _ _ x hl.a hws (aok h) hn
  | false =>
   rw [h12, aa5] at h hn
   rw [aa5]
   rw [Bool.or_eq_false_iff, Bool.or_eq_false_iff] at hn
   have e0 := jP _ _ _ hn.1.1
   rw [e0] at hn
   have e1 := Tm.gx l.x _ x.1 hn.1.2
   rw [e1] at hn
   cases he : decide ((b8 get set ds l.a x).1 = 0) with
   | false => rw [he, Bool.not_false, aa7] at h; rw [h] at he; cases he
   | true =>
    rw [he, Bool.not_true, aa5] at h
    rw [aa0] at he
    have hA := aok he
    have f0 := Lc _ _ x hl.a hws hA hn.1.1
    have s0 : (b8 get set ds l.a x).2.1 = x.1 := by
     rw [ha]
     show (c0 get set (aV ds l.a.rel) l.a.l x).2.1 = x.1
     rw [kf _ _ _ hl.a hA]; exact e0
    rw [f0, ac0]
    cases h7 : decide (l.op = 7) with
    | true =>
     rw [h7, aa7] at h
     have hx : (l.x.want get set 1 (b8 get set ds l.a x).2).1 = false := by
      cases e : (l.x.want get set 1 (b8 get set ds l.a x).2).1 with
      | true => rw [e] at h; cases h
      | false => rfl
     have f1 := Tm.fix l.x 1 (b8 get set ds l.a x).2 hl.x hx (by rw [s0]; exact hn.1.2) (by decide)
     rw [s0] at f1
     rw [f1]; rfl
    | false =>
     rw [h7, aa5] at h
     obtain ⟨hx, hy, _⟩ := qO h
     have f1 := Tm.fix l.x 1 (b8 get set ds l.a x).2 hl.x hx (by rw [s0]; exact hn.1.2) (by decide)
     rw [s0] at f1
     have s1 : (l.x.want get set 1 (b8 get set ds l.a x).2).2.1 = x.1 := by
      rw [l.x.fa 1 _ hl.x hx, s0]; exact e1
     have f2 := Tm.fix l.y 1 (l.x.want get set 1 (b8 get set ds l.a x).2).2 hl.y hy (by rw [s1]; exact hn.2) (by decide)
     rw [s1] at f2
     rw [f1, f2]; rfl
theorem wL (ds : List Dc) (hds : ze ds) : ∀ (b : List Lt) (x : σ × Bool), xi get x.1 → dt ds b = 0 → (∀ l, l ∈ b → sF l) → (∀ l, l ∈ b → l.x.op = 1 → get x.1 l.x.s ≠ 0) → (gh get set ds b (0, x)).1 = 0 → (cK get set ds b x.1).1 = false → (b.all fun l => eF get ds l x.1) = true
 | [], x, _, _, _, _, _, _ => rfl
 | l :: b, x, hv, h, hw, hz, he, hn => by
  rw [dt] at h
  have hk : dw l = true → known ds l.a = 0 := fun e => by
   rw [e, ac0] at h
   cases h0 : decide (known ds l.a = 0) with
   | true => simpa using h0
   | false => rw [h0] at h; simp at h h0; exact absurd h h0
  have hb : dt ds b = 0 := by
   cases e : dw l with
   | false => rw [e] at h; exact h
   | true => rw [e, aa6 (hk e)] at h; exact h
  rw [gh] at he
  rw [cK, Bool.or_eq_false_iff] at hn
  have hnx : ∀ e : Int, fU 0 e = e := fun e => rfl
  simp only [hnx] at he
  rw [ac1]
  rcases lh (get := get) (set := set) ds hk x with e | e
  ·rw [e, show o6 0 = false from rfl, aa5] at he
   have e1 := zm ds (hw l ab3) hk x e
   have e2 := tP ds l x.1 hn.1
   rw [e2] at hn e1
   rw [GQ ds hds (hw l ab3) hk x hv (hz l ab3) e hn.1, ac0]
   have := wL ds hds b (ia get set ds l x).2 (by rw [e1]; exact hv) hb (fun m hm => hw m (List.mem_cons_of_mem _ hm)) (fun m hm => by rw [e1]; exact hz m (List.mem_cons_of_mem _ hm)) he (by rw [e1]; exact hn.2)
   rw [e1] at this
   exact this
  ·rw [e] at he
   rw [show o6 53 = false from rfl, aa5, jY ds b _ hb] at he
   cases he
theorem FI (ds : List Dc) (hds : ze ds) {r : Rl} (hh : sH r.head.l = true) (hw : ∀ l, l ∈ r.body → sF l) (hk : eH ds r = 0) (st : σ) (hv : xi get st) (hz : ∀ l, l ∈ r.body → l.x.op = 1 → get st l.x.s ≠ 0) (h : (dE get set ds r st).1 = 0) (hn : (bV get set ds r st).1 = false) : iG get ds r st = true := by
 unfold eH at hk
 have h0 : known ds r.head = 0 := by
  cases e : decide (known ds r.head = 0) with
  | true => simpa using e
  | false => rw [e, aa5] at hk; exact hk
 rw [h0] at hk
 have hb : dt ds r.body = 0 := hk
 unfold dE at h
 unfold bV at hn
 unfold iG
 have ha : b8 get set ds r.head (st, false) = (bif (c0 get set (aV ds r.head.rel) r.head.l (st, false)).1 then 53 else 0, (c0 get set (aV ds r.head.rel) r.head.l (st, false)).2) := by
  unfold b8; rw [h0]; rfl
 rw [ha] at h
 rw [Bool.or_eq_false_iff] at hn
 have e2 := jP _ _ _ hn.1
 rw [e2] at hn
 have hws : ∀ w, w ∈ aV ds r.head.rel → w ≠ 0 := fun w hw => by rcases hds _ w hw with e | e <;> omega
 cases he : (c0 get set (aV ds r.head.rel) r.head.l (st, false)).1 with
 | true => rw [he, aa7, jY ds _ _ hb] at h; cases h
 | false =>
  rw [he, aa5] at h
  have e1 := kf _ _ _ hh he
  rw [e2] at e1
  rw [Lc _ _ (st, false) hh hws he hn.1, ac0]
  have := wL ds hds r.body (c0 get set (aV ds r.head.rel) r.head.l (st, false)).2 (by rw [e1]; exact hv) hb hw (fun m hm => by rw [e1]; exact hz m hm) h (by rw [e1]; exact hn.2)
  rw [e1] at this
  exact this
end
theorem mC {l : Lt} {s : ByteArray} (h : s ∈ l.x.vars) : s ∈ cx l := by simp [cx, an, h]
theorem oX {l : Lt} {s : ByteArray} (h : s ∈ l.y.vars) : s ∈ cx l := by simp [cx, an, h]
theorem rm {l : Lt} {s : ByteArray} (h : s ∈ an l.a.l) : s ∈ cx l := by simp [cx, h]
theorem Ao {t : Tm} (h : t.op = 1) : t.s ∈ t.vars := by
 obtain ⟨op, s, n, l⟩ := t
 have h : op = 1 := h
 rw [Tm.vars, h]
 simp [Tm.s]
section
variable {σ : Type} {get : σ → ByteArray → Int} {set : σ → ByteArray → Int → σ}
def xe (get : σ → ByteArray → Int) (V : ByteArray → Prop) (a b : σ) : Prop := ∃ s, V s ∧ get a s = 0 ∧ get b s ≠ 0
theorem xe.left {V W : ByteArray → Prop} {a b c : σ} (h : xe get V a b) (hx : Ext get b c) (hs : ∀ s, V s → W s) : xe get W a c := by
 obtain ⟨s, h1, h2, h3⟩ := h
 exact ⟨s, hs s h1, h2, by rw [hx s h3]; exact h3⟩
theorem xe.right {V W : ByteArray → Prop} {a b c : σ} (hx : Ext get a b) (h : xe get V b c) (hs : ∀ s, V s → W s) : xe get W a c := by
 obtain ⟨s, h1, h2, h3⟩ := h
 refine ⟨s, hs s h1, ?_, h3⟩
 cases e : decide (get a s = 0) with
 | true => simpa using e
 | false => rw [aa2] at e; rw [hx s e] at h2; exact absurd h2 e
variable (hgs : ∀ st s k t, get (set st s k) t = bif t == s then k else get st t)
include hgs
mutual
theorem Tm.jS : ∀ (t : Tm) (w : Int) (st : σ), (t.bU get set w st).1 = true → xe get (fun s => s ∈ t.vars) st (t.bU get set w st).2
 | .mk op s n l, w, st, h => by
  rw [Tm.bU] at h ⊢
  cases h1 : decide (op = 1) with
  | false =>
   rw [h1, aa5] at h
   rw [aa5]
   exact (uy l st h).left (Ext.refl _ _) fun s hs => by rw [Tm.vars]; exact ab4 _ hs
  | true =>
   rw [h1, aa7] at h
   rw [aa7]
   cases hc : (decide (w = 0) || !decide (get st s = 0)) with
   | true => rw [hc, aa7] at h; cases h
   | false =>
    rw [aa5]
    simp only [Bool.or_eq_false_iff, aa2, ab2, aa0] at hc
    refine ⟨s, by rw [Tm.vars, h1]; simp, hc.2, ?_⟩
    rw [hgs]
    simpa using hc.1
theorem uy : ∀ (l : List Tm) (st : σ), (cg get set l st).1 = true → xe get (fun s => s ∈ an l) st (cg get set l st).2
 | [], _, h => by rw [cg] at h; cases h
 | t :: l, st, h => by
  rw [cg] at h ⊢
  cases h1 : (t.bU get set 1 st).1 with
  | true => exact (Tm.jS t 1 st h1).left (lX hgs l _) fun s hs => by rw [an]; exact ab5 _ hs
  | false =>
   rw [h1, Bool.false_or] at h
   exact xe.right (Tm.cV hgs t 1 st) (uy l _ h) fun s hs => by rw [an]; exact ab4 _ hs
end
theorem mn : ∀ (ws : List Int) (l : List Tm) (st : σ), (bs get set ws l st).1 = true → xe get (fun s => s ∈ an l) st (bs get set ws l st).2
 | [], l, st, h => by simp [bs] at h
 | w :: ws, [], st, h => by simp [bs] at h
 | w :: ws, t :: l, st, h => by
  rw [bs] at h ⊢
  cases h1 : (t.bU get set w st).1 with
  | true => exact (Tm.jS hgs t w st h1).left (fE hgs ws l _) fun s hs => by rw [an]; exact ab5 _ hs
  | false =>
   rw [h1, Bool.false_or] at h
   exact xe.right (Tm.cV hgs t w st) (mn ws l _ h) fun s hs => by rw [an]; exact ab4 _ hs
theorem BE (ds : List Dc) (l : Lt) (st : σ) (h : (b6 get set ds l st).1 = true) : xe get (fun s => s ∈ cx l) st (b6 get set ds l st).2 := by
 unfold b6 at h ⊢
 cases hc : cX l.op with
 | true =>
  rw [hc, aa7] at h
  rw [aa7]
  cases h1 : (l.x.bU get set (dd get l st) st).1 with
  | true => exact (Tm.jS hgs _ _ _ h1).left (Tm.cV hgs l.y _ _) fun s => mC
  | false =>
   rw [h1, Bool.false_or] at h
   exact xe.right (Tm.cV hgs l.x _ st) (Tm.jS hgs _ _ _ h) fun s => oX
 | false =>
  rw [hc, aa5] at h
  rw [aa5]
  cases h12 : decide (l.op = 1) || decide (l.op = 2) with
  | true => rw [h12, aa7] at h; exact (mn hgs _ _ _ h).left (Ext.refl _ _) fun s => rm
  | false =>
   rw [h12, aa5] at h
   rw [aa5]
   cases h0 : (bs get set (aV ds l.a.rel) l.a.l st).1 with
   | true => exact (mn hgs _ _ _ h0).left ((Tm.cV hgs l.x _ _).trans (Tm.cV hgs l.y _ _)) fun s => rm
   | false =>
    rw [h0, Bool.false_or] at h
    cases h1 : (l.x.bU get set 1 (bs get set (aV ds l.a.rel) l.a.l st).2).1 with
    | true => exact xe.right (fE hgs _ _ st) ((Tm.jS hgs _ _ _ h1).left (W := fun s => s ∈ cx l) (Tm.cV hgs l.y _ _) fun s => mC) fun s hs => hs
    | false =>
     rw [h1, Bool.false_or] at h
     exact xe.right ((fE hgs _ _ st).trans (Tm.cV hgs l.x _ _)) (Tm.jS hgs _ _ _ h) fun s => oX
theorem uF (ds : List Dc) : ∀ (b : List Lt) (st : σ), (cK get set ds b st).1 = true → xe get (fun s => s ∈ b.flatMap cx) st (cK get set ds b st).2
 | [], _, h => by rw [cK] at h; cases h
 | l :: b, st, h => by
  rw [cK] at h ⊢
  cases h1 : (b6 get set ds l st).1 with
  | true => exact (BE hgs ds l st h1).left (iR hgs ds b _) fun s hs => by rw [List.flatMap_cons]; exact ab5 _ hs
  | false =>
   rw [h1, Bool.false_or] at h
   exact xe.right (sb hgs ds l st) (uF ds b _ h) fun s hs => by rw [List.flatMap_cons]; exact ab4 _ hs
theorem pn (ds : List Dc) (r : Rl) (st : σ) (h : (bV get set ds r st).1 = true) : xe get (fun s => s ∈ cQ r) st (bV get set ds r st).2 := by
 unfold bV at h ⊢
 cases h1 : (bs get set (aV ds r.head.rel) r.head.l st).1 with
 | true => exact (mn hgs _ _ _ h1).left (iR hgs ds _ _) fun s hs => by rw [cQ]; exact ab5 _ hs
 | false =>
  rw [h1, Bool.false_or] at h
  exact xe.right (fE hgs _ _ st) (uF hgs ds _ _ h) fun s hs => by rw [cQ]; exact ab4 _ hs
theorem J0 {st : σ} (hv : xi get st) {s : ByteArray} {w : Int} (hw : w = 0 ∨ w = 1 ∨ w = 2) : xi get (set st s w) := fun t => by
 rw [hgs]
 cases t == s
 ·exact hv t
 ·exact hw
mutual
theorem Tm.jQ : ∀ (t : Tm) (w : Int) (st : σ), xi get st → (w = 0 ∨ w = 1 ∨ w = 2) → xi get (t.bU get set w st).2
 | .mk op s n l, w, st, hv, hw => by
  rw [Tm.bU]
  cases decide (op = 1) with
  | false => exact uQ l st hv
  | true =>
   rw [aa7]
   cases (decide (w = 0) || !decide (get st s = 0)) with
   | true => exact hv
   | false => exact J0 hgs hv hw
theorem uQ : ∀ (l : List Tm) (st : σ), xi get st → xi get (cg get set l st).2
 | [], _, h => (fun _ => h) hgs
 | t :: l, st, h => by rw [cg]; exact uQ l _ (Tm.jQ t 1 st h (.inr (.inl rfl)))
end
theorem mi : ∀ (ws : List Int) (l : List Tm) (st : σ), (∀ w, w ∈ ws → w = 1 ∨ w = 2) → xi get st → xi get (bs get set ws l st).2
 | [], l, st, _, h => by simpa [bs] using h
 | w :: ws, [], st, _, h => by simpa [bs] using h
 | w :: ws, t :: l, st, hw, h => by
  rw [bs]
  exact mi ws l _ (fun v hv => hw v (List.mem_cons_of_mem _ hv)) (Tm.jQ hgs t w st h (.inr (hw w ab3)))
theorem Av (ds : List Dc) (hds : ze ds) (l : Lt) (st : σ) (h : xi get st) : xi get (b6 get set ds l st).2 := by
 unfold b6
 cases cX l.op with
 | true => exact Tm.jQ hgs _ _ _ (Tm.jQ hgs _ _ _ h (uj h l)) (uj h l)
 | false =>
  rw [aa5]
  cases decide (l.op = 1) || decide (l.op = 2) with
  | true => exact mi hgs _ _ _ (hds _) h
  | false => exact Tm.jQ hgs _ _ _ (Tm.jQ hgs _ _ _ (mi hgs _ _ _ (hds _) h) (.inr (.inl rfl))) (.inr (.inl rfl))
theorem uh (ds : List Dc) (hds : ze ds) : ∀ (b : List Lt) (st : σ), xi get st → xi get (cK get set ds b st).2
 | [], _, h => h
 | l :: b, st, h => by rw [cK]; exact uh ds hds b _ (Av hgs ds hds l st h)
theorem Df (ds : List Dc) (hds : ze ds) (r : Rl) (st : σ) (h : xi get st) : xi get (bV get set ds r st).2 := uh hgs ds hds _ _ (mi hgs _ _ _ (hds _) h)
omit hgs
def gD (get : σ → ByteArray → Int) (V : List ByteArray) (st : σ) : Nat := (V.filter fun s => decide (get st s = 0)).length
theorem vJ (get : σ → ByteArray → Int) (V : List ByteArray) (st : σ) : gD get V st ≤ V.length := List.length_filter_le _ _
theorem wh {a b : σ} (h : Ext get a b) : ∀ V : List ByteArray, gD get V b ≤ gD get V a
 | [] => Nat.le_refl _
 | s :: V => by
  have ih := wh h V
  unfold gD at ih ⊢
  rw [List.filter_cons, List.filter_cons]
  cases e : decide (get a s = 0) with
  | true =>
   split
   ·simp only [List.length_cons, if_true]; omega
   ·simp only [List.length_cons, if_true]; omega
  | false =>
   rw [aa2] at e
   rw [aa4 (show ¬ get b s = 0 by rw [h s e]; exact e)]
   simpa using ih
theorem n8 {a b : σ} (h : Ext get a b) : ∀ V : List ByteArray, xe get (fun s => s ∈ V) a b → gD get V b < gD get V a
 | [], ⟨_, h1, _⟩ => nomatch h1
 | s :: V, ⟨t, h1, h2, h3⟩ => by
  rcases List.mem_cons.1 h1 with rfl | h1
  ·have ih := wh h V
   unfold gD at ih ⊢
   rw [List.filter_cons, List.filter_cons, aa6 h2, aa4 h3]
   simp only [if_true, List.length_cons]
   simpa using Nat.lt_succ_of_le ih
  ·have ih := n8 h V ⟨t, h1, h2, h3⟩
   unfold gD at ih ⊢
   rw [List.filter_cons, List.filter_cons]
   cases e : decide (get a s = 0) with
   | true =>
    split
    ·simp only [List.length_cons, if_true]; omega
    ·simp only [List.length_cons, if_true]; omega
   | false =>
    rw [aa2] at e
    rw [aa4 (show ¬ get b s = 0 by rw [h s e]; exact e)]
    simpa using ih
theorem FZ (ds : List Dc) (r : Rl) (st : σ) (h : (bV get set ds r st).1 = false) : (bV get set ds r st).2 = st := by
 unfold bV at h ⊢
 rw [Bool.or_eq_false_iff] at h
 have e := jP _ _ _ h.1
 rw [e] at h
 simp only [e]
 exact (xd ds _ _ h.2).1
include hgs
theorem rY (ds : List Dc) (hds : ze ds) {r : Rl} (hr : aG r = true) (hk : eH ds r = 0) (V : List ByteArray) (hV : ∀ s, s ∈ cQ r → s ∈ V) : ∀ (n : Nat) (st : σ), gD get V st < n → xi get st →
  ((dL get set ds r n st).1 = 0 → (dL get set ds r n st).2 = ck get set ds r n st ∧ ((∀ s, s ∈ cQ r → get (ck get set ds r n st) s ≠ 0) → iG get ds r (ck get set ds r n st) = true)) ∧
  ((dL get set ds r n st).1 ≠ 0 → (dL get set ds r n st).1 = 53 ∧ iG get ds r (ck get set ds r n st) = false)
 | 0, _, h, _ => by omega
 | n + 1, st, hz, hv => by
  have hrr := hr
  simp only [aG, aa1, List.all_eq_true] at hrr
  have hh : sH r.head.l = true := pR hrr.1.1.1
  have hw : ∀ l, l ∈ r.body → sF l := fun l hl => Ho (hrr.2 l hl)
  have hext := kg hgs ds r st
  rw [dL, ck]
  cases h0 : decide ((dE get set ds r st).1 = 0) with
  | false =>
   rw [aa5]
   rw [aa2] at h0
   refine ⟨fun e => absurd e h0, fun _ => ?_⟩
   refine IX hgs ds hh hw hk st h0 _ ?_
   cases (bV get set ds r st).1 with
   | true => exact sn hgs ds r n _
   | false => exact Ext.refl _ _
  | true =>
   rw [aa0] at h0
   have e1 := A6 ds hh hw hk st h0
   rw [aa7, e1]
   cases h2 : (bV get set ds r st).1 with
   | true =>
    rw [aa7, aa7]
    have hnew := (pn hgs ds r st h2).left (Ext.refl _ _) hV
    have hlt := n8 hext V hnew
    exact rY ds hds hr hk V hV n _ (by simp only; omega) (Df hgs ds hds r st hv)
   | false =>
    rw [aa5, aa5]
    have e2 := FZ ds r st h2
    rw [e2]
    refine ⟨fun _ => ⟨rfl, fun hall => FI ds hds hh hw hk st hv (fun l hl e => hall _ ?_) h0 h2⟩, fun e => absurd rfl e⟩
    rw [cQ, List.mem_append]
    right
    refine List.mem_flatMap.2 ⟨l, hl, mC ?_⟩
    exact Ao e
end
section
variable {σ ρ : Type} {get : σ → ByteArray → Int} {set : σ → ByteArray → Int → σ} {get' : ρ → ByteArray → Int} {set' : ρ → ByteArray → Int → ρ} {V : ByteArray → Prop} {P : ρ → Prop}
def Alike (get : σ → ByteArray → Int) (get' : ρ → ByteArray → Int) (V : ByteArray → Prop) (P : ρ → Prop) (a : σ) (b : ρ) : Prop := P b ∧ ∀ s, V s → get a s = get' b s
variable (hg : ∀ st s k t, get (set st s k) t = bif t == s then k else get st t) (hg' : ∀ st s k t, P st → V s → V t → get' (set' st s k) t = bif t == s then k else get' st t) (hp : ∀ st s k, P st → V s → P (set' st s k))
theorem Alike.ty {a : σ} {b : ρ} (h : Alike get get' V P a b) {t : Tm} (hv : ∀ s, s ∈ t.vars → V s) : a5 get t a = a5 get' t b := by
 unfold a5
 cases h1 : decide (t.op = 1) with
 | false => rfl
 | true =>
  refine h.2 _ (hv _ ?_)
  obtain ⟨op, s, n, l⟩ := t
  rw [Tm.vars, show decide (op = 1) = true from h1]
  simp [Tm.s]
theorem Alike.kind {a : σ} {b : ρ} (h : Alike get get' V P a b) {l : Lt} (hv : ∀ s, s ∈ cx l → V s) : dd get l a = dd get' l b := by
 unfold dd
 rw [h.ty (t := l.x) fun s hs => hv s (mC hs), h.ty (t := l.y) fun s hs => hv s (oX hs)]
mutual
theorem Alike.fits {a : σ} {b : ρ} (h : Alike get get' V P a b) : ∀ (t : Tm) (w : Int), (∀ s, s ∈ t.vars → V s) → t.fits get w a = t.fits get' w b
 | .mk op s n l, w, hv => by
  rw [Tm.fits, Tm.fits]
  have hl := h.ji l fun s hs => hv s (by rw [Tm.vars]; exact ab4 _ hs)
  rw [hl]
  cases h1 : decide (op = 1) with
  | false => rfl
  | true => rw [aa7, aa7, h.2 s (hv s (by rw [Tm.vars, h1]; simp))]
theorem Alike.ji {a : σ} {b : ρ} (h : Alike get get' V P a b) : ∀ (l : List Tm), (∀ s, s ∈ an l → V s) → ji get l a = ji get' l b
 | [], _ => rfl
 | t :: l, hv => by
  rw [Rl.ji, Rl.ji, h.fits t 1 fun s hs => hv s (by rw [an]; exact ab5 _ hs), h.ji l fun s hs => hv s (by rw [an]; exact ab4 _ hs)]
end
theorem Alike.dH {a : σ} {b : ρ} (h : Alike get get' V P a b) : ∀ (ws : List Int) (l : List Tm), (∀ s, s ∈ an l → V s) → dH get ws l a = dH get' ws l b
 | [], _, _ => by simp [Rl.dH]
 | _ :: _, [], _ => by simp [Rl.dH]
 | w :: ws, t :: l, hv => by
  rw [Rl.dH, Rl.dH, h.fits t w fun s hs => hv s (by rw [an]; exact ab5 _ hs), h.dH ws l fun s hs => hv s (by rw [an]; exact ab4 _ hs)]
theorem Alike.eF {a : σ} {b : ρ} (h : Alike get get' V P a b) (ds : List Dc) {l : Lt} (hv : ∀ s, s ∈ cx l → V s) : eF get ds l a = eF get' ds l b := by
 unfold Rl.eF
 have hx := fun w => h.fits l.x w fun s hs => hv s (mC hs)
 have hy := fun w => h.fits l.y w fun s hs => hv s (oX hs)
 have ha := fun ws => h.dH ws l.a.l fun s hs => hv s (rm hs)
 simp only [hx, hy, ha]
theorem Alike.iG {a : σ} {b : ρ} (h : Alike get get' V P a b) (ds : List Dc) {r : Rl} (hv : ∀ s, s ∈ cQ r → V s) : iG get ds r a = iG get' ds r b := by
 unfold Rl.iG
 rw [h.dH _ r.head.l fun s hs => hv s (by rw [cQ]; exact ab5 _ hs)]
 congr 1
 have go : ∀ b' : List Lt, (∀ l, l ∈ b' → ∀ s, s ∈ cx l → V s) → (b'.all fun l => Rl.eF get ds l a) = b'.all fun l => Rl.eF get' ds l b := by
  intro b'
  induction b' with
  | nil => intro _; rfl
  | cons l b' ih =>
   intro hb
   rw [ac1, ac1, h.eF ds (hb l ab3), ih fun m hm => hb m (List.mem_cons_of_mem _ hm)]
 exact go r.body fun l hl s hs => hv s (by rw [cQ]; exact ab4 _ (List.mem_flatMap.2 ⟨l, hl, hs⟩))
include hg hg' hp
mutual
theorem Alike.bU : ∀ (t : Tm) (w : Int) {a : σ} {b : ρ}, Alike get get' V P a b → (∀ s, s ∈ t.vars → V s) → (t.bU get set w a).1 = (t.bU get' set' w b).1 ∧ Alike get get' V P (t.bU get set w a).2 (t.bU get' set' w b).2
 | .mk op s n l, w, a, b, h, hv => by
  rw [Tm.bU, Tm.bU]
  cases h1 : decide (op = 1) with
  | false => exact Alike.cg l h fun s hs => hv s (by rw [Tm.vars]; exact ab4 _ hs)
  | true =>
   have hs : V s := hv s (by rw [Tm.vars, h1]; simp)
   rw [aa7, aa7, h.2 s hs]
   cases (decide (w = 0) || !decide (get' b s = 0)) with
   | true => exact ⟨rfl, h⟩
   | false =>
    refine ⟨rfl, hp b s w h.1 hs, fun t ht => ?_⟩
    rw [aa5, aa5, hg, hg' b s w t h.1 hs ht, h.2 t ht]
theorem Alike.cg : ∀ (l : List Tm) {a : σ} {b : ρ}, Alike get get' V P a b → (∀ s, s ∈ an l → V s) → (cg get set l a).1 = (cg get' set' l b).1 ∧ Alike get get' V P (cg get set l a).2 (cg get' set' l b).2
 | [], a, b, h, _ => (fun _ _ _ => ⟨rfl, h⟩) hg hg' hp
 | t :: l, a, b, h, hv => by
  rw [Rl.cg, Rl.cg]
  obtain ⟨e1, h1⟩ := Alike.bU t 1 h fun s hs => hv s (by rw [an]; exact ab5 _ hs)
  obtain ⟨e2, h2⟩ := Alike.cg l h1 fun s hs => hv s (by rw [an]; exact ab4 _ hs)
  exact ⟨by rw [e1, e2], h2⟩
end
theorem Alike.bs : ∀ (ws : List Int) (l : List Tm) {a : σ} {b : ρ}, Alike get get' V P a b → (∀ s, s ∈ an l → V s) → (bs get set ws l a).1 = (bs get' set' ws l b).1 ∧ Alike get get' V P (bs get set ws l a).2 (bs get' set' ws l b).2
 | [], l, a, b, h, _ => by simpa [Rl.bs] using h
 | w :: ws, [], a, b, h, _ => by simpa [Rl.bs] using h
 | w :: ws, t :: l, a, b, h, hv => by
  rw [Rl.bs, Rl.bs]
  obtain ⟨e1, h1⟩ := Alike.bU hg hg' hp t w h fun s hs => hv s (by rw [an]; exact ab5 _ hs)
  obtain ⟨e2, h2⟩ := Alike.bs ws l h1 fun s hs => hv s (by rw [an]; exact ab4 _ hs)
  exact ⟨by rw [e1, e2], h2⟩
theorem Alike.b6 (ds : List Dc) (l : Lt) {a : σ} {b : ρ} (h : Alike get get' V P a b) (hv : ∀ s, s ∈ cx l → V s) : (b6 get set ds l a).1 = (b6 get' set' ds l b).1 ∧ Alike get get' V P (b6 get set ds l a).2 (b6 get' set' ds l b).2 := by
 unfold Rl.b6
 have vx : ∀ s, s ∈ l.x.vars → V s := fun s hs => hv s (mC hs)
 have vy : ∀ s, s ∈ l.y.vars → V s := fun s hs => hv s (oX hs)
 have va : ∀ s, s ∈ an l.a.l → V s := fun s hs => hv s (rm hs)
 cases cX l.op with
 | true =>
  rw [aa7, aa7, h.kind hv]
  obtain ⟨e1, h1⟩ := Alike.bU hg hg' hp l.x (dd get' l b) h vx
  obtain ⟨e2, h2⟩ := Alike.bU hg hg' hp l.y (dd get' l b) h1 vy
  exact ⟨by rw [e1, e2], h2⟩
 | false =>
  rw [aa5, aa5]
  obtain ⟨e0, h0⟩ := Alike.bs hg hg' hp (aV ds l.a.rel) l.a.l h va
  cases decide (l.op = 1) || decide (l.op = 2) with
  | true => exact ⟨e0, h0⟩
  | false =>
   obtain ⟨e1, h1⟩ := Alike.bU hg hg' hp l.x 1 h0 vx
   obtain ⟨e2, h2⟩ := Alike.bU hg hg' hp l.y 1 h1 vy
   exact ⟨by rw [aa5, aa5, e0, e1, e2], h2⟩
theorem Alike.cK (ds : List Dc) : ∀ (l : List Lt) {a : σ} {b : ρ}, Alike get get' V P a b → (∀ s, s ∈ l.flatMap cx → V s) → (cK get set ds l a).1 = (cK get' set' ds l b).1 ∧ Alike get get' V P (cK get set ds l a).2 (cK get' set' ds l b).2
 | [], a, b, h, _ => ⟨rfl, h⟩
 | l :: m, a, b, h, hv => by
  rw [Rl.cK, Rl.cK]
  obtain ⟨e1, h1⟩ := Alike.b6 hg hg' hp ds l h fun s hs => hv s (by rw [List.flatMap_cons]; exact ab5 _ hs)
  obtain ⟨e2, h2⟩ := Alike.cK ds m h1 fun s hs => hv s (by rw [List.flatMap_cons]; exact ab4 _ hs)
  exact ⟨by rw [e1, e2], h2⟩
theorem Alike.bV (ds : List Dc) (r : Rl) {a : σ} {b : ρ} (h : Alike get get' V P a b) (hv : ∀ s, s ∈ cQ r → V s) : (bV get set ds r a).1 = (bV get' set' ds r b).1 ∧ Alike get get' V P (bV get set ds r a).2 (bV get' set' ds r b).2 := by
 unfold Rl.bV
 obtain ⟨e1, h1⟩ := Alike.bs hg hg' hp (aV ds r.head.rel) r.head.l h fun s hs => hv s (by rw [cQ]; exact ab5 _ hs)
 obtain ⟨e2, h2⟩ := Alike.cK hg hg' hp ds r.body h1 fun s hs => hv s (by rw [cQ]; exact ab4 _ hs)
 exact ⟨by rw [e1, e2], h2⟩
theorem Alike.rounds (ds : List Dc) (r : Rl) (hv : ∀ s, s ∈ cQ r → V s) : ∀ (n : Nat) {a : σ} {b : ρ}, Alike get get' V P a b → Alike get get' V P (ck get set ds r n a) (ck get' set' ds r n b)
 | 0, _, _, h => h
 | n + 1, a, b, h => by
  rw [ck, ck]
  obtain ⟨e, h1⟩ := Alike.bV hg hg' hp ds r h hv
  rw [e]
  cases (Rl.bV get' set' ds r b).1
  ·exact h1
  ·exact Alike.rounds ds r hv n h1
end
def getM (es : List (Value × AV)) (s : ByteArray) : Int := toInt (eg es (.string s) (.lit (.int .i64 0)))
def fh (es : List (Value × AV)) (s : ByteArray) (k : Int) : List (Value × AV) := ft es (.string s) (.lit (.int .i64 k))
theorem ki : ∀ (es : List (Value × AV)) (s : ByteArray) (k : Int) (t : ByteArray), getM (fh es s k) t = bif t == s then k else getM es t
 | [], s, k, t => by
  simp only [getM, fh, ft, eg, dm]
  cases t == s <;> rfl
 | (k', a') :: es, s, k, t => by
  have ih := ki es s k t
  simp only [getM, fh, ft, eg] at ih ⊢
  cases h : dm (.string s) k' with
  | true =>
   have hk := nX h
   subst hk
   simp only [aa7, eg, dm]
   cases h2 : t == s with
   | true => rfl
   | false => simp
  | false =>
   simp only [aa5, eg]
   cases h3 : dm (.string t) k' with
   | false => simpa using ih
   | true =>
    have hk := nX h3
    subst hk
    have h4 : (t == s) = false := by
     cases h5 : t == s with
     | false => rfl
     | true => rw [eq_of_beq h5] at h; simp [dm] at h
    simp [h4]
def xb (V : List ByteArray) (s : ByteArray) : Nat := V.findIdx (gC s)
def bk (V : List ByteArray) (τ : List Int) (s : ByteArray) : Int := τ.getD (xb V s) 0
def eh (V : List ByteArray) (τ : List Int) (s : ByteArray) (k : Int) : List Int := τ.set (xb V s) k
theorem rA {V : List ByteArray} {s : ByteArray} (h : s ∈ V) : xb V s < V.length := List.findIdx_lt_length_of_exists ⟨s, h, sO.2 rfl⟩
theorem ye {V : List ByteArray} {s : ByteArray} (h : s ∈ V) : V[xb V s]'(rA h) = s := by
 have := List.findIdx_getElem (p := gC s) (xs := V) (w := rA h)
 exact (sO.1 this).symm
theorem KO {V : List ByteArray} {s t : ByteArray} (hs : s ∈ V) (ht : t ∈ V) (h : xb V s = xb V t) : s = t := by
 have h1 := ye hs
 have h2 := ye ht
 rw [← h1, ← h2]
 simp only [h]
theorem Mr {V : List ByteArray} (hn : V.Nodup) {i : Nat} (h : i < V.length) : xb V V[i] = i := by
 have h1 := ye (List.getElem_mem h)
 have h2 := rA (List.getElem_mem h)
 have h3 := List.pairwise_iff_getElem.1 hn
 rcases Nat.lt_trichotomy (xb V V[i]) i with h4 | h4 | h4
 ·exact absurd h1 (h3 _ _ h2 h h4)
 ·exact h4
 ·exact absurd h1.symm (h3 _ _ h h2 h4)
theorem lr (V : List ByteArray) : ∀ (τ : List Int) (s : ByteArray) (k : Int) (t : ByteArray), τ.length = V.length → s ∈ V → t ∈ V → bk V (eh V τ s k) t = bif t == s then k else bk V τ t := by
 intro τ s k t hl hs ht
 unfold bk eh
 rw [List.getD_eq_getElem?_getD, List.getD_eq_getElem?_getD, List.getElem?_set]
 by_cases h : xb V s = xb V t
 ·have e := KO hs ht h
  subst e
  have := rA hs
  simp [hl, this]
 ·have : (t == s) = false := by
   cases e : t == s with
   | false => rfl
   | true => rw [eq_of_beq e] at h; exact absurd rfl h
  simp [h, this]
theorem zU {V : List ByteArray} (hn : V.Nodup) {τ : List Int} (hl : τ.length = V.length) : V.map (bk V τ) = τ := by
 apply List.ext_getElem
 ·simp [hl]
 ·intro i h1 h2
  rw [List.getElem_map]
  unfold bk
  have hi : i < V.length := by simpa using h1
  rw [Mr hn hi, List.getD_eq_getElem?_getD, ab7 h2]; rfl
def yE (ds : List Dc) (r : Rl) : Int × List Int :=
 bif decide ((dL getM fh ds r ((bq r).length + 1) []).1 = 0) then
  (bif (bq r).all (fun s => !decide (getM (dL getM fh ds r ((bq r).length + 1) []).2 s = 0)) then (0, (bq r).map (getM (dL getM fh ds r ((bq r).length + 1) []).2)) else (53, []))
 else ((dL getM fh ds r ((bq r).length + 1) []).1, [])
def ui (ds : List Dc) (r : Rl) : Int × List Int :=
 bif decide (eH ds r = 0) then
  (bif (ck (bk (bq r)) (eh (bq r)) ds r ((bq r).length + 1) ((bq r).map fun _ => 0)).all (fun k => !decide (k = 0)) && iG (bk (bq r)) ds r (ck (bk (bq r)) (eh (bq r)) ds r ((bq r).length + 1) ((bq r).map fun _ => 0)) then
   (0, ck (bk (bq r)) (eh (bq r)) ds r ((bq r).length + 1) ((bq r).map fun _ => 0)) else (53, []))
 else (eH ds r, [])
theorem lE (ds : List Dc) (a : At) : known ds a = 0 ∨ known ds a = 51 ∨ known ds a = 52 := by
 unfold known
 cases ie a.rel ds with
 | none => exact .inr (.inl rfl)
 | some i =>
  show (bif _ then (0 : Int) else 52) = 0 ∨ _
  cases decide ((aV ds a.rel).length = a.l.length)
  ·exact .inr (.inr rfl)
  ·exact .inl rfl
section
variable {σ : Type} {get : σ → ByteArray → Int} {set : σ → ByteArray → Int → σ}
theorem AH (ds : List Dc) : ∀ (b : List Lt) (y : Int × (σ × Bool)), (y.1 = 0 ∨ y.1 = 53) → dt ds b ≠ 0 → (gh get set ds b y).1 = dt ds b
 | [], _, _, h => absurd rfl h
 | l :: b, y, hy, h => by
  rw [dt] at h ⊢
  rw [gh]
  cases hc : dw l && !decide (known ds l.a = 0) with
  | true =>
   rw [aa7]
   simp only [aa1, Bool.not_eq_true', aa2] at hc
   rw [Kc ds hc.1 hc.2]
   have hn : fU y.1 (known ds l.a) = known ds l.a := by
    rcases hy with e | e <;> rw [e] <;> rcases lE ds l.a with e2 | e2 | e2 <;> rw [e2] <;> first | rfl | exact absurd e2 hc.2
   have hi : o6 (known ds l.a) = true := by
    rcases lE ds l.a with e2 | e2 | e2
    ·exact absurd e2 hc.2
    ·rw [e2]; rfl
    ·rw [e2]; rfl
   rw [hn, hi]; rfl
  | false =>
   rw [hc, aa5] at h
   rw [aa5]
   have hk : dw l = true → known ds l.a = 0 := fun e => by
    rw [e, ac0] at hc
    simpa using hc
   have hn : fU y.1 (ia get set ds l y.2).1 = 0 ∨ fU y.1 (ia get set ds l y.2).1 = 53 := by
    rcases lh (get := get) (set := set) ds hk y.2 with e | e <;> rcases hy with e2 | e2 <;> rw [e, e2] <;> decide
   have hi : o6 (fU y.1 (ia get set ds l y.2).1) = false := by rcases hn with e | e <;> rw [e] <;> rfl
   rw [hi, aa5]
   exact AH ds b _ hn h
theorem AU (ds : List Dc) (r : Rl) (st : σ) (h : eH ds r ≠ 0) : (dE get set ds r st).1 = eH ds r := by
 unfold dE
 unfold eH at h ⊢
 cases h0 : decide (known ds r.head = 0) with
 | true =>
  rw [h0, aa7] at h
  rw [aa7]
  refine AH ds _ _ ?_ h
  unfold b8
  rw [h0, aa7]
  cases (c0 get set (aV ds r.head.rel) r.head.l (st, false)).1
  ·exact .inl rfl
  ·exact .inr rfl
 | false =>
  rw [aa5]
  have ha : b8 get set ds r.head (st, false) = (known ds r.head, (st, false)) := by
   unfold b8; rw [h0]; rfl
  rw [ha]
  rw [aa2] at h0
  cases r.body with
  | nil => rfl
  | cons l b =>
   rw [gh]
   have hn : ∀ e, fU (known ds r.head) e = known ds r.head := fun e => by
    rcases lE ds r.head with e2 | e2 | e2
    ·exact absurd e2 h0
    ·rw [e2]; rfl
    ·rw [e2]; rfl
   have hi : o6 (known ds r.head) = true := by
    rcases lE ds r.head with e2 | e2 | e2
    ·exact absurd e2 h0
    ·rw [e2]; rfl
    ·rw [e2]; rfl
   simp only [hn, hi]; rfl
end
theorem BV (m : List ByteArray) : (gI [] m).Nodup := by
 rw [← hJ]
 have go : ∀ (m o : List ByteArray), o.Nodup → (bH o m).Nodup := by
  intro m
  induction m with
  | nil => intro o h; exact h
  | cons s m ih =>
   intro o h
   rw [fY]
   refine ih _ ?_
   unfold pE
   cases e : o.contains s with
   | true => exact h
   | false =>
    rw [aa5]
    refine List.nodup_append.2 ⟨h, by simp, fun a ha b hb e2 => ?_⟩
    rw [List.mem_singleton] at hb
    subst hb; subst e2
    rw [List.contains_iff_mem.2 ha] at e; cases e
 exact go m [] List.nodup_nil
theorem r9 (ds : List Dc) (r : Rl) (hr : aG r = true) (n : Nat) : Alike getM (bk (bq r)) (fun s => s ∈ bq r) (fun τ => τ.length = (bq r).length) (ck getM fh ds r n []) (ck (bk (bq r)) (eh (bq r)) ds r n ((bq r).map fun _ => 0)) := by
 refine Alike.rounds ki (fun st s k t hl hs ht => lr (bq r) st s k t hl hs ht) (fun st s k hl _ => by simpa [eh] using hl) ds r (fun s hs => (iK hr).2 hs) n ⟨by simp, fun s hs => ?_⟩
 have h0 : getM [] s = 0 := rfl
 rw [h0]
 unfold bk
 rw [List.getD_eq_getElem?_getD, List.getElem?_map]
 cases (bq r)[xb (bq r) s]? <;> rfl
theorem Hc (ds : List Dc) (hds : ze ds) {r : Rl} (hr : aG r = true) : yE ds r = ui ds r := by
 have hn : (bq r).Nodup := by unfold bq; rw [hr]; exact BV _
 unfold ui
 cases hk : decide (eH ds r = 0) with
 | false =>
  rw [aa5]
  rw [aa2] at hk
  have e := AU (get := getM) (set := fh) ds r [] hk
  unfold yE
  rw [dL, e, aa4 hk, aa5]
  simp only [aa4 hk, aa5]
 | true =>
  rw [aa7]
  rw [aa0] at hk
  have hV : ∀ s, s ∈ cQ r → s ∈ bq r := fun s hs => (iK hr).2 hs
  have hsame := rY ki ds hds hr hk (bq r) hV ((bq r).length + 1) [] (Nat.lt_succ_of_le (vJ _ _ _)) (fun s => .inl rfl)
  have hfits := Alike.iG (r9 ds r hr ((bq r).length + 1)) ds (r := r) hV
  obtain ⟨hlen, hal⟩ := r9 ds r hr ((bq r).length + 1)
  generalize hτ : ck (bk (bq r)) (eh (bq r)) ds r ((bq r).length + 1) ((bq r).map fun _ => 0) = τ at hlen hal hfits ⊢
  have hall : (bq r).all (fun s => !decide (getM (ck getM fh ds r ((bq r).length + 1) []) s = 0)) = τ.all fun k => !decide (k = 0) := by
   conv => rhs; rw [← zU hn hlen]
   rw [List.all_map]
   have go : ∀ l : List ByteArray, (∀ s, s ∈ l → s ∈ bq r) → (l.all fun s => !decide (getM (ck getM fh ds r ((bq r).length + 1) []) s = 0)) = l.all ((fun k => !decide (k = 0)) ∘ bk (bq r) τ) := by
    intro l
    induction l with
    | nil => intro _; rfl
    | cons s l ih =>
     intro h
     rw [ac1, ac1, ih fun t ht => h t (List.mem_cons_of_mem _ ht), hal s (h s ab3)]; rfl
   exact go _ fun s hs => hs
  unfold yE
  cases he : decide ((dL getM fh ds r ((bq r).length + 1) []).1 = 0) with
  | false =>
   rw [aa2] at he
   obtain ⟨e1, e2⟩ := hsame.2 he
   rw [hfits] at e2
   rw [aa5, e1, e2, Bool.and_false, aa5]
  | true =>
   rw [aa0] at he
   obtain ⟨e1, e2⟩ := hsame.1 he
   rw [aa7, e1, hall]
   cases ha : τ.all fun k => !decide (k = 0) with
   | false => rw [Bool.false_and]; rfl
   | true =>
    have : iG (bk (bq r)) ds r τ = true := by
     rw [← hfits]
     refine e2 fun s hs => ?_
     rw [← hall, List.all_eq_true] at ha
     simpa using ha s (hV s hs)
    rw [this, Bool.and_true, aa7, aa7]
    have hm : (bq r).map (getM (ck getM fh ds r ((bq r).length + 1) [])) = τ := by
     refine Eq.trans (List.map_congr_left fun s hs => hal s hs) (zU hn hlen)
    rw [hm]
end Go.Rl
namespace Go.Proofs.YtdpmikfheebicaaGreatDoor
open Go Go.Dn Go.Rl Go.Proofs Go.RowKit Go.Extern.Stop Go.Stop Go.Extern
def LQ (κ : Kp) (e : Int) : Addr := bif decide (e = 51) then κ.fw else bif decide (e = 52) then κ.arity else κ.type
def a6 (κ : Kp) (e : Int) : Value := bif decide (e = 0) then .nilIface else .iface 189 (.pointer (some (LQ κ e)))
def vU (e : Int) : Prop := e = 51 ∨ e = 52 ∨ e = 53
def iS (e : Int) : Prop := e = 0 ∨ vU e
theorem cu (κ : Kp) (e : Int) : aC (a6 κ e) = true := by unfold a6; cases decide (e = 0) <;> rfl
theorem iX (κ : Kp) (e : Int) : bF (a6 κ e) = decide (e = 0) := by unfold a6; cases decide (e = 0) <;> rfl
theorem HK (κ : Kp) {e k : Int} (he : vU e) (hk : vU k) (h : e ≠ k) : LQ κ e ≠ LQ κ k := by
 rcases he with rfl | rfl | rfl <;> rcases hk with rfl | rfl | rfl <;> first | exact absurd rfl h | exact κ.d1 | exact κ.d2 | exact κ.d3 | exact κ.d1.symm | exact κ.d2.symm | exact κ.d3.symm
theorem JR (κ : Kp) {e k : Int} (he : iS e) (hk : iS k) : a6 κ e = a6 κ k ↔ e = k := by
 refine ⟨fun h => ?_, fun h => by rw [h]⟩
 rcases he with rfl | he
 ·rcases hk with rfl | hk
  ·rfl
  ·have : decide (k = 0) = false := by rcases hk with rfl | rfl | rfl <;> rfl
   unfold a6 at h
   rw [this] at h; cases h
 ·have e0 : decide (e = 0) = false := by rcases he with rfl | rfl | rfl <;> rfl
  rcases hk with rfl | hk
  ·unfold a6 at h
   rw [e0] at h; cases h
  ·have k0 : decide (k = 0) = false := by rcases hk with rfl | rfl | rfl <;> rfl
   unfold a6 at h
   rw [e0, k0, aa5, aa5] at h
   simp only [Value.iface.injEq, Value.pointer.injEq, aa3, true_and] at h
   by_cases hh : e = k
   ·exact hh
   ·exact absurd h (HK κ he hk hh)
theorem E2 (κ : Kp) {e : Int} (he : vU e) : ∃ c t, xz κ (LQ κ e).block = some (.cells c t (0, 0)) := by
 have go : ∀ b, (∀ g, g ∈ [1, 0, 3, 4, 2] → b ≠ g) → b = κ.fw.block ∨ b = κ.arity.block ∨ b = κ.type.block → ∃ c t, xz κ b = some (.cells c t (0, 0)) := by
  intro b hb h
  unfold xz
  rw [pF (hb _ (by simp)), pF (hb 0 (by simp)), pF (hb 3 (by simp)), pF (hb 4 (by simp)), pF (hb 2 (by simp))]
  simp only [aa5]
  cases h1 : Nat.beq b κ.fw.block with
  | true => exact ⟨_, _, rfl⟩
  | false =>
   rw [aa5]
   cases h2 : Nat.beq b κ.arity.block with
   | true => exact ⟨_, _, rfl⟩
   | false =>
    rw [aa5]
    cases h3 : Nat.beq b κ.type.block with
    | true => exact ⟨_, _, rfl⟩
    | false =>
     rcases h with h | h | h
     ·rw [h, Nat.beq_refl] at h1; cases h1
     ·rw [h, Nat.beq_refl] at h2; cases h2
     ·rw [h, Nat.beq_refl] at h3; cases h3
 rcases he with rfl | rfl | rfl
 ·exact go _ κ.n3 (.inl rfl)
 ·exact go _ κ.n4 (.inr (.inl rfl))
 ·exact go _ κ.n5 (.inr (.inr rfl))
theorem Qb (v : Value) (xT : TypeId) (w : World) : (Instr.typeAssert (.iface 189 v) xT 165 true).run Tryz.prog w = .ok (.tuple #[.nilIface, .bool false]) w := run_typeAssert_lacksB Tryz.underlying165 (by kernel_rfl) (by kernel_rfl) v xT w
theorem FA (v : Value) (xT : TypeId) (w : World) : (Instr.typeAssert (.iface 189 v) xT 167 true).run Tryz.prog w = .ok (.tuple #[.nilIface, .bool false]) w := run_typeAssert_lacksB Tryz.underlying167 (by kernel_rfl) (by kernel_rfl) v xT w
theorem BO (v : Value) (xT : TypeId) (w : World) : (Instr.typeAssert (.iface 189 v) xT 169 true).run Tryz.prog w = .ok (.tuple #[.nilIface, .bool false]) w := run_typeAssert_lacksB Tryz.underlying169 (by kernel_rfl) (by kernel_rfl) v xT w
set_option maxRecDepth 8000 in
theorem Jt (a b : Addr) (w : World) (hab : a ≠ b) {ca cb : Array Value} {ta tb : TypeId} (ha : w.heap[a.block]? = some (.cells ca ta (0, 0))) (hb : w.heap[b.block]? = some (.cells cb tb (0, 0))) :
  Calls Tryz.prog 56 #[.iface 189 (.pointer (some a)), .iface 189 (.pointer (some b))] w fun e w' => e = .returned (.bool false) ∧ w' = w := by
 obtain ⟨i, hi, hcmp⟩ := Option.map_eq_some_iff.1 B7
 obtain ⟨j, hj, hjs⟩ := Option.map_eq_some_iff.1 B0
 have h8 := @run_callFunc_extern Tryz.prog 86 _ Extern.ReflectliteType.typeOf Tryz.func86 (by kernel_rfl) (by kernel_rfl) (by kernel_rfl) (by kernel_rfl)
 have h32 := @run_callFunc_extern Tryz.prog 192 _ (Extern.ReflectliteType.method fun t => do Go.Extern.Rtype.noPackHeld "Comparable" t; pure (.bool (← typeInfo t).comparable)) Tryz.func192 (by kernel_rfl) (by kernel_rfl) (by kernel_rfl) (by kernel_rfl)
 have tT := u6
 have cT := l4
 have mR := gY
 have hne := run_eql_iface_ptr_other (P := Tryz.prog) w Tryz.underlying88 Tryz.underlying189 hi hcmp hj (by omega) hab ha hb
 have n1 := Qb
 have n2 := FA
 have n3 := BO
 go_enter Tryz.func56, Tryz.ntmps56
 go_wp2
 refine wp_loop_rounds 1 ?_
 rw [rounds_succ]
 go_wp2
 all_goals (go_ret; exact ⟨rfl, rfl⟩)
open Classical in
noncomputable def kn (κ : Kp) (v : Value) : Bool := decide (∃ e, iS e ∧ v = a6 κ e)
open Classical in
noncomputable def kM (κ : Kp) (v : Value) : Bool := decide (∃ e, vU e ∧ v = a6 κ e)
open Classical in
noncomputable def gu (v t : Value) : Bool := decide (v = t)
theorem tB (κ : Kp) (v : Value) : kn κ v = true ↔ ∃ e, iS e ∧ v = a6 κ e := by unfold kn; exact @decide_eq_true_iff _ (Classical.propDecidable _)
theorem Aj (κ : Kp) (v : Value) : kM κ v = true ↔ ∃ e, vU e ∧ v = a6 κ e := by unfold kM; exact @decide_eq_true_iff _ (Classical.propDecidable _)
theorem FG (v t : Value) : gu v t = true ↔ v = t := by unfold gu; exact @decide_eq_true_iff _ (Classical.propDecidable _)
theorem yy (κ : Kp) {e : Int} (h : iS e) : kn κ (a6 κ e) = true := (tB _ _).2 ⟨e, h, rfl⟩
theorem yC (κ : Kp) {e : Int} (h : vU e) : kM κ (a6 κ e) = true := (Aj _ _).2 ⟨e, h, rfl⟩
theorem gW (κ : Kp) {e k : Int} (he : iS e) (hk : iS k) : gu (a6 κ e) (a6 κ k) = decide (e = k) := by
 rw [Bool.eq_iff_iff, FG, aa0]
 exact JR κ he hk
noncomputable def M9 (κ : Kp) : List AV → Option (Bool × AV)
 | [.lit v, .lit t] => some (kn κ v && kM κ t, .bool (gu v t))
 | _ => none
theorem Sl (κ : Kp) : fe (Pr κ) 56 (M9 κ) := by
 intro args x hn hg
 unfold M9 at hg
 split at hg
 ·simp only [aa3, aa9, aa1] at hg
  obtain ⟨⟨h1, h2⟩, rfl⟩ := hg
  obtain ⟨e, he, rfl⟩ := (tB _ _).1 h1
  obtain ⟨k, hk, rfl⟩ := (Aj _ _).1 h2
  have k0 : decide (k = 0) = false := by rcases hk with rfl | rfl | rfl <;> rfl
  have hk' : a6 κ k = .iface 189 (.pointer (some (LQ κ k))) := by unfold a6; rw [k0]; rfl
  refine ⟨_, _, Tryz.func56, rfl, rfl, rfl, fun C vs hC hI hm => ?_⟩
  rw [tJ hm, gW κ he (.inr hk)]
  rcases he with rfl | he
  ·have e0 : a6 κ 0 = .nilIface := rfl
   rw [e0, hk']
   refine (callsIn_wide.2 (IZ _ C.w)).mono ?_
   rintro e w' ⟨rfl, rfl⟩
   refine ⟨?_, gO.refl _⟩
   rw [aa4 (by rcases hk with rfl | rfl | rfl <;> decide)]
  ·have e0 : decide (e = 0) = false := by rcases he with rfl | rfl | rfl <;> rfl
   have he' : a6 κ e = .iface 189 (.pointer (some (LQ κ e))) := by unfold a6; rw [e0]; rfl
   rw [he', hk']
   by_cases h : e = k
   ·subst h
    refine (callsIn_wide.2 (En _ C.w)).mono ?_
    rintro e w' ⟨rfl, rfl⟩
    refine ⟨?_, gO.refl _⟩
    rw [aa6 rfl]
   ·obtain ⟨c1, t1, q1⟩ := E2 κ he
    obtain ⟨c2, t2, q2⟩ := E2 κ hk
    have w1 := (hI.kept _ _ (by rw [hC]; exact q1)).2
    have w2 := (hI.kept _ _ (by rw [hC]; exact q2)).2
    refine (callsIn_wide.2 (Jt _ _ C.w (HK κ he hk h) w1 w2)).mono ?_
    rintro e w' ⟨rfl, rfl⟩
    refine ⟨?_, gO.refl _⟩
    rw [aa4 h]
 ·cases hg
noncomputable def JS (κ : Kp) : Env := (RK κ).au 56 (M9 κ)
theorem eIe (κ : Kp) : aw (JS κ) := (WT κ).dp (Sl κ)
theorem U5 (κ : Kp) : ai (JS κ) := (Xc κ).au
end Go.Proofs.YtdpmikfheebicaaGreatDoor
namespace Go.Proofs.YtdpmikfheebicaaGreatDoor
open Go Go.Dn Go.Rl Go.Proofs
attribute [local irreducible] a9 vc
set_option maxRecDepth 20000
structure GA where
 rel : ByteArray
 names : List AV
 types : List AV
 i : Bool
 o : Bool
 line : Int
abbrev NK (d : GA) : AV := .agg [.lit (.string d.rel), .ae 9 d.names, .ae 3 d.types, .bool d.i, .bool d.o, .int d.line]
def pL (t : AV) : Bool := decide (toInt t = 1) || decide (toInt t = 2)
def u9 : List AV → List AV → Bool
 | n :: ns, t :: ts => isName (toStr n) && pL t && u9 ns ts
 | _, _ => true
def sl (rel : ByteArray) (ns ts : List AV) : Bool := isName rel && !decide (ns.length = 0) && decide (ns.length ≤ 8) && decide (ts.length = ns.length) && u9 ns ts
def sG (a : AV) : Bool := sl (toStr (ad a 0)) (ah (ad a 1)) (ah (ad a 2))
theorem xq {ns ts : List AV} {i : Nat} (h1 : i < ns.length) (h2 : i < ts.length) : u9 (ns.drop i) (ts.drop i) = (isName (toStr (nth ns i)) && pL (nth ts i) && u9 (ns.drop (i + 1)) (ts.drop (i + 1))) := by
 rw [ab1 h1, ab1 h2, u9, bx _ _ h1, bx _ _ h2]
theorem xDc (κ : Kp) (d : GA) (i : Int) (I : Nat → S → Prop) (n : Nat) (K : Exit → S → Prop) : (vc (JS κ) 12 90 none 0 (ag (Pr κ).toProgram 90 4) (sp 58 [(1, .ptr 0 0 [] 0), (31, .ae 9 d.names), (32, .int d.names.length), (33, .int i)] [.box 62 (NK d)]) (bC (JS κ) 90 4 0 I n K)) = (
 letI z1 := sp 58 [(1, AV.ptr 0 0 [] 0), (31, AV.ae 9 d.names), (32, AV.int (↑(d.names.length) : Int)), (33, AV.int (IntKind.wrap IntKind.i64 (i + (1 : Int))))]
  [Obj.box 62 (AV.agg [AV.str d.rel, AV.ae 9 d.names, AV.ae 3 d.types, AV.bool d.i, AV.bool d.o, AV.int d.line])]
 letI z2 := decide ((0 : Int) ≤ i) && decide (i < (↑(d.types.length) : Int))
 letI z3 := K Exit.ret (sp 58 [(2, AV.bool false)] [])
 ax (decide (i < (↑(d.names.length) : Int))) (aZ (decide ((0 : Int) ≤ i) && decide (i < (↑(d.names.length) : Int))) (ax (!isName (toStr (nth d.names i.toNat)))
 z3 (aZ z2 (ax (toInt (nth d.types i.toNat) != (1 : Int)) (aZ z2 (ax (toInt (nth d.types i.toNat) != (2 : Int)) z3 (∃ (m : Nat), m < n ∧ I m z1))) (∃ (m : Nat),
 m < n ∧ I m z1))))) (K (Exit.exit 0) (sp 58 [] []))) := by kernel_rfl
abbrev KI (a : GA × Int) : S := sp 58 [(1, .ptr 0 0 [] 0), (31, .ae 9 a.1.names), (32, .int a.1.names.length), (33, .int a.2)] [.box 62 (NK a.1)]
def qS (a : GA × Int) : Prop := a.1.types.length = a.1.names.length ∧ a.1.names.length ≤ 8 ∧ 0 ≤ a.2 ∧ a.2 ≤ a.1.names.length
def z0 (a : GA × Int) : Out (Exit × S) := .ax (u9 (a.1.names.drop a.2.toNat) (a.1.types.drop a.2.toNat)) (.one (.exit 0, sp 58 [] [])) (.one (.ret, sp 58 [(2, .bool false)] []))
theorem XE (κ : Kp) : bg (JS κ) 12 90 4 (aK 0 KI qS z0) := by
 refine aO (fun a => a.1.names.length - a.2.toNat) ?_
 rintro ⟨d, i⟩ K ⟨h1, h2, h3, h4⟩ ho
 simp only at h1 h2 h3 h4
 rw [show (JS κ).P = Pr κ from rfl]
 refine Eq.mpr (xDc κ d i _ _ K) ?_
 simp only [z0, Out.run, af] at ho
 simp only [af, aq, aa0, aa2, aa1, Bool.not_eq_true', ab2, bne_iff_ne, bne_eq_false_iff_eq]
 refine ⟨fun hi => ?_, fun hi => ?_⟩
 ·have hk : i.toNat < d.names.length := by omega
  rw [xq hk (by omega)] at ho
  rw [aU (n := i + 1) (by omega) (by omega)]
  have go : pL (nth d.types i.toNat) = true → isName (toStr (nth d.names i.toNat)) = true → ∃ m, m < d.names.length - i.toNat ∧ fp KI qS z0 (fun a => a.1.names.length - a.2.toNat) K m (KI (d, i + 1)) := fun e1 e2 => by
   rw [e1, e2, ac0, ac0] at ho
   refine ⟨_, ?_, (d, i + 1), rfl, ⟨h1, h2, by simp only; omega, by simp only; omega⟩, rfl, ?_⟩
   ·simp only; omega
   ·simp only [z0, Out.run, af, show (i + 1).toNat = i.toNat + 1 by omega]
    exact ho
  refine ⟨⟨h3, hi⟩, fun e => ho.2 (by rw [e]; rfl), fun e => ⟨⟨h3, by omega⟩, fun e1 => ⟨⟨h3, by omega⟩, fun e2 => ho.2 ?_, fun e2 => go ?_ e⟩, fun e1 => go ?_ e⟩⟩
  ·have : pL (nth d.types i.toNat) = false := by unfold pL; rw [aa4 e1, aa4 e2]; rfl
   rw [this, e]; rfl
  ·unfold pL; rw [aa6 e2, Bool.or_true]
  ·unfold pL; rw [aa6 e1, Bool.true_or]
 ·rw [aa8 (by omega)] at ho
  exact ho.1 rfl
noncomputable def OU (κ : Kp) : Env := (JS κ).aj 90 4 (aK 0 KI qS z0)
theorem X2 (κ : Kp) : aw (OU κ) := (eIe κ).aj (U5 κ) (XE κ)
theorem Uj (κ : Kp) : ai (OU κ) := (U5 κ).aj aE
theorem Yg (κ : Kp) (d : GA) (K : AV → List Dn.Obj → Prop) : (a9 (OU κ) 12 90 [NK d] [] K) = (
 letI z1 := K (AV.bool false) []
 letI z2 := Pg.toProgram (Env.P (JS κ))
 ax (!isName d.rel) z1 (ax ((↑(d.names.length) : Int) == (0 : Int)) z1 (ax (decide ((↑(d.names.length) : Int) > (8 : Int))) z1 (ax ((↑(d.types.length) : Int) !=
 (↑(d.names.length) : Int)) z1 (ag z2 90 4 = ag z2 90 4 ∧ ∃ (a : GA × Int), sp 58 [(1, AV.ptr 0 0 [] 0), (31, AV.ae 9 d.names), (32, AV.int (↑(d.names.length) :
 Int)), (33, AV.int 0)] [Obj.box 62 (AV.agg [AV.str d.rel, AV.ae 9 d.names, AV.ae 3 d.types, AV.bool d.i, AV.bool d.o, AV.int d.line])] = sp 58 [(1, AV.ptr 0 0
 [] 0), (31, AV.ae 9 a.1.names), (32, AV.int (↑(a.1.names.length) : Int)), (33, AV.int a.2)] [Obj.box 62 (AV.agg [AV.str a.1.rel, AV.ae 9 a.1.names, AV.ae 3
 a.1.types, AV.bool a.1.i, AV.bool a.1.o, AV.int a.1.line])] ∧ (a.1.types.length = a.1.names.length ∧ a.1.names.length ≤ 8 ∧ (0 : Int) ≤ a.2 ∧ a.2 ≤
 (↑(a.1.names.length) : Int)) ∧ ax (u9 (List.drop a.2.toNat a.1.names) (List.drop a.2.toNat a.1.types)) (K (AV.bool true) []) z1))))) := by kernel_rfl
def NB : List AV → Option (Bool × AV)
 | [.agg [.lit (.string rel), .ae 9 ns, .ae 3 ts, .lit (.bool _), .lit (.bool _), .lit (.int .i64 _)]] => some (true, .bool (sl rel ns ts))
 | _ => none
theorem pDc (κ : Kp) : bM (OU κ) 12 90 NB := by
 intro args x hh
 unfold NB at hh
 split at hh
 ·rename_i rel ns ts bi bo line
  simp only [aa3, aa9, true_and] at hh
  subst hh
  refine ⟨_, rfl, rfl, ?_⟩
  refine Eq.mpr (Yg κ ⟨rel, ns, ts, bi, bo, line⟩ _) ?_
  unfold sl
  simp only [af, aa0, aa2, Bool.not_eq_true', ab2, beq_iff_eq, beq_eq_false_iff_ne, bne_iff_ne, bne_eq_false_iff_eq]
  refine ⟨fun e => cO (by rw [e]; rfl), fun e => ⟨fun e2 => cO ?_, fun e2 => ⟨fun e3 => cO ?_, fun e3 => ⟨fun e4 => cO ?_, fun e4 => ⟨trivial, (⟨rel, ns, ts, bi, bo, line⟩, 0), rfl, ⟨by simp only; omega, by simp only; omega, by simp only; omega, by simp only; omega⟩, ?_⟩⟩⟩⟩⟩
  ·rw [aa6 (show ns.length = 0 by omega)]; simp
  ·rw [aa4 (show ¬ ns.length ≤ 8 by omega)]; simp
  ·rw [aa4 (show ¬ ts.length = ns.length by omega)]; simp
  ·rw [e, aa4 (show ¬ ns.length = 0 by omega), aa6 (show ns.length ≤ 8 by omega), aa6 (show ts.length = ns.length by omega)]
   simp only [ab8, ab0, Bool.not_false, ac0]
   exact ⟨fun e5 => cO e5.symm, fun e5 => cO e5.symm⟩
 ·cases hh
noncomputable def KN (κ : Kp) : Env := (OU κ).au 90 NB
theorem WC (κ : Kp) : aw (KN κ) := (X2 κ).au (Uj κ) (pDc κ)
theorem TW (κ : Kp) : ai (KN κ) := (Uj κ).au
theorem R5 (κ : Kp) (ds rs : List AV) (i : Int) (I : Nat → S → Prop) (n : Nat) (K : Exit → S → Prop) : (vc (KN κ) 12 93 none 1 (ag (Pr κ).toProgram 93 2) (sp 19 [(0, .ae 62 ds), (1, .dq 89 []), (7, .int ds.length), (8, .int i)] [.box 25 (.agg [.ae 62 ds, .ae 41 rs])]) (bC (KN κ) 93 2 1 I n K)) = (
 letI z1 := AV.agg [AV.ae 62 ds, AV.ae 41 rs]
 letI z2 := nth ds i.toNat
 ax (decide (i < (↑(ds.length) : Int))) (aZ (decide ((0 : Int) ≤ i) && decide (i < (↑(ds.length) : Int))) (ax (!sl (toStr (ad z2 0)) (ah (ad z2 1)) (ah (ad z2
 2))) (K Exit.ret (sp 19 [(4, AV.int i)] [Obj.box 25 z1])) (∃ (m : Nat), m < n ∧ I m (sp 19 [(0, AV.ae 62 ds), (1, AV.dq 89 []), (7, AV.int (↑(ds.length) :
 Int)), (8, AV.int (IntKind.wrap IntKind.i64 (i + (1 : Int))))] [Obj.box 25 z1])))) (K (Exit.exit 0) (sp 19 [] [Obj.box 25 z1]))) := by kernel_rfl
abbrev GW : Nat := 93
abbrev NW : Nat := 132
abbrev FH (ds rs : List AV) : Dn.Obj := .box 25 (.agg [.ae 62 ds, .ae 41 rs])
abbrev Kj := List AV × List AV × Int
abbrev L6 (a : Kj) : S := sp 19 [(0, .ae 62 a.1), (1, .dq 89 []), (7, .int a.1.length), (8, .int a.2.2)] [FH a.1 a.2.1]
def D9 (a : Kj) : Prop := a.1.length ≤ aI ∧ 0 ≤ a.2.2 ∧ a.2.2 ≤ a.1.length
def yA (a : Kj) : Out (Exit × S) := .ax ((a.1.drop a.2.2.toNat).all sG) (.one (.exit 0, sp 19 [] [FH a.1 a.2.1])) (.all (fun j : Int => 0 ≤ j) fun j => .one (.ret, sp 19 [(4, .int j)] [FH a.1 a.2.1]))
theorem Rg (κ : Kp) : bg (KN κ) 12 GW 2 (aK 1 L6 D9 yA) := by
 refine aO (fun a => a.1.length - a.2.2.toNat) ?_
 rintro ⟨ds, rs, i⟩ K ⟨h1, h2, h3⟩ ho
 simp only at h1 h2 h3
 rw [show (KN κ).P = Pr κ from rfl]
 refine Eq.mpr (R5 κ ds rs i _ _ K) ?_
 simp only [aI] at h1
 simp only [yA, Out.run, af] at ho
 simp only [af, aq, aa0, aa2, aa1, Bool.not_eq_true', ab2]
 refine ⟨fun hi => ⟨⟨h2, hi⟩, ?_⟩, fun hi => ?_⟩
 ·have hk : i.toNat < ds.length := by omega
  rw [ab1 hk, ← bx ds i.toNat hk, ac1] at ho
  refine ⟨fun e => ho.2 (by rw [show sG (nth ds i.toNat) = false from e]; rfl) i h2, fun e => ?_⟩
  rw [show sG (nth ds i.toNat) = true from e, ac0] at ho
  rw [aU (n := i + 1) (by omega) (by omega)]
  refine ⟨_, ?_, (ds, rs, i + 1), rfl, ⟨by simpa [aI] using h1, by simp only; omega, by simp only; omega⟩, rfl, ?_⟩
  ·simp only; omega
  ·simp only [yA, Out.run, af, show (i + 1).toNat = i.toNat + 1 by omega]
   exact ho
 ·rw [aa8 (by omega)] at ho
  exact ho.1 rfl
noncomputable def ua (κ : Kp) : Env := (KN κ).aj GW 2 (aK 1 L6 D9 yA)
theorem RJ (κ : Kp) : aw (ua κ) := (WC κ).aj (TW κ) (Rg κ)
theorem Pd (κ : Kp) : ai (ua κ) := (TW κ).aj aE
theorem S2 (κ : Kp) (ds rs : List AV) (i : Int) (I : Nat → S → Prop) (n : Nat) (K : Exit → S → Prop) : (vc (ua κ) 12 132 none 1 (ag (Pr κ).toProgram 132 2) (sp 19 [(0, .ae 41 rs), (1, .dq 92 []), (7, .int rs.length), (8, .int i)] [.box 25 (.agg [.ae 62 ds, .ae 41 rs])]) (bC (ua κ) 132 2 1 I n K)) = (
 letI z1 := AV.agg [AV.ae 62 ds, AV.ae 41 rs]
 letI z2 := nth rs i.toNat
 ax (decide (i < (↑(rs.length) : Int))) (aZ (decide ((0 : Int) ≤ i) && decide (i < (↑(rs.length) : Int))) (aZ (decide (List.length (ah (ad (ad z2 0) 1)) ≤ 9223372036854775807) && decide (List.length (ah (ad z2 1)) ≤ 9223372036854775807)) (ax (!aG {head := { rel := toStr (ad (ad z2 0) 0), l := aa (ah (ad (ad z2 0) 1)) }, body := bn (ah (ad z2 1)) }) (K Exit.ret (sp 19 [(4, AV.int i)] [Obj.box 25 z1])) (∃ (m : Nat), m < n ∧ I m (sp 19 [(0, AV.ae 41 rs), (1, AV.dq 92 []), (7, AV.int (↑(rs.length) : Int)), (8, AV.int (IntKind.wrap IntKind.i64 (i + (1 : Int))))] [Obj.box 25 z1]))))) (K (Exit.exit 0) (sp 19 [] [Obj.box 25 z1]))) := by kernel_rfl
def gy (a : AV) : Bool := decide ((ah (ad (ad a 0) 1)).length ≤ aI) && decide ((ah (ad a 1)).length ≤ aI)
def jm (a : AV) : Bool := aG (uM a)
abbrev LN (a : Kj) : S := sp 19 [(0, .ae 41 a.2.1), (1, .dq 92 []), (7, .int a.2.1.length), (8, .int a.2.2)] [FH a.1 a.2.1]
def Dx (a : Kj) : Prop := a.2.1.length ≤ aI ∧ 0 ≤ a.2.2 ∧ a.2.2 ≤ a.2.1.length ∧ a.2.1.all gy = true
def zh (a : Kj) : Out (Exit × S) := .ax ((a.2.1.drop a.2.2.toNat).all jm) (.one (.exit 0, sp 19 [] [FH a.1 a.2.1])) (.all (fun j : Int => 0 ≤ j) fun j => .one (.ret, sp 19 [(4, .int j)] [FH a.1 a.2.1]))
theorem KA {rs : List AV} (h : rs.all gy = true) {k : Nat} (hk : k < rs.length) : (ah (ad (ad (nth rs k) 0) 1)).length ≤ aI ∧ (ah (ad (nth rs k) 1)).length ≤ aI := by
 have := List.all_eq_true.1 h (nth rs k) (by rw [bx _ _ hk]; exact List.getElem_mem hk)
 simpa [gy] using this
theorem Rk (κ : Kp) : bg (ua κ) 12 NW 2 (aK 1 LN Dx zh) := by
 refine aO (fun a => a.2.1.length - a.2.2.toNat) ?_
 rintro ⟨ds, rs, i⟩ K ⟨h1, h2, h3, h4⟩ ho
 simp only at h1 h2 h3 h4
 rw [show (ua κ).P = Pr κ from rfl]
 refine Eq.mpr (S2 κ ds rs i _ _ K) ?_
 simp only [aI] at h1
 simp only [zh, Out.run, af] at ho
 simp only [af, aq, aa0, aa2, aa1, Bool.not_eq_true', ab2]
 refine ⟨fun hi => ⟨⟨h2, hi⟩, KA h4 (by omega), ?_⟩, fun hi => ?_⟩
 ·have hk : i.toNat < rs.length := by omega
  rw [ab1 hk, ← bx rs i.toNat hk, ac1] at ho
  refine ⟨fun e => ho.2 (by rw [show jm (nth rs i.toNat) = false from e]; rfl) i h2, fun e => ?_⟩
  rw [show jm (nth rs i.toNat) = true from e, ac0] at ho
  rw [aU (n := i + 1) (by omega) (by omega)]
  refine ⟨_, ?_, (ds, rs, i + 1), rfl, ⟨by simpa [aI] using h1, by simp only; omega, by simp only; omega, h4⟩, rfl, ?_⟩
  ·simp only; omega
  ·simp only [zh, Out.run, af, show (i + 1).toNat = i.toNat + 1 by omega]
   exact ho
 ·rw [aa8 (by omega)] at ho
  exact ho.1 rfl
noncomputable def GC (κ : Kp) : Env := (ua κ).aj NW 2 (aK 1 LN Dx zh)
theorem RI (κ : Kp) : aw (GC κ) := (RJ κ).aj (Pd κ) (Rk κ)
theorem PG (κ : Kp) : ai (GC κ) := (Pd κ).aj aE
theorem yRt (κ : Kp) (ds rs : List AV) (K : AV → List Dn.Obj → Prop) : (a9 (GC κ) 12 59 [.agg [.ae 62 ds, .ae 41 rs]] [] K) = (
 letI z1 := Pg.toProgram (Env.P (ua κ))
 letI z2 := (0 : Int)
 letI z3 := K (AV.bool false) []
 letI z4 := Pg.toProgram (Env.P (KN κ))
 ax (decide ((↑(ds.length) : Int) > (60 : Int))) z3 (ax (decide ((↑(rs.length) : Int) > (200 : Int))) z3 (ag z4 GW 2 = ag z4 GW 2 ∧ ∃ (a : Kj), sp 19 [(0, AV.ae
 62 ds), (1, AV.dq 89 []), (7, AV.int (↑(ds.length) : Int)), (8, AV.int 0)] [Obj.box 25 (AV.agg [AV.ae 62 ds, AV.ae 41 rs])] = sp 19 [(0, AV.ae 62 a.1), (1,
 AV.dq 89 []), (7, AV.int (↑(a.1.length) : Int)), (8, AV.int (a.2.2))] [Obj.box 25 (AV.agg [AV.ae 62 a.1, AV.ae 41 a.2.1])] ∧ (a.1.length ≤ 9223372036854775807 ∧
 z2 ≤ a.2.2 ∧ a.2.2 ≤ (↑(a.1.length) : Int)) ∧ ax (List.all (List.drop (Int.toNat (a.2.2)) a.1) sG) (ag z1 NW 2 = ag z1 NW 2 ∧ ∃ (a_1 : Kj), sp 19 [(0, AV.ae 41
 a.2.1), (1, AV.dq 92 []), (7, AV.int (↑(a.2.1.length) : Int)), (8, AV.int 0)] [Obj.box 25 (AV.agg [AV.ae 62 a.1, AV.ae 41 a.2.1])] = sp 19 [(0, AV.ae 41
 a_1.2.1), (1, AV.dq 92 []), (7, AV.int (↑(a_1.2.1.length) : Int)), (8, AV.int (a_1.2.2))] [Obj.box 25 (AV.agg [AV.ae 62 a_1.1, AV.ae 41 a_1.2.1])] ∧
 (a_1.2.1.length ≤ 9223372036854775807 ∧ z2 ≤ a_1.2.2 ∧ a_1.2.2 ≤ (↑(a_1.2.1.length) : Int) ∧ List.all a_1.2.1 gy = true) ∧ ax (List.all (List.drop (Int.toNat
 (a_1.2.2)) a_1.2.1) jm) (K (AV.bool true) []) (∀ (y : Int), z2 ≤ y → K (AV.lit (Value.bool !decide (y ≥ z2))) [])) (∀ (y : Int), z2 ≤ y → ax (!decide (y ≥ z2))
 (ag z1 NW 2 = ag z1 NW 2 ∧ ∃ (a_2 : Kj), sp 19 [(0, AV.ae 41 a.2.1), (1, AV.dq 92 []), (7, AV.int (↑(a.2.1.length) : Int)), (8, AV.int 0)] [Obj.box 25 (AV.agg
 [AV.ae 62 a.1, AV.ae 41 a.2.1])] = sp 19 [(0, AV.ae 41 a_2.2.1), (1, AV.dq 92 []), (7, AV.int (↑(a_2.2.1.length) : Int)), (8, AV.int (a_2.2.2))] [Obj.box 25
 (AV.agg [AV.ae 62 a_2.1, AV.ae 41 a_2.2.1])] ∧ (a_2.2.1.length ≤ 9223372036854775807 ∧ z2 ≤ a_2.2.2 ∧ a_2.2.2 ≤ (↑(a_2.2.1.length) : Int) ∧ List.all a_2.2.1 gy
 = true) ∧ ax (List.all (List.drop (Int.toNat (a_2.2.2)) a_2.2.1) jm) (K (AV.bool true) []) (∀ (y : Int), z2 ≤ y → K (AV.lit (Value.bool !decide (y ≥ z2))) []))
 z3)))) := by kernel_rfl
def dS (ds rs : List AV) : Bool := decide (ds.length ≤ 60) && decide (rs.length ≤ 200) && ds.all sG && rs.all jm
def Rn : List AV → Option (Bool × AV)
 | [.agg [.ae 62 ds, .ae 41 rs]] => some (rs.all gy, .bool (dS ds rs))
 | _ => none
theorem VJ (κ : Kp) : bM (GC κ) 12 59 Rn := by
 intro args x hh
 unfold Rn at hh
 split at hh
 ·rename_i ds rs
  simp only [aa3, aa9] at hh
  obtain ⟨h1, rfl⟩ := hh
  refine ⟨_, rfl, rfl, ?_⟩
  refine Eq.mpr (yRt κ ds rs _) ?_
  unfold dS
  rw [af, aa0, aa2]
  refine ⟨fun e => cO (by rw [aa4 (show ¬ ds.length ≤ 60 by omega)]; rfl), fun e => ?_⟩
  rw [af, aa0, aa2]
  refine ⟨fun e2 => cO (by rw [aa4 (show ¬ rs.length ≤ 200 by omega)]; simp), fun e2 => ?_⟩
  rw [aa6 (show ds.length ≤ 60 by omega), aa6 (show rs.length ≤ 200 by omega)]
  refine ⟨rfl, (ds, rs, 0), rfl, ⟨by simp only [aI]; omega, by simp only; omega, by simp only; omega⟩, ?_⟩
  simp only [ab8, ab0, ac0]
  rw [af]
  refine ⟨fun e3 => ⟨trivial, (ds, rs, 0), rfl, ⟨by simp only [aI]; omega, by simp only; omega, by simp only; omega, h1⟩, ?_⟩, fun e3 y hy => ?_⟩
  ·simp only [ab8, ab0]
   rw [af, e3]
   refine ⟨fun e4 => cO (by rw [e4]; rfl), fun e4 y hy => cO ?_⟩
   rw [e4, aa6 (show y ≥ 0 from hy)]; rfl
  ·rw [aa6 (show y ≥ 0 from hy)]
   exact cO (by rw [e3]; rfl)
 ·cases hh
noncomputable def JZ (κ : Kp) : Env := (GC κ).au 59 Rn
theorem VZ (κ : Kp) : aw (JZ κ) := (RI κ).au (PG κ) (VJ κ)
theorem S9 (κ : Kp) : ai (JZ κ) := (PG κ).au
theorem xFi (κ : Kp) (ds : List AV) (s : ByteArray) (i : Int) (I : Nat → S → Prop) (n : Nat) (K : Exit → S → Prop) : (vc (JZ κ) 12 GW none 1 (ag (Pr κ).toProgram GW 2) (sp 19 [(0, .ae 62 ds), (1, .dq 94 [.ptr 0 0 [] 0]), (7, .int ds.length), (8, .int i)] [.box 9 (.lit (.string s))]) (bC (JZ κ) GW 2 1 I n K)) = (
 ax (decide (i < (↑(ds.length) : Int))) (aZ (decide ((0 : Int) ≤ i) && decide (i < (↑(ds.length) : Int))) (ax (ByteArray.toList (toStr (ad (nth ds i.toNat)
 0)) == ByteArray.toList s) (K Exit.ret (sp 19 [(4, AV.int i)] [Obj.box 9 (AV.str s)])) (∃ (m : Nat), m < n ∧ I m (sp 19 [(0, AV.ae 62 ds), (1, AV.dq 94
 [AV.ptr 0 0 [] 0]), (7, AV.int (↑(ds.length) : Int)), (8, AV.int (IntKind.wrap IntKind.i64 (i + (1 : Int))))] [Obj.box 9 (AV.str s)])))) (K (Exit.exit 0) (sp
 19 [] [Obj.box 9 (AV.str s)]))) := by kernel_rfl
def iu (s : ByteArray) : List AV → Int → Int
 | [], _ => -1
 | d :: l, i => bif gC (toStr (ad d 0)) s then i else iu s l (i + 1)
abbrev O1 (a : List AV × ByteArray × Int) : S := sp 19 [(0, .ae 62 a.1), (1, .dq 94 [.ptr 0 0 [] 0]), (7, .int a.1.length), (8, .int a.2.2)] [.box 9 (.lit (.string a.2.1))]
def yL (a : List AV × ByteArray × Int) : Prop := a.1.length ≤ aI ∧ 0 ≤ a.2.2 ∧ a.2.2 ≤ a.1.length
def Ex (a : List AV × ByteArray × Int) : Out (Exit × S) := .ax (decide (0 ≤ iu a.2.1 (a.1.drop a.2.2.toNat) a.2.2)) (.one (.ret, sp 19 [(4, .int (iu a.2.1 (a.1.drop a.2.2.toNat) a.2.2))] [.box 9 (.lit (.string a.2.1))])) (.one (.exit 0, sp 19 [] [.box 9 (.lit (.string a.2.1))]))
theorem YW (κ : Kp) : bg (JZ κ) 12 GW 2 (aK 1 O1 yL Ex) := by
 refine aO (fun a => a.1.length - a.2.2.toNat) ?_
 rintro ⟨ds, s, i⟩ K ⟨h1, h2, h3⟩ ho
 simp only at h1 h2 h3
 rw [show (JZ κ).P = Pr κ from rfl]
 refine Eq.mpr (xFi κ ds s i _ _ K) ?_
 simp only [aI] at h1
 simp only [Ex, Out.run, af] at ho
 simp only [af, aq, aa0, aa2, aa1]
 refine ⟨fun hi => ⟨⟨h2, hi⟩, ?_⟩, fun hi => ?_⟩
 ·have hk : i.toNat < ds.length := by omega
  rw [ab1 hk, ← bx ds i.toNat hk, iu] at ho
  refine ⟨fun e => ?_, fun e => ?_⟩
  ·rw [show gC (toStr (ad (nth ds i.toNat) 0)) s = true from e, aa7] at ho
   exact ho.1 (aa6 h2)
  ·rw [show gC (toStr (ad (nth ds i.toNat) 0)) s = false from e, aa5] at ho
   rw [aU (n := i + 1) (by omega) (by omega)]
   refine ⟨_, ?_, (ds, s, i + 1), rfl, ⟨by simpa [aI] using h1, by simp only; omega, by simp only; omega⟩, rfl, ?_⟩
   ·simp only; omega
   ·simp only [Ex, Out.run, af, show (i + 1).toNat = i.toNat + 1 by omega]
    exact ho
 ·rw [aa8 (by omega)] at ho
  exact ho.2 rfl
noncomputable def O2 (κ : Kp) : Env := (JZ κ).aj GW 2 (aK 1 O1 yL Ex)
theorem Y1 (κ : Kp) : aw (O2 κ) := (VZ κ).aj (S9 κ) (YW κ)
theorem Ti (κ : Kp) : ai (O2 κ) := (S9 κ).aj aE
theorem Yp (κ : Kp) (ds : List AV) (s : ByteArray) (K : AV → List Dn.Obj → Prop) : (a9 (O2 κ) 12 60 [.ae 62 ds, .lit (.string s)] [] K) = (
 letI z1 := Pg.toProgram (Env.P (JZ κ))
 letI z2 := (0 : Int)
 ag z1 GW 2 = ag z1 GW 2 ∧ ∃ (a : List AV × ByteArray × Int), sp 19 [(0, AV.ae 62 ds), (1, AV.dq 94 [AV.ptr 0 0 [] 0]), (7, AV.int (↑(ds.length) : Int)), (8,
 AV.int 0)] [Obj.box 9 (AV.str s)] = sp 19 [(0, AV.ae 62 a.1), (1, AV.dq 94 [AV.ptr 0 0 [] 0]), (7, AV.int (↑(a.1.length) : Int)), (8, AV.int (a.2.2))] [Obj.box
 9 (AV.str a.2.1)] ∧ (a.1.length ≤ 9223372036854775807 ∧ z2 ≤ a.2.2 ∧ a.2.2 ≤ (↑(a.1.length) : Int)) ∧ ax (decide (z2 ≤ iu a.2.1 (List.drop (Int.toNat (a.2.2))
 a.1) (a.2.2))) (K (AV.bR [AV.int (if z2 > iu a.2.1 (List.drop (Int.toNat (a.2.2)) a.1) (a.2.2) then z2 else iu a.2.1 (List.drop (Int.toNat (a.2.2)) a.1)
 (a.2.2)), AV.bool (decide (iu a.2.1 (List.drop (Int.toNat (a.2.2)) a.1) (a.2.2) ≥ z2))]) []) (K (AV.bR [AV.int 0, AV.bool false]) [])) := by kernel_rfl
def jw (s : ByteArray) (ds : List AV) : Int := bif decide (0 ≤ iu s ds 0) then iu s ds 0 else 0
def v8 (s : ByteArray) (ds : List AV) : Bool := decide (0 ≤ iu s ds 0)
def Fg (a : List AV × ByteArray) : List AV × List Dn.Obj := ([.ae 62 a.1, .lit (.string a.2)], [])
def jc (a : List AV × ByteArray) : Prop := a.1.length ≤ aI
def rD (a : List AV × ByteArray) : Out (AV × List Dn.Obj) := .one (.bR [.int (jw a.2 a.1), .bool (v8 a.2 a.1)], [])
theorem Xj (κ : Kp) : bJ (O2 κ) 12 60 (a8 Fg jc rD) := by
 refine bh ?_
 rintro ⟨ds, s⟩ K h1 ho
 refine Eq.mpr (Yp κ ds s K) ?_
 simp only [rD, Out.run, jw, v8] at ho
 refine ⟨rfl, (ds, s, 0), rfl, ⟨h1, by simp only; omega, by simp only; omega⟩, ?_⟩
 simp only [ab8, ab0]
 rw [af]
 refine ⟨fun e => ?_, fun e => ?_⟩
 ·rw [e, aa7] at ho
  rw [aa0] at e
  rw [if_neg (by omega), aa6 (show iu s ds 0 ≥ 0 from e)]
  exact ho
 ·rw [e, aa5] at ho
  exact ho
noncomputable def Qd (κ : Kp) : Env := (O2 κ).ar 60 (a8 Fg jc rD)
theorem eFi (κ : Kp) : aw (Qd κ) := (Y1 κ).ar (Ti κ) (Xj κ)
theorem TI (κ : Kp) : ai (Qd κ) := (Ti κ).ar aJ
structure iO where
 ds : List AV
 es : List (Value × AV)
 more : Bool
abbrev bG (a : iO) : List Dn.Obj := [.box 133 (.agg [.ae 62 a.ds, .mp 1, .bool a.more]), .map 9 3 a.es]
abbrev BK : AV := .ptr 0 0 [] 0
theorem yOf (κ : Kp) (a : iO) (t : AT) (K : AV → List Dn.Obj → Prop) : (a9 (Qd κ) 12 157 [BK, cI t] (bG a) K) = (
 ax (t.op == (1 : Int)) (K (AV.int (toInt (eg a.es (Value.string t.s) (AV.int 0)))) (bG a)) (ax (t.op == (3 : Int)) (K (AV.int 2) (bG a)) (ax (t.op == (4 :
 Int)) (K (AV.int 0) (bG a)) (K (AV.int 1) (bG a))))) := by kernel_rfl
def QH (x : iO × AT) : List AV × List Dn.Obj := ([BK, cI x.2], bG x.1)
def IS (_ : iO × AT) : Prop := True
def Jr (x : iO × AT) : Out (AV × List Dn.Obj) := .one (.int (a5 getM x.2.tm x.1.es), bG x.1)
theorem Zq (κ : Kp) : bJ (Qd κ) 12 157 (a8 QH IS Jr) := by
 refine bh ?_
 rintro ⟨a, t⟩ K _ ho
 refine Eq.mpr (yOf κ a t K) ?_
 simp only [Jr, Out.run] at ho
 have e : a5 getM t.tm a.es = bif decide (t.op = 1) then getM a.es t.s else bif decide (t.op = 3) then 2 else bif decide (t.op = 4) then 0 else 1 := rfl
 rw [e] at ho
 simp only [Fo]
 cases h1 : decide (t.op = 1) with
 | true => rw [h1] at ho; exact ho
 | false =>
  rw [h1] at ho
  cases h3 : decide (t.op = 3) with
  | true => rw [h3] at ho; exact ho
  | false =>
   rw [h3] at ho
   cases h4 : decide (t.op = 4) with
   | true => rw [h4] at ho; exact ho
   | false => rw [h4] at ho; exact ho
noncomputable def QY (κ : Kp) : Env := (Qd κ).ar 157 (a8 QH IS Jr)
theorem UX (κ : Kp) : aw (QY κ) := (eFi κ).ar (TI κ) (Zq κ)
theorem TV (κ : Kp) : ai (QY κ) := (TI κ).ar aJ
structure oz where
 a : iO
 t : AT
 k : Int
def aP (a : iO) (t : AT) (k : Int) : Bool × (List (Value × AV) × Bool) := t.tm.want getM fh k (a.es, a.more)
def dA (a : iO) (r : List (Value × AV) × Bool) : iO := ⟨a.ds, r.1, r.2⟩
def gL (b : Bool) : Int := bif b then 53 else 0
def MF (x : oz) : List AV × List Dn.Obj := ([BK, cI x.t, .int x.k], bG x.a)
def MW (n : Nat) (x : oz) : Prop := x.t.tm.gF = n ∧ n ≤ 100000
noncomputable def EX (κ : Kp) (x : oz) : Out (AV × List Dn.Obj) := .one (.lit (a6 κ (gL (aP x.a x.t x.k).1)), bG (dA x.a (aP x.a x.t x.k).2))
noncomputable def GF (κ : Kp) (n : Nat) : ez := a8 MF (MW n) (EX κ)
noncomputable def Kq (κ : Kp) (r : Nat) : Env := (QY κ).ar 156 fun args st K => ∃ m, m < r ∧ GF κ m args st K
theorem Wk (κ : Kp) (r : Nat) (a : iO) (t : AT) (k : Int) (i : Int) (I : Nat → S → Prop) (n : Nat) (K : Exit → S → Prop) : (vc (Kq κ r) 12 156 none 2 (ag (Pr κ).toProgram 156 2) (sp 56 [(0, BK), (2, .int k), (4, .ptr 2 0 [] 0), (12, .ae 52 t.l), (13, .int t.l.length), (14, .int i)] (bG a ++ [.box 52 (cI t)])) (bC (Kq κ r) 156 2 2 I n K)) = (
 letI z1 := nth t.l i.toNat
 ax (decide (i < (↑(t.l.length) : Int))) (aZ (decide ((0 : Int) ≤ i) && decide (i < (↑(t.l.length) : Int))) (∃ (m : Nat), m < r ∧ ∃ (a_1 : oz), ([AV.ptr 0 0 []
 0, AV.agg [AV.int (toInt (ad z1 0)), AV.str (toStr (ad z1 1)), AV.int (toInt (ad z1 2)), AV.ae 52 (ah (ad z1 3))], AV.int 1], (bG a)) = ([AV.ptr 0 0 [] 0,
 AV.agg [AV.int (a_1.t.op), AV.str (a_1.t.s), AV.int (a_1.t.n), AV.ae 52 (a_1.t.l)], AV.int a_1.k], [Obj.box 133 (AV.agg [AV.ae 62 (a_1.a.ds), AV.mp 1, AV.bool
 (a_1.a.more)]), Dn.Obj.map 9 3 (a_1.a.es)]) ∧ (Tm.gF (AT.tm a_1.t) = m ∧ m ≤ 100000) ∧ aZ (aC (a6 κ (gL (Prod.fst (aP a_1.a a_1.t a_1.k))))) (ax (!bF (a6 κ (gL
 (Prod.fst (aP a_1.a a_1.t a_1.k))))) (K Exit.ret (sp 56 [(6, AV.lit (a6 κ (gL (Prod.fst (aP a_1.a a_1.t a_1.k)))))] (bG (dA a_1.a (Prod.snd (aP a_1.a a_1.t
 a_1.k)))))) (∃ (m : Nat), m < n ∧ I m (sp 56 [(0, AV.ptr 0 0 [] 0), (2, AV.int k), (4, AV.ptr 2 0 [] 0), (12, AV.ae 52 t.l), (13, AV.int (↑(t.l.length) : Int)),
 (14, AV.int (IntKind.wrap IntKind.i64 (i + (1 : Int))))] [Obj.box 133 (AV.agg [AV.ae 62 (iO.ds (dA a_1.a (Prod.snd (aP a_1.a a_1.t a_1.k)))), AV.mp 1, AV.bool
 (iO.more (dA a_1.a (Prod.snd (aP a_1.a a_1.t a_1.k))))]), Dn.Obj.map 9 3 (iO.es (dA a_1.a (Prod.snd (aP a_1.a a_1.t a_1.k)))), Obj.box 52 (cI t)]))))) (K
 (Exit.exit 0) (sp 56 [(0, AV.ptr 0 0 [] 0), (2, AV.int k), (4, AV.ptr 2 0 [] 0)] [Obj.box 133 (AV.agg [AV.ae 62 a.ds, AV.mp 1, AV.bool a.more]), Dn.Obj.map 9 3
 a.es, Obj.box 52 (cI t)]))) := by kernel_rfl
abbrev Qz := oz × Int
abbrev Qq (x : Qz) : S := sp 56 [(0, BK), (2, .int x.1.k), (4, .ptr 2 0 [] 0), (12, .ae 52 x.1.t.l), (13, .int x.1.t.l.length), (14, .int x.2)] (bG x.1.a ++ [.box 52 (cI x.1.t)])
def HO (r : Nat) (x : Qz) : Prop := x.1.t.l.length ≤ aI ∧ 0 ≤ x.2 ∧ x.2 ≤ x.1.t.l.length ∧ aH (aa (x.1.t.l.drop x.2.toNat)) < r ∧ aH (aa (x.1.t.l.drop x.2.toNat)) ≤ 100000
def fG (x : Qz) : Bool × (List (Value × AV) × Bool) := dJ getM fh (aa (x.1.t.l.drop x.2.toNat)) (x.1.a.es, x.1.a.more)
noncomputable def Eo (κ : Kp) (x : Qz) : Out (Exit × S) := .ax (fG x).1 (.one (.ret, sp 56 [(6, .lit (a6 κ 53))] (bG (dA x.1.a (fG x).2))))
 (.one (.exit 0, sp 56 [(0, BK), (2, .int x.1.k), (4, .ptr 2 0 [] 0)] (bG (dA x.1.a (fG x).2) ++ [.box 52 (cI x.1.t)])))
theorem yc (b : Bool) : decide (gL b = 0) = !b := by cases b <;> rfl
theorem XO (κ : Kp) (r : Nat) : bg (Kq κ r) 12 156 2 (aK 2 Qq (HO r) (Eo κ)) := by
 refine aO (fun x => x.1.t.l.length - x.2.toNat) ?_
 rintro ⟨⟨a, t, k⟩, i⟩ K ⟨h1, h2, h3, h4, h5⟩ ho
 simp only at h1 h2 h3 h4 h5
 rw [show (Kq κ r).P = Pr κ from rfl]
 refine Eq.mpr (Wk κ r a t k i _ _ K) ?_
 simp only [aI] at h1
 simp only [Eo, Out.run, af] at ho
 rw [af, aa0, aa2]
 refine ⟨fun hi => ?_, fun hi => ?_⟩
 ·have hk : i.toNat < t.l.length := by omega
  have e := cy t.l i.toNat hk
  have hw : fG (⟨a, t, k⟩, i) = bif (aP a (kp (nth t.l i.toNat)) 1).1 then aP a (kp (nth t.l i.toNat)) 1 else fG (⟨dA a (aP a (kp (nth t.l i.toNat)) 1).2, t, k⟩, i + 1) := by
   unfold fG aP
   simp only [show (i + 1).toNat = i.toNat + 1 by omega]
   rw [e, dJ, fm]; rfl
  rw [e, aH] at h4 h5
  rw [hw] at ho
  rw [aq, aa1, aa0, aa0]
  refine ⟨⟨h2, hi⟩, (bI (nth t.l i.toNat)).gF, by omega, ⟨a, kp (nth t.l i.toNat), 1⟩, rfl, ⟨by rw [fm], by omega⟩, ?_⟩
  rw [aq]
  refine ⟨cu _ _, ?_⟩
  rw [iX, yc, Bool.not_not, af]
  refine ⟨fun e1 => ?_, fun e1 => ?_⟩
  ·simp only [e1, aa7] at ho ⊢
   exact ho.1 trivial
  ·simp only [e1, aa5] at ho
   rw [aU (n := i + 1) (by omega) (by omega)]
   refine ⟨_, ?_, (⟨dA a (aP a (kp (nth t.l i.toNat)) 1).2, t, k⟩, i + 1), rfl, ⟨by simpa [aI] using h1, by simp only; omega, by simp only; omega, ?_, ?_⟩, rfl, ?_⟩
   ·simp only; omega
   ·simp only [show (i + 1).toNat = i.toNat + 1 by omega]; omega
   ·simp only [show (i + 1).toNat = i.toNat + 1 by omega]; omega
   ·simp only [Eo, Out.run, af]
    exact ho
 ·have hw : fG (⟨a, t, k⟩, i) = (false, (a.es, a.more)) := by
   unfold fG
   simp only
   rw [aa8 (by omega)]; rfl
  rw [hw] at ho
  exact ho.2 rfl
noncomputable def NG (κ : Kp) (r : Nat) : Env := (Kq κ r).aj 156 2 (aK 2 Qq (HO r) (Eo κ))
theorem X6 (κ : Kp) (r : Nat) (a : iO) (t : AT) (k : Int) (K : AV → List Dn.Obj → Prop) : (a9 (NG κ r) 12 156 [BK, cI t, .int k] (bG a) K) = (
 letI z1 := AV.lit Value.nilIface
 letI z2 := Pg.toProgram (Env.P (Kq κ r))
 ag z2 156 2 = ag z2 156 2 ∧ ∃ (a_1 : Qz), sp 56 [(0, AV.ptr 0 0 [] 0), (2, AV.int k), (4, AV.ptr 2 0 [] 0), (12, AV.ae 52 t.l), (13, AV.int (↑(t.l.length) :
 Int)), (14, AV.int 0)] [Obj.box 133 (AV.agg [AV.ae 62 a.ds, AV.mp 1, AV.bool a.more]), Dn.Obj.map 9 3 a.es, Obj.box 52 (cI t)] = sp 56 [(0, AV.ptr 0 0 [] 0),
 (2, AV.int a_1.1.k), (4, AV.ptr 2 0 [] 0), (12, AV.ae 52 (a_1.1.t.l)), (13, AV.int (↑(List.length (a_1.1.t.l)) : Int)), (14, AV.int a_1.2)] [Obj.box 133 (AV.agg
 [AV.ae 62 (a_1.1.a.ds), AV.mp 1, AV.bool (a_1.1.a.more)]), Dn.Obj.map 9 3 (a_1.1.a.es), Obj.box 52 (AV.agg [AV.int (a_1.1.t.op), AV.str (a_1.1.t.s), AV.int
 (a_1.1.t.n), AV.ae 52 (a_1.1.t.l)])] ∧ (List.length (a_1.1.t.l) ≤ 9223372036854775807 ∧ (0 : Int) ≤ a_1.2 ∧ a_1.2 ≤ (↑(List.length (a_1.1.t.l)) : Int) ∧ aH (aa
 (List.drop a_1.2.toNat (a_1.1.t.l))) < r ∧ aH (aa (List.drop a_1.2.toNat (a_1.1.t.l))) ≤ 100000) ∧ ax (Prod.fst (fG a_1)) (K (AV.lit (Value.iface 189
 (Value.pointer (some (LQ κ (53 : Int)))))) (bG (dA a_1.1.a (Prod.snd (fG a_1))))) (∃ (a : iO × AT), ([AV.ptr 0 0 [] 0, AV.agg [AV.int (a_1.1.t.op), AV.str
 (a_1.1.t.s), AV.int (a_1.1.t.n), AV.ae 52 (a_1.1.t.l)]], (bG (dA a_1.1.a (Prod.snd (fG a_1))))) = ([AV.ptr 0 0 [] 0, cI a.2], (bG a.1)) ∧ True ∧ ax (a_1.1.k ==
 (0 : Int)) (K z1 (bG a.1)) (ax (a_1.1.t.op == (4 : Int)) (K z1 (bG a.1)) (ax (a5 getM (AT.tm a.2) a.1.es == (0 : Int)) (K z1 [Obj.box 133 (AV.agg [AV.ae 62
 a.1.ds, AV.mp 1, AV.bool true]), Dn.Obj.map 9 3 (ft (ft a.1.es (Value.string (a_1.1.t.s)) (AV.int (toInt (eg a.1.es (Value.string (a_1.1.t.s)) (AV.int 0)))))
 (Value.string (a_1.1.t.s)) (AV.int a_1.1.k))]) (ax (a5 getM (AT.tm a.2) a.1.es != a_1.1.k) (K (AV.lit (Value.iface 189 (Value.pointer (some (Kp.type κ))))) (bG
 a.1)) (K z1 (bG a.1))))))) := by kernel_rfl
theorem Fb (s : ByteArray) (v w : AV) : ∀ es : List (Value × AV), ft (ft es (.string s) v) (.string s) w = ft es (.string s) w
 | [] => by simp [ft, dm]
 | (k', a') :: es => by
  rw [ft, ft]
  cases h : dm (.string s) k' with
  | true => simp [ft, dm]
  | false => simp only [aa5, ft, h, Fb s v w es]
theorem Fl (κ : Kp) (n : Nat) : (GF κ n).ot := aJ
theorem Vm (κ : Kp) (r : Nat) (hp : ∀ args st K, (∃ m, m < r ∧ GF κ m args st K) → dz (Pr κ) 156 args st K) : aw (NG κ r) ∧ ai (NG κ r) ∧ (NG κ r).P = Pr κ :=
 have h : aw (Kq κ r) := (UX κ).iN hp
 have hm : ai (Kq κ r) := (TV κ).ar (fun _ _ _ _ hK ⟨m, h1, h2⟩ => ⟨m, h1, Fl κ m _ _ _ _ hK h2⟩)
 ⟨h.aj hm (XO κ r), hm.aj aE, rfl⟩
theorem Xd (κ : Kp) (r : Nat) : bJ (NG κ r) 12 156 (GF κ r) := by
 refine bh ?_
 rintro ⟨a, t, k⟩ K ⟨h1, h2⟩ ho
 refine Eq.mpr (X6 κ r a t k K) ?_
 simp only [EX, Out.run] at ho
 have e1 : t.tm.gF = 1 + aH (aa t.l) := rfl
 have hl := dh (aa t.l)
 rw [cL] at hl
 simp only at h1
 refine ⟨rfl, (⟨a, t, k⟩, 0), rfl, ⟨by simp only [aI]; omega, by simp only; omega, by simp only; omega, by simp only [ab8, ab0]; omega, by simp only [ab8, ab0]; omega⟩, ?_⟩
 have hw : aP a t k = bif (fG (⟨a, t, k⟩, 0)).1 then fG (⟨a, t, k⟩, 0) else bif decide (k = 0) || decide (t.op = 4) then (false, (fG (⟨a, t, k⟩, 0)).2)
   else bif decide (a5 getM t.tm (fG (⟨a, t, k⟩, 0)).2.1 = 0) then (false, (fh (fG (⟨a, t, k⟩, 0)).2.1 t.s k, true)) else (!decide (a5 getM t.tm (fG (⟨a, t, k⟩, 0)).2.1 = k), (fG (⟨a, t, k⟩, 0)).2) := by
  unfold aP fG
  rw [AT.tm, Tm.want]; rfl
 rw [hw] at ho
 simp only [Fo, sD]
 cases hd : (fG (⟨a, t, k⟩, 0)).1 with
 | true =>
  rw [hd, aa7, hd] at ho
  exact ho
 | false =>
  rw [hd, aa5] at ho
  refine ⟨(dA a (fG (⟨a, t, k⟩, 0)).2, t), rfl, trivial, ?_⟩
  cases hk : decide (k = 0) with
  | true => rw [hk] at ho; exact ho
  | false =>
   rw [hk] at ho
   cases h4 : decide (t.op = 4) with
   | true => rw [h4] at ho; exact ho
   | false =>
    rw [h4] at ho
    rw [show (false || false) = false from rfl, aa5] at ho
    have ht : a5 getM t.tm (dA a (fG (⟨a, t, k⟩, 0)).2).es = a5 getM t.tm (fG (⟨a, t, k⟩, 0)).2.1 := rfl
    simp only [ht]
    cases h0 : decide (a5 getM t.tm (fG (⟨a, t, k⟩, 0)).2.1 = 0) with
    | true =>
     rw [h0, aa7] at ho
     simp only [ax, Fb]
     exact ho
    | false =>
     rw [h0, aa5] at ho
     cases hq : decide (a5 getM t.tm (fG (⟨a, t, k⟩, 0)).2.1 = k) with
     | true => rw [hq] at ho; exact ho
     | false => rw [hq] at ho; exact ho
def c8 (x : oz) : Prop := x.t.tm.gF ≤ 100000
theorem qWt (κ : Kp) : ∀ args st K, a8 MF c8 (EX κ) args st K → dz (Pr κ) 156 args st K := by
 rintro args st K ⟨a, h1, h2, h3⟩
 exact aw.qH (GF κ) (NG κ) (Vm κ) (Xd κ) a.t.tm.gF args st K ⟨a, h1, ⟨rfl, h2⟩, h3⟩
noncomputable def Ks (κ : Kp) : Env := (QY κ).ar 156 (a8 MF c8 (EX κ))
theorem XH (κ : Kp) : aw (Ks κ) := (UX κ).iN (qWt κ)
theorem U6 (κ : Kp) : ai (Ks κ) := (TV κ).ar aJ
end Go.Proofs.YtdpmikfheebicaaGreatDoor
