import Derived.Test.YtdpmikfheebicaaGreatDoorDqM1
namespace Go.Rl
open Go Go.Dn
structure Dc where
 rel : ByteArray
 types : List Int
def iO (s : ByteArray) : List Dc → Option Nat
 | [] => none
 | d :: l => bif kq d.rel s then some 0 else (iO s l).map (· + 1)
def b6 (ds : List Dc) (s : ByteArray) : List Int := match iO s ds with | some i => (ds.getD i ⟨ByteArray.empty, []⟩).types | none => []
def known (ds : List Dc) (a : At) : Int := match iO a.rel ds with | none => 51 | some _ => bif decide ((b6 ds a.rel).length = a.l.length) then 0 else 52
def dj (l : Lt) : Bool := decide (l.op < 3) || decide (6 < l.op)
def gr (ds : List Dc) : List Lt → Int
 | [] => 0
 | l :: b => bif dj l && !decide (known ds l.a = 0) then known ds l.a else gr ds b
def iE (ds : List Dc) (r : Rl) : Int := bif decide (known ds r.head = 0) then gr ds r.body else known ds r.head
section
variable {σ : Type} (get : σ → ByteArray → Int) (set : σ → ByteArray → Int → σ)
def bp (t : Tm) (st : σ) : Int := bif decide (t.op = 1) then get st t.s else bif decide (t.op = 3) then 2 else bif decide (t.op = 4) then 0 else 1
mutual
def Tm.cE : Tm → Int → σ → Bool × σ
 | .mk op s _ l, w, st => bif decide (op = 1) then (bif decide (w = 0) || !decide (get st s = 0) then (false, st) else (true, set st s w)) else dn l st
def dn : List Tm → σ → Bool × σ
 | [], st => (false, st)
 | t :: l, st => ((Tm.cE t 1 st).1 || (dn l (Tm.cE t 1 st).2).1, (dn l (Tm.cE t 1 st).2).2)
end
mutual
def Tm.want : Tm → Int → σ × Bool → Bool × (σ × Bool)
 | .mk op s n l, k, x =>
  bif (gu l x).1 then gu l x
  else bif decide (k = 0) || decide (op = 4) then (false, (gu l x).2)
  else bif decide (bp get (.mk op s n l) (gu l x).2.1 = 0) then (false, (set (gu l x).2.1 s k, true))
  else (!decide (bp get (.mk op s n l) (gu l x).2.1 = k), (gu l x).2)
def gu : List Tm → σ × Bool → Bool × (σ × Bool)
 | [], x => (false, x)
 | t :: l, x => bif (Tm.want t 1 x).1 then Tm.want t 1 x else gu l (Tm.want t 1 x).2
end
def bV : List Int → List Tm → σ → Bool × σ
 | w :: ws, t :: l, st => ((t.cE get set w st).1 || (bV ws l (t.cE get set w st).2).1, (bV ws l (t.cE get set w st).2).2)
 | _, _, st => (false, st)
def gk : List Int → List Tm → σ × Bool → Bool × (σ × Bool)
 | w :: ws, t :: l, x => bif (t.want get set w x).1 then t.want get set w x else gk ws l (t.want get set w x).2
 | _, _, x => (false, x)
def eT (op : Int) : Bool := decide (3 ≤ op) && decide (op ≤ 6)
def jE (l : Lt) (st : σ) : Int := bif decide (bp get l.y st > bp get l.x st) then bp get l.y st else bp get l.x st
def dD (ds : List Dc) (l : Lt) (st : σ) : Bool × σ :=
 bif eT l.op then
  ((l.x.cE get set (jE get l st) st).1 || (l.y.cE get set (jE get l st) (l.x.cE get set (jE get l st) st).2).1, (l.y.cE get set (jE get l st) (l.x.cE get set (jE get l st) st).2).2)
 else bif decide (l.op = 1) || decide (l.op = 2) then bV get set (b6 ds l.a.rel) l.a.l st
 else ((bV get set (b6 ds l.a.rel) l.a.l st).1 || (l.x.cE get set 1 (bV get set (b6 ds l.a.rel) l.a.l st).2).1 || (l.y.cE get set 1 (l.x.cE get set 1 (bV get set (b6 ds l.a.rel) l.a.l st).2).2).1,
  (l.y.cE get set 1 (l.x.cE get set 1 (bV get set (b6 ds l.a.rel) l.a.l st).2).2).2)
def dJ (ds : List Dc) : List Lt → σ → Bool × σ
 | [], st => (false, st)
 | l :: b, st => ((dD get set ds l st).1 || (dJ ds b (dD get set ds l st).2).1, (dJ ds b (dD get set ds l st).2).2)
def iD (ds : List Dc) (r : Rl) (st : σ) : Bool × σ :=
 ((bV get set (b6 ds r.head.rel) r.head.l st).1 || (dJ get set ds r.body (bV get set (b6 ds r.head.rel) r.head.l st).2).1, (dJ get set ds r.body (bV get set (b6 ds r.head.rel) r.head.l st).2).2)
def dt (ds : List Dc) (a : At) (x : σ × Bool) : Int × (σ × Bool) :=
 bif decide (known ds a = 0) then (bif (gk get set (b6 ds a.rel) a.l x).1 then 53 else 0, (gk get set (b6 ds a.rel) a.l x).2) else (known ds a, x)
def js (y : Bool × (σ × Bool)) (f : σ × Bool → Bool × (σ × Bool)) : Int × (σ × Bool) := bif y.1 then (53, y.2) else (bif (f y.2).1 then 53 else 0, (f y.2).2)
def jd (ds : List Dc) (l : Lt) (x : σ × Bool) : Int × (σ × Bool) :=
 bif eT l.op then js (l.x.want get set (jE get l x.1) x) (l.y.want get set (jE get l x.1))
 else bif decide (l.op = 1) || decide (l.op = 2) then dt get set ds l.a x
 else bif !decide ((dt get set ds l.a x).1 = 0) then dt get set ds l.a x
 else bif decide (l.op = 7) then (bif (l.x.want get set 1 (dt get set ds l.a x).2).1 then 53 else 0, (l.x.want get set 1 (dt get set ds l.a x).2).2)
 else js (l.x.want get set 1 (dt get set ds l.a x).2) (l.y.want get set 1)
def ri (e : Int) : Bool := decide (e = 51) || decide (e = 52)
def fL (w e : Int) : Int := bif decide (w = 0) || decide (w = 53) && ri e then e else w
def iN (ds : List Dc) : List Lt → Int × (σ × Bool) → Int × (σ × Bool)
 | [], y => y
 | l :: b, y => bif ri (fL y.1 (jd get set ds l y.2).1) then (fL y.1 (jd get set ds l y.2).1, (jd get set ds l y.2).2)
  else iN ds b (fL y.1 (jd get set ds l y.2).1, (jd get set ds l y.2).2)
def ea (ds : List Dc) (r : Rl) (st : σ) : Int × (σ × Bool) := iN get set ds r.body (dt get set ds r.head (st, false))
def eI (ds : List Dc) (r : Rl) : Nat → σ → Int × σ
 | 0, st => (0, st)
 | n + 1, st => bif decide ((ea get set ds r st).1 = 0) then (bif (ea get set ds r st).2.2 then eI ds r n (ea get set ds r st).2.1 else (0, (ea get set ds r st).2.1)) else ((ea get set ds r st).1, (ea get set ds r st).2.1)
def Ext (st st' : σ) : Prop := ∀ s, get st s ≠ 0 → get st' s = get st s
theorem Ext.refl (st : σ) : Ext get st st := fun _ _ => rfl
variable {get set}
theorem Ext.trans {a b c : σ} (h1 : Ext get a b) (h2 : Ext get b c) : Ext get a c := fun s h => by rw [h2 s (by rw [h1 s h]; exact h), h1 s h]
variable (hgs : ∀ st s k t, get (set st s k) t = bif t == s then k else get st t)
include hgs
mutual
theorem Tm.dq : ∀ (t : Tm) (w : Int) (st : σ), Ext get st (t.cE get set w st).2
 | .mk op s n l, w, st => by
  rw [Tm.cE]
  cases decide (op = 1) with
  | false => exact nR l st
  | true =>
   rw [aa7]
   cases h : (decide (w = 0) || !decide (get st s = 0)) with
   | true => exact Ext.refl _ _
   | false =>
    intro t ht
    rw [aa5, hgs]
    cases e : t == s with
    | false => rfl
    | true =>
     rw [Bool.or_eq_false_iff, ab2, aa0] at h
     rw [eq_of_beq e] at ht
     exact absurd h.2 ht
theorem nR : ∀ (l : List Tm) (st : σ), Ext get st (dn get set l st).2
 | [], st => by have _ := hgs; exact Ext.refl _ _
 | t :: l, st => by rw [dn]; exact (Tm.dq t 1 st).trans (nR l _)
end
theorem fl : ∀ (ws : List Int) (l : List Tm) (st : σ), Ext get st (bV get set ws l st).2
 | w :: ws, t :: l, st => by rw [bV]; exact (Tm.dq hgs t w st).trans (fl ws l _)
 | [], _, st => by rw [bV]; exact Ext.refl _ _; intro _ _ _ _ h; cases h
 | _ :: _, [], st => by rw [bV]; exact Ext.refl _ _; intro _ _ _ _ _ h; cases h
theorem qE (ds : List Dc) (l : Lt) (st : σ) : Ext get st (dD get set ds l st).2 := by
 unfold dD
 cases eT l.op with
 | true => exact (Tm.dq hgs l.x _ st).trans (Tm.dq hgs l.y _ _)
 | false =>
  rw [aa5]
  cases (decide (l.op = 1) || decide (l.op = 2)) with
  | true => exact fl hgs _ _ st
  | false => exact ((fl hgs _ _ st).trans (Tm.dq hgs l.x 1 _)).trans (Tm.dq hgs l.y 1 _)
theorem lp (ds : List Dc) : ∀ (b : List Lt) (st : σ), Ext get st (dJ get set ds b st).2
 | [], st => Ext.refl _ _
 | l :: b, st => by rw [dJ]; exact (qE hgs ds l st).trans (lp ds b _)
theorem A0 (ds : List Dc) (r : Rl) (st : σ) : Ext get st (iD get set ds r st).2 := (fl hgs _ _ st).trans (lp hgs ds _ _)
end
def Ru (o : List ByteArray) (s : ByteArray) : List ByteArray := bif o.contains s then o else o ++ [s]
def N6 (o m : List ByteArray) : List ByteArray := m.foldl Ru o
mutual
def Tm.rv : Tm → List ByteArray
 | .mk op s _ l => bif decide (op = 1) then [s] else Tc l []
def Tc : List Tm → List ByteArray → List ByteArray
 | [], o => o
 | t :: l, o => Tc l (N6 o t.rv)
end
mutual
def Tm.wf : Tm → Bool
 | .mk op _ _ l => bif jz op then decide (l.length = 2) && B4 l else decide (l.length = 0)
def B4 : List Tm → Bool
 | [] => true
 | t :: l => t.wf && B4 l
end
theorem rV : ∀ (h : Nat) (t : Tm), ak h t = true → t.wf = true
 | 0, _, h => by simp [ak] at h
 | h + 1, .mk op s n l, e => by
  rw [qd] at e
  rw [Tm.wf]
  have go : ∀ l : List Tm, lf h l = true → B4 l = true := by
   intro l
   induction l with
   | nil => intro _; rfl
   | cons t l ih =>
    intro e
    simp only [lf, List.all_cons, aa1] at e
    rw [B4, rV h t e.1.2, ih e.2]; rfl
  cases h0 : decide (op = 0) with
  | true => rw [h0, aa7] at e; cases e
  | false =>
   rw [h0, aa5] at e
   cases h2 : jz op with
   | true =>
    rw [h2, aa7] at e
    simp only [aa1] at e
    rw [aa7, e.1.2, go l e.2]; rfl
   | false =>
    rw [h2, aa5, aa1] at e
    exact e.2
theorem DG {t : Tm} (h : Cp t = true) : t.wf = true ∧ t.op = 0 := by
 obtain ⟨op, s, n, l⟩ := t
 simp only [Cp, aa1, aa0] at h
 have h0 : op = 0 := h.1.1
 subst h0
 exact ⟨aa6 h.2, rfl⟩
theorem HF {h : Nat} : ∀ {l : List Tm}, l.all (ak h) = true → B4 l = true
 | [], _ => rfl
 | t :: l, e => by
  simp only [List.all_cons, aa1] at e
  rw [B4, rV h t e.1, HF e.2]; rfl
theorem rq {a : At} (h : a0 a = true) : B4 a.l = true := by
 simp only [a0, aa1] at h
 exact HF h.2
structure Kg (l : Lt) : Prop where
 x : l.x.wf = true
 y : l.y.wf = true
 a : B4 l.a.l = true
 cmp : eT l.op = true → l.x.op ≠ 4 ∧ l.y.op ≠ 4
 one : l.op = 7 → l.y.op = 0
theorem LB {l : Lt} (h : fJ l = true) : Kg l := by
 unfold fJ at h
 have nA : LZ l.a = true → B4 l.a.l = true := fun h => by
  simp only [LZ, aa1, aa0] at h
  rw [List.eq_nil_of_length_eq_zero h.2]; rfl
 have v1 : ∀ {t : Tm}, ak 20 t = true → t.wf = true := fun h => rV _ _ h
 have hc : eT l.op = true → 3 ≤ l.op ∧ l.op ≤ 6 := fun h => by
  simpa [eT] using h
 cases h1 : decide (l.op = 1) || decide (l.op = 2) with
 | true =>
  rw [h1, aa7] at h; simp only [aa1] at h
  simp only [ab5, aa0] at h1
  exact ⟨(DG h.2.1).1, (DG h.2.2).1, rq h.1, fun e => by have := hc e; omega, fun e => by omega⟩
 | false =>
  rw [h1, aa5] at h
  cases h2 : decide (l.op = 3) || decide (l.op = 4) || decide (l.op = 5) || decide (l.op = 6) with
  | true =>
   rw [h2, aa7] at h; simp only [aa1, Bool.not_eq_true', aa2] at h
   simp only [ab5, aa0] at h2
   exact ⟨v1 h.1.2, v1 h.2, nA h.1.1.1.1, fun _ => ⟨h.1.1.1.2, h.1.1.2⟩, fun e => by omega⟩
  | false =>
   rw [h2, aa5] at h
   simp only [Bool.or_eq_false_iff, aa2] at h1 h2
   cases h3 : decide (l.op = 7) with
   | true =>
    rw [h3, aa7] at h; simp only [aa1] at h
    exact ⟨v1 h.2, (DG h.1.2.2).1, rq h.1.1, fun e => by have := hc e; omega, fun _ => (DG h.1.2.2).2⟩
   | false =>
    rw [h3, aa5] at h
    rw [aa2] at h3
    cases h4 : decide (l.op = 8) || decide (l.op = 9) || decide (l.op = 10) with
    | true =>
     rw [h4, aa7] at h; simp only [aa1] at h
     exact ⟨v1 h.1.2, v1 h.2, rq h.1.1.1, fun e => by have := hc e; omega, fun e => absurd e h3⟩
    | false => rw [h4, aa5] at h; cases h
section
variable {σ : Type} {get : σ → ByteArray → Int} {set : σ → ByteArray → Int → σ}
theorem MB {op : Int} (h : op = 1) : jz op = false := by subst h; rfl
mutual
theorem Tm.kU : ∀ (t : Tm) (k : Int) (x : σ × Bool), t.wf = true → (t.want get set k x).1 = false → (t.want get set k x).2 = ((t.cE get set k x.1).2, x.2 || (t.cE get set k x.1).1)
 | .mk op s n l, k, x, hw, h => by
  rw [Tm.wf] at hw
  rw [Tm.want] at h ⊢
  rw [Tm.cE]
  cases he : (gu get set l x).1 with
  | true => rw [he, aa7, he] at h; cases h
  | false =>
   rw [he, aa5] at h
   rw [aa5]
   cases h1 : decide (op = 1) with
   | true =>
    rw [aa0] at h1
    rw [MB h1, aa5, aa0] at hw
    rw [List.eq_nil_of_length_eq_zero hw]
    rw [List.eq_nil_of_length_eq_zero hw] at h
    rw [gu] at h ⊢
    subst h1
    simp only [bp, Tm.op, Tm.s, aa7, decide_true, show decide ((1 : Int) = 4) = false from rfl, Bool.or_false] at h ⊢
    cases hk : decide (k = 0) with
    | true => simp
    | false =>
     rw [hk] at h
     simp only [aa5, Bool.false_or] at h ⊢
     cases hg : decide (get x.1 s = 0) with
     | true => simp
     | false => simp
   | false =>
    rw [aa5]
    have ih : (gu get set l x).2 = ((dn get set l x.1).2, x.2 || (dn get set l x.1).1) := by
     cases h2 : jz op with
     | true =>
      rw [h2, aa7, aa1] at hw
      exact zq l x hw.2 he
     | false =>
      rw [h2, aa5, aa0] at hw
      rw [List.eq_nil_of_length_eq_zero hw]
      simp [gu, dn]
    cases hk : decide (k = 0) || decide (op = 4) with
    | true => exact ih
    | false =>
     rw [hk, aa5] at h
     rw [aa5]
     rw [Bool.or_eq_false_iff] at hk
     have hn : decide (bp get (.mk op s n l) (gu get set l x).2.1 = 0) = false := by
      unfold bp
      rw [show (Tm.mk op s n l).op = op from rfl, h1, aa5, hk.2]
      cases decide (op = 3) <;> rfl
     rw [hn, aa5]
     exact ih
theorem zq : ∀ (l : List Tm) (x : σ × Bool), B4 l = true → (gu get set l x).1 = false → (gu get set l x).2 = ((dn get set l x.1).2, x.2 || (dn get set l x.1).1)
 | [], x, _, _ => by simp [gu, dn]
 | t :: l, x, hw, h => by
  rw [B4, aa1] at hw
  rw [gu] at h ⊢
  rw [dn]
  cases he : (t.want get set 1 x).1 with
  | true => rw [he, aa7, he] at h; cases h
  | false =>
   rw [he, aa5] at h
   rw [aa5]
   have e1 := Tm.kU t 1 x hw.1 he
   have e2 := zq l _ hw.2 h
   rw [e2, e1]
   simp only [Bool.or_assoc]
end
theorem rZ : ∀ (ws : List Int) (l : List Tm) (x : σ × Bool), B4 l = true → (gk get set ws l x).1 = false → (gk get set ws l x).2 = ((bV get set ws l x.1).2, x.2 || (bV get set ws l x.1).1)
 | [], l, x, _, _ => by simp [gk, bV]
 | w :: ws, [], x, _, _ => by simp [gk, bV]
 | w :: ws, t :: l, x, hw, h => by
  rw [B4, aa1] at hw
  rw [gk] at h ⊢
  rw [bV]
  cases he : (t.want get set w x).1 with
  | true => rw [he, aa7, he] at h; cases h
  | false =>
   rw [he, aa5] at h
   rw [aa5]
   have e1 := t.kU w x hw.1 he
   have e2 := rZ ws l _ hw.2 h
   rw [e2, e1]
   simp only [Bool.or_assoc]
theorem Ad {y : Bool × (σ × Bool)} {f : σ × Bool → Bool × (σ × Bool)} (h : (js y f).1 = 0) : y.1 = false ∧ (f y.2).1 = false ∧ (js y f).2 = (f y.2).2 := by
 unfold js at h ⊢
 cases h1 : y.1 with
 | true => rw [h1] at h; cases h
 | false =>
  rw [h1, aa5] at h
  cases h2 : (f y.2).1 with
  | true => rw [h2] at h; cases h
  | false => exact ⟨rfl, rfl, rfl⟩
theorem pR {y : Bool × (σ × Bool)} {f : σ × Bool → Bool × (σ × Bool)} : (js y f).1 = 0 ∨ (js y f).1 = 53 := by
 unfold js
 cases y.1 with
 | true => exact .inr rfl
 | false =>
  rw [aa5]
  cases (f y.2).1
  ·exact .inl rfl
  ·exact .inr rfl
theorem BU {t : Tm} (hw : t.wf = true) (h : t.op = 0) (k : Int) (st : σ) : t.cE get set k st = (false, st) := by
 obtain ⟨op, s, n, l⟩ := t
 have h : op = 0 := h
 subst h
 have : l.length = 0 := by simpa [Tm.wf, jz] using hw
 rw [List.eq_nil_of_length_eq_zero this, Tm.cE, dn]
 rfl
theorem IZ (ds : List Dc) {l : Lt} (hl : Kg l) (hk : dj l = true → known ds l.a = 0) (x : σ × Bool) (h : (jd get set ds l x).1 = 0) : (jd get set ds l x).2 = ((dD get set ds l x.1).2, x.2 || (dD get set ds l x.1).1) := by
 unfold jd at h ⊢
 unfold dD
 cases hc : eT l.op with
 | true =>
  rw [hc, aa7] at h
  rw [aa7, aa7]
  obtain ⟨h1, h2, h3⟩ := Ad h
  have e1 := l.x.kU _ x hl.x h1
  have e2 := l.y.kU _ _ hl.y h2
  rw [h3, e2, e1]
  simp only [Bool.or_assoc]
 | false =>
  rw [hc, aa5] at h
  rw [aa5, aa5]
  have hat : dj l = true := by
   simp only [eT, Bool.and_eq_false_iff, aa2] at hc
   simp only [dj, ab5, aa0]; omega
  have ha : dt get set ds l.a x = (bif (gk get set (b6 ds l.a.rel) l.a.l x).1 then 53 else 0, (gk get set (b6 ds l.a.rel) l.a.l x).2) := by
   unfold dt; rw [hk hat]; rfl
  have ok : (dt get set ds l.a x).1 = 0 → (dt get set ds l.a x).2 = ((bV get set (b6 ds l.a.rel) l.a.l x.1).2, x.2 || (bV get set (b6 ds l.a.rel) l.a.l x.1).1) := fun e => by
   rw [ha] at e ⊢
   cases he : (gk get set (b6 ds l.a.rel) l.a.l x).1 with
   | true => rw [he] at e; cases e
   | false => exact rZ _ _ _ hl.a he
  cases h12 : decide (l.op = 1) || decide (l.op = 2) with
  | true =>
   rw [h12, aa7] at h
   rw [aa7, aa7]
   exact ok h
  | false =>
   rw [h12, aa5] at h
   rw [aa5, aa5]
   cases he : decide ((dt get set ds l.a x).1 = 0) with
   | false => rw [he, Bool.not_false, aa7] at h; rw [h] at he; cases he
   | true =>
    rw [he, Bool.not_true, aa5] at h
    rw [Bool.not_true, aa5]
    rw [aa0] at he
    have e0 := ok he
    cases h7 : decide (l.op = 7) with
    | true =>
     rw [h7, aa7] at h
     rw [aa7]
     have hx : (l.x.want get set 1 (dt get set ds l.a x).2).1 = false := by
      cases e : (l.x.want get set 1 (dt get set ds l.a x).2).1 with
      | true => rw [e] at h; cases h
      | false => rfl
     have e1 := l.x.kU 1 _ hl.x hx
     rw [aa0] at h7
     rw [e1, e0, BU hl.y (hl.one h7)]
     simp only [Bool.or_false, Bool.or_assoc]
    | false =>
     rw [h7, aa5] at h
     rw [aa5]
     obtain ⟨h1, h2, h3⟩ := Ad h
     have e1 := l.x.kU _ _ hl.x h1
     have e2 := l.y.kU _ _ hl.y h2
     rw [h3, e2, e1, e0]
     simp only [Bool.or_assoc]
theorem tI (ds : List Dc) {l : Lt} (hk : dj l = true → known ds l.a = 0) (x : σ × Bool) : (jd get set ds l x).1 = 0 ∨ (jd get set ds l x).1 = 53 := by
 unfold jd
 cases hc : eT l.op with
 | true => rw [aa7]; exact pR
 | false =>
  have hat : dj l = true := by
   simp only [eT, Bool.and_eq_false_iff, aa2] at hc
   simp only [dj, ab5, aa0]; omega
  have ha : (dt get set ds l.a x).1 = 0 ∨ (dt get set ds l.a x).1 = 53 := by
   unfold dt; rw [hk hat]
   simp only [decide_true, aa7]
   cases (gk get set (b6 ds l.a.rel) l.a.l x).1
   ·exact .inl rfl
   ·exact .inr rfl
  rw [aa5]
  cases decide (l.op = 1) || decide (l.op = 2) with
  | true => exact ha
  | false =>
   rw [aa5]
   cases decide ((dt get set ds l.a x).1 = 0) with
   | false => exact ha
   | true =>
    rw [Bool.not_true, aa5]
    cases decide (l.op = 7) with
    | true =>
     rw [aa7]
     cases (l.x.want get set 1 (dt get set ds l.a x).2).1
     ·exact .inl rfl
     ·exact .inr rfl
    | false => rw [aa5]; exact pR
theorem Jv (ds : List Dc) {l : Lt} (hat : dj l = true) (hk : known ds l.a ≠ 0) (x : σ × Bool) : (jd get set ds l x).1 = known ds l.a := by
 have hc : eT l.op = false := by
  simp only [dj, ab5, aa0] at hat
  simp only [eT, Bool.and_eq_false_iff, aa2]; omega
 have ha : dt get set ds l.a x = (known ds l.a, x) := by
  unfold dt; rw [aa4 hk]; rfl
 unfold jd
 rw [hc, aa5, ha]
 simp only [aa4 hk, Bool.not_false, aa7]
 cases decide (l.op = 1) || decide (l.op = 2) <;> rfl
theorem ss (ds : List Dc) : ∀ (b : List Lt) (x : σ × Bool), gr ds b = 0 → (iN get set ds b (53, x)).1 = 53
 | [], _, _ => rfl
 | l :: b, x, h => by
  rw [gr] at h
  have hk : dj l = true → known ds l.a = 0 := fun e => by
   rw [e, ab9] at h
   cases h0 : decide (known ds l.a = 0) with
   | true => simpa using h0
   | false => rw [h0] at h; simp at h h0; exact absurd h h0
  have hb : gr ds b = 0 := by
   cases e : dj l with
   | false => rw [e] at h; exact h
   | true => rw [e, aa6 (hk e)] at h; exact h
  rw [iN]
  have hn : fL 53 (jd get set ds l x).1 = 53 := by
   rcases tI (get := get) (set := set) ds hk x with e | e <;> rw [e] <;> rfl
  simp only [hn]
  exact ss ds b _ hb
theorem zy (ds : List Dc) : ∀ (b : List Lt) (x : σ × Bool), gr ds b = 0 → (∀ l, l ∈ b → Kg l) → (iN get set ds b (0, x)).1 = 0 → (iN get set ds b (0, x)).2 = ((dJ get set ds b x.1).2, x.2 || (dJ get set ds b x.1).1)
 | [], x, _, _, _ => by simp [iN, dJ]
 | l :: b, x, h, hw, he => by
  rw [gr] at h
  have hk : dj l = true → known ds l.a = 0 := fun e => by
   rw [e, ab9] at h
   cases h0 : decide (known ds l.a = 0) with
   | true => simpa using h0
   | false => rw [h0] at h; simp at h h0; exact absurd h h0
  have hb : gr ds b = 0 := by
   cases e : dj l with
   | false => rw [e] at h; exact h
   | true => rw [e, aa6 (hk e)] at h; exact h
  rw [iN] at he ⊢
  rw [dJ]
  have hn : ∀ e : Int, fL 0 e = e := fun e => rfl
  simp only [hn] at he ⊢
  rcases tI (get := get) (set := set) ds hk x with e | e
  ·rw [e] at he ⊢
   have e1 := IZ ds (hw l List.mem_cons_self) hk x e
   have e2 := zy ds b _ hb (fun m hm => hw m (List.mem_cons_of_mem _ hm)) he
   rw [show ri 0 = false from rfl, aa5, e2, e1]
   simp only [Bool.or_assoc]
  ·rw [e] at he
   rw [show ri 53 = false from rfl, aa5, ss ds b _ hb] at he
   cases he
theorem FH (ds : List Dc) {r : Rl} (hh : B4 r.head.l = true) (hw : ∀ l, l ∈ r.body → Kg l) (hk : iE ds r = 0) (st : σ) (h : (ea get set ds r st).1 = 0) : (ea get set ds r st).2 = ((iD get set ds r st).2, (iD get set ds r st).1) := by
 unfold iE at hk
 have h0 : known ds r.head = 0 := by
  cases e : decide (known ds r.head = 0) with
  | true => simpa using e
  | false => rw [e, aa5] at hk; exact hk
 rw [h0] at hk
 have hb : gr ds r.body = 0 := hk
 unfold ea at h ⊢
 have ha : dt get set ds r.head (st, false) = (bif (gk get set (b6 ds r.head.rel) r.head.l (st, false)).1 then 53 else 0, (gk get set (b6 ds r.head.rel) r.head.l (st, false)).2) := by
  unfold dt; rw [h0]; rfl
 rw [ha] at h ⊢
 cases he : (gk get set (b6 ds r.head.rel) r.head.l (st, false)).1 with
 | true => rw [he, aa7, ss ds _ _ hb] at h; cases h
 | false =>
  rw [he, aa5] at h
  rw [aa5, zy ds _ _ hb hw h, rZ _ _ _ hh he]
  simp only [Bool.false_or]; rfl
end
section
variable {σ : Type} {get : σ → ByteArray → Int} {set : σ → ByteArray → Int → σ}
variable (hgs : ∀ st s k t, get (set st s k) t = bif t == s then k else get st t)
include hgs
end
section
variable {σ : Type} {get : σ → ByteArray → Int} {set : σ → ByteArray → Int → σ}
end
theorem wI {l : Lt} {s : ByteArray} (h : s ∈ l.x.vars) : s ∈ dz l := by simp [dz, aq, h]
theorem wa {l : Lt} {s : ByteArray} (h : s ∈ l.y.vars) : s ∈ dz l := by simp [dz, aq, h]
theorem BW {l : Lt} {s : ByteArray} (h : s ∈ aq l.a.l) : s ∈ dz l := by simp [dz, h]
section
variable {σ : Type} {get : σ → ByteArray → Int} {set : σ → ByteArray → Int → σ}
def vL (get : σ → ByteArray → Int) (V : ByteArray → Prop) (a b : σ) : Prop := ∃ s, V s ∧ get a s = 0 ∧ get b s ≠ 0
theorem vL.left {V W : ByteArray → Prop} {a b c : σ} (h : vL get V a b) (hx : Ext get b c) (hs : ∀ s, V s → W s) : vL get W a c := by
 obtain ⟨s, h1, h2, h3⟩ := h
 exact ⟨s, hs s h1, h2, by rw [hx s h3]; exact h3⟩
theorem vL.right {V W : ByteArray → Prop} {a b c : σ} (hx : Ext get a b) (h : vL get V b c) (hs : ∀ s, V s → W s) : vL get W a c := by
 obtain ⟨s, h1, h2, h3⟩ := h
 refine ⟨s, hs s h1, ?_, h3⟩
 cases e : decide (get a s = 0) with
 | true => simpa using e
 | false => rw [aa2] at e; rw [hx s e] at h2; exact absurd h2 e
variable (hgs : ∀ st s k t, get (set st s k) t = bif t == s then k else get st t)
include hgs
mutual
theorem Tm.jj : ∀ (t : Tm) (w : Int) (st : σ), (t.cE get set w st).1 = true → vL get (fun s => s ∈ t.vars) st (t.cE get set w st).2
 | .mk op s n l, w, st, h => by
  rw [Tm.cE] at h ⊢
  cases h1 : decide (op = 1) with
  | false =>
   rw [h1, aa5] at h
   rw [aa5]
   exact (tL l st h).left (Ext.refl _ _) fun s hs => by rw [Tm.vars]; exact ab3 _ hs
  | true =>
   rw [h1, aa7] at h
   rw [aa7]
   cases hc : (decide (w = 0) || !decide (get st s = 0)) with
   | true => rw [hc, aa7] at h; cases h
   | false =>
    rw [aa5]
    simp only [Bool.or_eq_false_iff, aa2, ab2, aa0] at hc
    refine ⟨s, by rw [Tm.vars, h1]; simp, hc.2, ?_⟩
    rw [hgs]
    simpa using hc.1
theorem tL : ∀ (l : List Tm) (st : σ), (dn get set l st).1 = true → vL get (fun s => s ∈ aq l) st (dn get set l st).2
 | [], _, h => by rw [dn] at h; cases h
 | t :: l, st, h => by
  rw [dn] at h ⊢
  cases h1 : (t.cE get set 1 st).1 with
  | true => exact (Tm.jj t 1 st h1).left (nR hgs l _) fun s hs => by rw [aq]; exact ab4 _ hs
  | false =>
   rw [h1, Bool.false_or] at h
   exact vL.right (Tm.dq hgs t 1 st) (tL l _ h) fun s hs => by rw [aq]; exact ab3 _ hs
end
theorem kP : ∀ (ws : List Int) (l : List Tm) (st : σ), (bV get set ws l st).1 = true → vL get (fun s => s ∈ aq l) st (bV get set ws l st).2
 | [], l, st, h => by simp [bV] at h
 | w :: ws, [], st, h => by simp [bV] at h
 | w :: ws, t :: l, st, h => by
  rw [bV] at h ⊢
  cases h1 : (t.cE get set w st).1 with
  | true => exact (Tm.jj hgs t w st h1).left (fl hgs ws l _) fun s hs => by rw [aq]; exact ab4 _ hs
  | false =>
   rw [h1, Bool.false_or] at h
   exact vL.right (Tm.dq hgs t w st) (kP ws l _ h) fun s hs => by rw [aq]; exact ab3 _ hs
theorem yF (ds : List Dc) (l : Lt) (st : σ) (h : (dD get set ds l st).1 = true) : vL get (fun s => s ∈ dz l) st (dD get set ds l st).2 := by
 unfold dD at h ⊢
 cases hc : eT l.op with
 | true =>
  rw [hc, aa7] at h
  rw [aa7]
  cases h1 : (l.x.cE get set (jE get l st) st).1 with
  | true => exact (Tm.jj hgs _ _ _ h1).left (Tm.dq hgs l.y _ _) fun s => wI
  | false =>
   rw [h1, Bool.false_or] at h
   exact vL.right (Tm.dq hgs l.x _ st) (Tm.jj hgs _ _ _ h) fun s => wa
 | false =>
  rw [hc, aa5] at h
  rw [aa5]
  cases h12 : decide (l.op = 1) || decide (l.op = 2) with
  | true => rw [h12, aa7] at h; exact (kP hgs _ _ _ h).left (Ext.refl _ _) fun s => BW
  | false =>
   rw [h12, aa5] at h
   rw [aa5]
   cases h0 : (bV get set (b6 ds l.a.rel) l.a.l st).1 with
   | true => exact (kP hgs _ _ _ h0).left ((Tm.dq hgs l.x _ _).trans (Tm.dq hgs l.y _ _)) fun s => BW
   | false =>
    rw [h0, Bool.false_or] at h
    cases h1 : (l.x.cE get set 1 (bV get set (b6 ds l.a.rel) l.a.l st).2).1 with
    | true => exact vL.right (fl hgs _ _ st) ((Tm.jj hgs _ _ _ h1).left (W := fun s => s ∈ dz l) (Tm.dq hgs l.y _ _) fun s => wI) fun s hs => hs
    | false =>
     rw [h1, Bool.false_or] at h
     exact vL.right ((fl hgs _ _ st).trans (Tm.dq hgs l.x _ _)) (Tm.jj hgs _ _ _ h) fun s => wa
theorem sq (ds : List Dc) : ∀ (b : List Lt) (st : σ), (dJ get set ds b st).1 = true → vL get (fun s => s ∈ b.flatMap dz) st (dJ get set ds b st).2
 | [], _, h => by rw [dJ] at h; cases h
 | l :: b, st, h => by
  rw [dJ] at h ⊢
  cases h1 : (dD get set ds l st).1 with
  | true => exact (yF hgs ds l st h1).left (lp hgs ds b _) fun s hs => by rw [List.flatMap_cons]; exact ab4 _ hs
  | false =>
   rw [h1, Bool.false_or] at h
   exact vL.right (qE hgs ds l st) (sq ds b _ h) fun s hs => by rw [List.flatMap_cons]; exact ab3 _ hs
theorem Bt (ds : List Dc) (r : Rl) (st : σ) (h : (iD get set ds r st).1 = true) : vL get (fun s => s ∈ eB r) st (iD get set ds r st).2 := by
 unfold iD at h ⊢
 cases h1 : (bV get set (b6 ds r.head.rel) r.head.l st).1 with
 | true => exact (kP hgs _ _ _ h1).left (lp hgs ds _ _) fun s hs => by rw [eB]; exact ab4 _ hs
 | false =>
  rw [h1, Bool.false_or] at h
  exact vL.right (fl hgs _ _ st) (sq hgs ds _ _ h) fun s hs => by rw [eB]; exact ab3 _ hs
omit hgs
def ki (get : σ → ByteArray → Int) (V : List ByteArray) (st : σ) : Nat := (V.filter fun s => decide (get st s = 0)).length
theorem GY (get : σ → ByteArray → Int) (V : List ByteArray) (st : σ) : ki get V st ≤ V.length := List.length_filter_le _ _
theorem vj {a b : σ} (h : Ext get a b) : ∀ V : List ByteArray, ki get V b ≤ ki get V a
 | [] => Nat.le_refl _
 | s :: V => by
  have ih := vj h V
  unfold ki at ih ⊢
  rw [List.filter_cons, List.filter_cons]
  cases e : decide (get a s = 0) with
  | true =>
   split
   ·simp only [List.length_cons, if_true]; omega
   ·simp only [List.length_cons, if_true]; omega
  | false =>
   rw [aa2] at e
   rw [aa4 (show ¬ get b s = 0 by rw [h s e]; exact e)]
   simpa using ih
theorem ve {a b : σ} (h : Ext get a b) : ∀ V : List ByteArray, vL get (fun s => s ∈ V) a b → ki get V b < ki get V a
 | [], ⟨_, h1, _⟩ => nomatch h1
 | s :: V, ⟨t, h1, h2, h3⟩ => by
  rcases List.mem_cons.1 h1 with rfl | h1
  ·have ih := vj h V
   unfold ki at ih ⊢
   rw [List.filter_cons, List.filter_cons, aa6 h2, aa4 h3]
   simp only [if_true, List.length_cons]
   simpa using Nat.lt_succ_of_le ih
  ·have ih := ve h V ⟨t, h1, h2, h3⟩
   unfold ki at ih ⊢
   rw [List.filter_cons, List.filter_cons]
   cases e : decide (get a s = 0) with
   | true =>
    split
    ·simp only [List.length_cons, if_true]; omega
    ·simp only [List.length_cons, if_true]; omega
   | false =>
    rw [aa2] at e
    rw [aa4 (show ¬ get b s = 0 by rw [h s e]; exact e)]
    simpa using ih
include hgs
end
section
variable {σ ρ : Type} {get : σ → ByteArray → Int} {set : σ → ByteArray → Int → σ} {get' : ρ → ByteArray → Int} {set' : ρ → ByteArray → Int → ρ} {V : ByteArray → Prop} {P : ρ → Prop}
def Alike (get : σ → ByteArray → Int) (get' : ρ → ByteArray → Int) (V : ByteArray → Prop) (P : ρ → Prop) (a : σ) (b : ρ) : Prop := P b ∧ ∀ s, V s → get a s = get' b s
variable (hg : ∀ st s k t, get (set st s k) t = bif t == s then k else get st t) (hg' : ∀ st s k t, P st → V s → V t → get' (set' st s k) t = bif t == s then k else get' st t) (hp : ∀ st s k, P st → V s → P (set' st s k))
theorem Alike.ty {a : σ} {b : ρ} (h : Alike get get' V P a b) {t : Tm} (hv : ∀ s, s ∈ t.vars → V s) : bp get t a = bp get' t b := by
 unfold bp
 cases h1 : decide (t.op = 1) with
 | false => rfl
 | true =>
  refine h.2 _ (hv _ ?_)
  obtain ⟨op, s, n, l⟩ := t
  rw [Tm.vars, show decide (op = 1) = true from h1]
  simp [Tm.s]
theorem Alike.kind {a : σ} {b : ρ} (h : Alike get get' V P a b) {l : Lt} (hv : ∀ s, s ∈ dz l → V s) : jE get l a = jE get' l b := by
 unfold jE
 rw [h.ty (t := l.x) fun s hs => hv s (wI hs), h.ty (t := l.y) fun s hs => hv s (wa hs)]
include hg hg' hp
mutual
theorem Alike.cE : ∀ (t : Tm) (w : Int) {a : σ} {b : ρ}, Alike get get' V P a b → (∀ s, s ∈ t.vars → V s) → (t.cE get set w a).1 = (t.cE get' set' w b).1 ∧ Alike get get' V P (t.cE get set w a).2 (t.cE get' set' w b).2
 | .mk op s n l, w, a, b, h, hv => by
  rw [Tm.cE, Tm.cE]
  cases h1 : decide (op = 1) with
  | false => exact Alike.dn l h fun s hs => hv s (by rw [Tm.vars]; exact ab3 _ hs)
  | true =>
   have hs : V s := hv s (by rw [Tm.vars, h1]; simp)
   rw [aa7, aa7, h.2 s hs]
   cases (decide (w = 0) || !decide (get' b s = 0)) with
   | true => exact ⟨rfl, h⟩
   | false =>
    refine ⟨rfl, hp b s w h.1 hs, fun t ht => ?_⟩
    rw [aa5, aa5, hg, hg' b s w t h.1 hs ht, h.2 t ht]
theorem Alike.dn : ∀ (l : List Tm) {a : σ} {b : ρ}, Alike get get' V P a b → (∀ s, s ∈ aq l → V s) → (dn get set l a).1 = (dn get' set' l b).1 ∧ Alike get get' V P (dn get set l a).2 (dn get' set' l b).2
 | [], a, b, h, _ => by have _ := hg; have _ := hg'; have _ := hp; exact ⟨rfl, h⟩
 | t :: l, a, b, h, hv => by
  rw [Rl.dn, Rl.dn]
  obtain ⟨e1, h1⟩ := Alike.cE t 1 h fun s hs => hv s (by rw [aq]; exact ab4 _ hs)
  obtain ⟨e2, h2⟩ := Alike.dn l h1 fun s hs => hv s (by rw [aq]; exact ab3 _ hs)
  exact ⟨by rw [e1, e2], h2⟩
end
theorem Alike.bV : ∀ (ws : List Int) (l : List Tm) {a : σ} {b : ρ}, Alike get get' V P a b → (∀ s, s ∈ aq l → V s) → (bV get set ws l a).1 = (bV get' set' ws l b).1 ∧ Alike get get' V P (bV get set ws l a).2 (bV get' set' ws l b).2
 | [], l, a, b, h, _ => by simpa [Rl.bV] using h
 | w :: ws, [], a, b, h, _ => by simpa [Rl.bV] using h
 | w :: ws, t :: l, a, b, h, hv => by
  rw [Rl.bV, Rl.bV]
  obtain ⟨e1, h1⟩ := Alike.cE hg hg' hp t w h fun s hs => hv s (by rw [aq]; exact ab4 _ hs)
  obtain ⟨e2, h2⟩ := Alike.bV ws l h1 fun s hs => hv s (by rw [aq]; exact ab3 _ hs)
  exact ⟨by rw [e1, e2], h2⟩
theorem Alike.dD (ds : List Dc) (l : Lt) {a : σ} {b : ρ} (h : Alike get get' V P a b) (hv : ∀ s, s ∈ dz l → V s) : (dD get set ds l a).1 = (dD get' set' ds l b).1 ∧ Alike get get' V P (dD get set ds l a).2 (dD get' set' ds l b).2 := by
 unfold Rl.dD
 have vx : ∀ s, s ∈ l.x.vars → V s := fun s hs => hv s (wI hs)
 have vy : ∀ s, s ∈ l.y.vars → V s := fun s hs => hv s (wa hs)
 have va : ∀ s, s ∈ aq l.a.l → V s := fun s hs => hv s (BW hs)
 cases eT l.op with
 | true =>
  rw [aa7, aa7, h.kind hv]
  obtain ⟨e1, h1⟩ := Alike.cE hg hg' hp l.x (jE get' l b) h vx
  obtain ⟨e2, h2⟩ := Alike.cE hg hg' hp l.y (jE get' l b) h1 vy
  exact ⟨by rw [e1, e2], h2⟩
 | false =>
  rw [aa5, aa5]
  obtain ⟨e0, h0⟩ := Alike.bV hg hg' hp (b6 ds l.a.rel) l.a.l h va
  cases decide (l.op = 1) || decide (l.op = 2) with
  | true => exact ⟨e0, h0⟩
  | false =>
   obtain ⟨e1, h1⟩ := Alike.cE hg hg' hp l.x 1 h0 vx
   obtain ⟨e2, h2⟩ := Alike.cE hg hg' hp l.y 1 h1 vy
   exact ⟨by rw [aa5, aa5, e0, e1, e2], h2⟩
theorem Alike.dJ (ds : List Dc) : ∀ (l : List Lt) {a : σ} {b : ρ}, Alike get get' V P a b → (∀ s, s ∈ l.flatMap dz → V s) → (dJ get set ds l a).1 = (dJ get' set' ds l b).1 ∧ Alike get get' V P (dJ get set ds l a).2 (dJ get' set' ds l b).2
 | [], a, b, h, _ => ⟨rfl, h⟩
 | l :: m, a, b, h, hv => by
  rw [Rl.dJ, Rl.dJ]
  obtain ⟨e1, h1⟩ := Alike.dD hg hg' hp ds l h fun s hs => hv s (by rw [List.flatMap_cons]; exact ab4 _ hs)
  obtain ⟨e2, h2⟩ := Alike.dJ ds m h1 fun s hs => hv s (by rw [List.flatMap_cons]; exact ab3 _ hs)
  exact ⟨by rw [e1, e2], h2⟩
theorem Alike.iD (ds : List Dc) (r : Rl) {a : σ} {b : ρ} (h : Alike get get' V P a b) (hv : ∀ s, s ∈ eB r → V s) : (iD get set ds r a).1 = (iD get' set' ds r b).1 ∧ Alike get get' V P (iD get set ds r a).2 (iD get' set' ds r b).2 := by
 unfold Rl.iD
 obtain ⟨e1, h1⟩ := Alike.bV hg hg' hp (b6 ds r.head.rel) r.head.l h fun s hs => hv s (by rw [eB]; exact ab4 _ hs)
 obtain ⟨e2, h2⟩ := Alike.dJ hg hg' hp ds r.body h1 fun s hs => hv s (by rw [eB]; exact ab3 _ hs)
 exact ⟨by rw [e1, e2], h2⟩
end
def getM (es : List (Value × AV)) (s : ByteArray) : Int := toInt (cF es (.string s) (.lit (.int .i64 0)))
def fe (es : List (Value × AV)) (s : ByteArray) (k : Int) : List (Value × AV) := dU es (.string s) (.lit (.int .i64 k))
theorem mm : ∀ (es : List (Value × AV)) (s : ByteArray) (k : Int) (t : ByteArray), getM (fe es s k) t = bif t == s then k else getM es t
 | [], s, k, t => by
  simp only [getM, fe, dU, cF, cv]
  cases t == s <;> rfl
 | (k', a') :: es, s, k, t => by
  have ih := mm es s k t
  simp only [getM, fe, dU, cF] at ih ⊢
  cases h : cv (.string s) k' with
  | true =>
   have hk := mW h
   subst hk
   simp only [aa7, cF, cv]
   cases h2 : t == s with
   | true => rfl
   | false => simp
  | false =>
   simp only [aa5, cF]
   cases h3 : cv (.string t) k' with
   | false => simpa using ih
   | true =>
    have hk := mW h3
    subst hk
    have h4 : (t == s) = false := by
     cases h5 : t == s with
     | false => rfl
     | true => rw [eq_of_beq h5] at h; simp [cv] at h
    simp [h4]
def Vd (V : List ByteArray) (s : ByteArray) : Nat := V.findIdx (kq s)
def il (V : List ByteArray) (τ : List Int) (s : ByteArray) (k : Int) : List Int := τ.set (Vd V s) k
def ob (ds : List Dc) (r : Rl) : Int × List Int :=
 bif decide ((eI getM fe ds r ((cU r).length + 1) []).1 = 0) then
  (bif (cU r).all (fun s => !decide (getM (eI getM fe ds r ((cU r).length + 1) []).2 s = 0)) then (0, (cU r).map (getM (eI getM fe ds r ((cU r).length + 1) []).2)) else (53, []))
 else ((eI getM fe ds r ((cU r).length + 1) []).1, [])
theorem km (ds : List Dc) (a : At) : known ds a = 0 ∨ known ds a = 51 ∨ known ds a = 52 := by
 unfold known
 cases iO a.rel ds with
 | none => exact .inr (.inl rfl)
 | some i =>
  show (bif _ then (0 : Int) else 52) = 0 ∨ _
  cases decide ((b6 ds a.rel).length = a.l.length)
  ·exact .inr (.inr rfl)
  ·exact .inl rfl
section
variable {σ : Type} {get : σ → ByteArray → Int} {set : σ → ByteArray → Int → σ}
theorem yB (ds : List Dc) : ∀ (b : List Lt) (y : Int × (σ × Bool)), (y.1 = 0 ∨ y.1 = 53) → gr ds b ≠ 0 → (iN get set ds b y).1 = gr ds b
 | [], _, _, h => absurd rfl h
 | l :: b, y, hy, h => by
  rw [gr] at h ⊢
  rw [iN]
  cases hc : dj l && !decide (known ds l.a = 0) with
  | true =>
   rw [aa7]
   simp only [aa1, Bool.not_eq_true', aa2] at hc
   rw [Jv ds hc.1 hc.2]
   have hn : fL y.1 (known ds l.a) = known ds l.a := by
    rcases hy with e | e <;> rw [e] <;> rcases km ds l.a with e2 | e2 | e2 <;> rw [e2] <;> first | rfl | exact absurd e2 hc.2
   have hi : ri (known ds l.a) = true := by
    rcases km ds l.a with e2 | e2 | e2
    ·exact absurd e2 hc.2
    ·rw [e2]; rfl
    ·rw [e2]; rfl
   rw [hn, hi]; rfl
  | false =>
   rw [hc, aa5] at h
   rw [aa5]
   have hk : dj l = true → known ds l.a = 0 := fun e => by
    rw [e, ab9] at hc
    simpa using hc
   have hn : fL y.1 (jd get set ds l y.2).1 = 0 ∨ fL y.1 (jd get set ds l y.2).1 = 53 := by
    rcases tI (get := get) (set := set) ds hk y.2 with e | e <;> rcases hy with e2 | e2 <;> rw [e, e2] <;> decide
   have hi : ri (fL y.1 (jd get set ds l y.2).1) = false := by rcases hn with e | e <;> rw [e] <;> rfl
   rw [hi, aa5]
   exact yB ds b _ hn h
theorem zu (ds : List Dc) (r : Rl) (st : σ) (h : iE ds r ≠ 0) : (ea get set ds r st).1 = iE ds r := by
 unfold ea
 unfold iE at h ⊢
 cases h0 : decide (known ds r.head = 0) with
 | true =>
  rw [h0, aa7] at h
  rw [aa7]
  refine yB ds _ _ ?_ h
  unfold dt
  rw [h0, aa7]
  cases (gk get set (b6 ds r.head.rel) r.head.l (st, false)).1
  ·exact .inl rfl
  ·exact .inr rfl
 | false =>
  rw [aa5]
  have ha : dt get set ds r.head (st, false) = (known ds r.head, (st, false)) := by
   unfold dt; rw [h0]; rfl
  rw [ha]
  rw [aa2] at h0
  cases r.body with
  | nil => rfl
  | cons l b =>
   rw [iN]
   have hn : ∀ e, fL (known ds r.head) e = known ds r.head := fun e => by
    rcases km ds r.head with e2 | e2 | e2
    ·exact absurd e2 h0
    ·rw [e2]; rfl
    ·rw [e2]; rfl
   have hi : ri (known ds r.head) = true := by
    rcases km ds r.head with e2 | e2 | e2
    ·exact absurd e2 h0
    ·rw [e2]; rfl
    ·rw [e2]; rfl
   simp only [hn, hi]; rfl
end
end Go.Rl
