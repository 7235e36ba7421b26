import Derived.Test.YtdpmikfheebicaaGreatDoorDqM1
import Derived.Test.YtdpmikfheebicaaGreatDoorDqM8
namespace Go.Rl
open Go Go.Dn
abbrev Gr := List (List Int)
def Gr.at (L : Gr) (a : Int) : List Int := L.getD a.toNat []
def ml (L : Gr) (e : Int × Int) : Gr := bif (L.at e.1).contains e.2 then L else L.set e.1.toNat (L.at e.1 ++ [e.2])
def qw (n : Nat) (E : List (Int × Int)) : Gr := E.foldl ml (List.replicate n [])
theorem zz (L : Gr) (e : Int × Int) : (ml L e).length = L.length := by
 unfold ml; cases (L.at e.1).contains e.2 <;> simp
theorem qu : ∀ (E : List (Int × Int)) (L : Gr), (E.foldl ml L).length = L.length
 | [], _ => rfl
 | e :: E, L => by rw [List.foldl_cons, qu E, zz]
theorem Ap (L : Gr) (a b : Int) (x : List Int) (ha : a.toNat < L.length) : Gr.at (L.set a.toNat x) b = if a.toNat = b.toNat then x else L.at b := by
 unfold Gr.at
 rw [List.getD_eq_getElem?_getD, List.getElem?_set]
 by_cases h : a.toNat = b.toNat
 ·rw [if_pos h, if_pos h, if_pos ha]; rfl
 ·rw [if_neg h, if_neg h]; rfl
theorem Gn (L : Gr) (e : Int × Int) (he : 0 ≤ e.1 ∧ e.1.toNat < L.length) (a b : Int) (h0 : 0 ≤ a) : b ∈ (ml L e).at a ↔ b ∈ L.at a ∨ (a, b) = e := by
 obtain ⟨c, d⟩ := e
 simp only at he
 unfold ml
 cases h : (L.at c).contains d with
 | true =>
  rw [aa7]
  refine ⟨.inl, ?_⟩
  rintro (h1 | h1)
  ·exact h1
  ·cases h1; simpa using h
 | false =>
  rw [aa5, Ap L c a _ he.2]
  by_cases hc : c.toNat = a.toNat
  ·have : c = a := by omega
   subst this
   simp
  ·rw [if_neg hc]
   refine ⟨.inl, ?_⟩
   rintro (h1 | h1)
   ·exact h1
   ·cases h1; exact absurd rfl hc
theorem uJ : ∀ (E : List (Int × Int)) (L : Gr), (∀ e, e ∈ E → 0 ≤ e.1 ∧ e.1.toNat < L.length) → ∀ a b : Int, 0 ≤ a → (b ∈ Gr.at (E.foldl ml L) a ↔ b ∈ L.at a ∨ (a, b) ∈ E)
 | [], L, _, a, b, _ => by simp
 | e :: E, L, h, a, b, h0 => by
  rw [List.foldl_cons, uJ E (ml L e) (fun x hx => by rw [zz]; exact h x (by simp [hx])) a b h0, Gn L e (h e (by simp)) a b h0, ac1, or_assoc]
theorem Gj : ∀ (E : List (Int × Int)) (L : Gr) (a : Int), (Gr.at (E.foldl ml L) a).length ≤ (L.at a).length + E.length
 | [], L, a => by simp
 | e :: E, L, a => by
  rw [List.foldl_cons]
  refine Nat.le_trans (Gj E (ml L e) a) ?_
  have : ((ml L e).at a).length ≤ (L.at a).length + 1 := by
   unfold ml
   cases (L.at e.1).contains e.2 with
   | true => rw [aa7]; omega
   | false =>
    rw [aa5]
    by_cases hl : e.1.toNat < L.length
    ·rw [Ap L e.1 a _ hl]
     by_cases hc : e.1.toNat = a.toNat
     ·rw [if_pos hc, ab8, List.length_singleton]
      have : L.at e.1 = L.at a := by unfold Gr.at; rw [hc]
      rw [this]; omega
     ·rw [if_neg hc]; omega
    ·rw [List.set_eq_of_length_le (by omega)]; omega
  simp only [List.length_cons]; omega
theorem AR (n : Nat) (a : Int) : Gr.at (List.replicate n []) a = [] := by
 unfold Gr.at
 rw [List.getD_eq_getElem?_getD]
 by_cases h : a.toNat < n <;> simp [h]
structure WG (n m : Nat) (L : Gr) : Prop where
 len : L.length = n
 le : ∀ a, (L.at a).length ≤ m
 lb : ∀ a, 0 ≤ a → ∀ b, b ∈ L.at a → 0 ≤ b ∧ b < n
theorem Kk {n : Nat} {E : List (Int × Int)} (h : ∀ e, e ∈ E → (0 ≤ e.1 ∧ e.1 < n) ∧ 0 ≤ e.2 ∧ e.2 < n) {a b : Int} (h0 : 0 ≤ a) : b ∈ (qw n E).at a ↔ (a, b) ∈ E := by
 unfold qw
 rw [uJ E _ (fun e he => ⟨(h e he).1.1, by have := (h e he).1; simp; omega⟩) a b h0, AR]
 simp
theorem Mq {n : Nat} {E : List (Int × Int)} (h : ∀ e, e ∈ E → (0 ≤ e.1 ∧ e.1 < n) ∧ 0 ≤ e.2 ∧ e.2 < n) : WG n E.length (qw n E) := by
 refine ⟨by unfold qw; rw [qu]; simp, fun a => ?_, fun a h0 b hb => ?_⟩
 ·have := Gj E (List.replicate n []) a
  rw [AR] at this
  simpa [qw] using this
 ·exact (h _ ((Kk h h0).1 hb)).2
inductive uB (L : Gr) : Int → Int → Prop
 | refl (a : Int) : uB L a a
 | step {a b c : Int} (h : b ∈ L.at a) (k : uB L b c) : uB L a c
def Rc (L : Gr) (a b : Int) : Prop := ∃ c, c ∈ L.at a ∧ uB L c b
theorem uB.trans {L : Gr} {a b c : Int} (h : uB L a b) (k : uB L b c) : uB L a c := by
 induction h with
 | refl => exact k
 | step h _ ih => exact .step h (ih k)
theorem Rc.trans {L : Gr} {a b c : Int} (h : Rc L a b) (k : Rc L b c) : Rc L a c := by
 obtain ⟨d, h1, h2⟩ := h
 obtain ⟨e, k1, k2⟩ := k
 exact ⟨d, h1, h2.trans (.step k1 k2)⟩
theorem Rc.step {L : Gr} {a b c : Int} (h : Rc L a b) (k : c ∈ L.at b) : Rc L a c := h.trans ⟨c, k, .refl c⟩
theorem Rc.mono {L M : Gr} (h : ∀ a b, 0 ≤ a → b ∈ L.at a → b ∈ M.at a ∧ 0 ≤ b) {a b : Int} (h0 : 0 ≤ a) (k : Rc L a b) : Rc M a b := by
 obtain ⟨c, h1, h2⟩ := k
 have st : ∀ {x y : Int}, uB L x y → 0 ≤ x → uB M x y := fun {x y} k => by
  induction k with
  | refl => intro _; exact .refl _
  | step h' _ ih => intro hx; exact .step (h _ _ hx h').1 (ih (h _ _ hx h').2)
 exact ⟨c, (h a c h0 h1).1, st h2 (h a c h0 h1).2⟩
theorem Rc.lb {n m : Nat} {L : Gr} (hG : WG n m L) {a b : Int} (h0 : 0 ≤ a) (h : Rc L a b) : 0 ≤ b ∧ b < n := by
 obtain ⟨c, h1, h2⟩ := h
 have := hG.lb a h0 c h1
 clear h1
 induction h2 with
 | refl => exact this
 | step h _ ih => exact ih (hG.lb _ this.1 _ h)
def dI (l : List Int) : Int := l.getLastD 0
def DT (L : Gr) : Nat → List Int → List Int → List Int
 | 0, _, met => met
 | _ + 1, [], met => met
 | f + 1, t :: todo, met => bif met.contains (dI (t :: todo)) then DT L f (t :: todo).dropLast met else DT L f ((t :: todo).dropLast ++ L.at (dI (t :: todo))) (met ++ [dI (t :: todo)])
def gH (n : Nat) : List Int := (List.range n).map fun (k : Nat) => (k : Int)
theorem mc {n : Nat} {a : Int} : a ∈ gH n ↔ 0 ≤ a ∧ a < n := by
 simp only [gH, List.mem_map, List.mem_range]
 refine ⟨?_, fun h => ⟨a.toNat, by omega, by omega⟩⟩
 rintro ⟨k, h, rfl⟩
 omega
theorem mO {α : Type} {p q : α → Bool} : ∀ {l : List α}, (∀ x, x ∈ l → p x = true → q x = true) → (∃ x, x ∈ l ∧ q x = true ∧ p x = false) → l.countP p < l.countP q
 | [], _, h => by obtain ⟨x, hx, _⟩ := h; cases hx
 | a :: l, h, ⟨x, hx, h1, h2⟩ => by
  have hm := List.countP_mono_left (l := l) (p := p) (q := q) fun y hy => h y (by simp [hy])
  simp only [List.countP_cons]
  rcases List.mem_cons.1 hx with rfl | hx
  ·rw [h1, h2]; simp; omega
  ·have ih := mO (l := l) (fun y hy => h y (by simp [hy])) ⟨x, hx, h1, h2⟩
   cases hp : p a with
   | true => rw [h a (by simp) hp]; simp; omega
   | false => cases q a <;> simp <;> omega
def yf (n : Nat) (met : List Int) : Nat := (gH n).countP fun x => !met.contains x
theorem Im (n : Nat) (met : List Int) : yf n met ≤ n := by
 have := List.countP_le_length (l := gH n) (p := fun x => !met.contains x)
 simpa [yf, gH] using this
theorem CO {n : Nat} {met : List Int} {b : Int} (hb : 0 ≤ b ∧ b < n) (hn : met.contains b = false) (l : List Int) (hl : b ∈ l) : yf n (met ++ l) < yf n met := by
 refine mO (fun x _ h => ?_) ⟨b, mc.2 hb, by simpa using hn, by simp [hl]⟩
 simp only [Bool.not_eq_true', List.contains_eq_mem, aa2, List.mem_append, not_or] at h ⊢
 exact h.1
def ms (n m : Nat) (todo met : List Int) : Nat := yf n met * (m + 1) + todo.length
theorem l3 {t : Int} {todo : List Int} : dI (t :: todo) ∈ t :: todo := by
 unfold dI
 rw [List.getLastD_cons]
 cases todo with
 | nil => simp
 | cons a l => rw [List.getLastD_eq_getLast?, List.getLast?_eq_some_getLast (by simp)]; simp
theorem uL {t : Int} {todo : List Int} : (t :: todo).dropLast ++ [dI (t :: todo)] = t :: todo := by
 have : dI (t :: todo) = (t :: todo).getLast (by simp) := by
  unfold dI
  rw [List.getLastD_eq_getLast?, List.getLast?_eq_some_getLast (by simp)]; rfl
 rw [this]; exact List.dropLast_concat_getLast (by simp)
theorem xv (n m : Nat) (t : Int) (todo met : List Int) : ms n m (t :: todo).dropLast met < ms n m (t :: todo) met := by
 unfold ms
 simp
theorem yc {n m : Nat} {L : Gr} (hG : WG n m L) (t : Int) (todo met : List Int) (hb : 0 ≤ dI (t :: todo) ∧ dI (t :: todo) < n) (hn : met.contains (dI (t :: todo)) = false) :
  ms n m ((t :: todo).dropLast ++ L.at (dI (t :: todo))) (met ++ [dI (t :: todo)]) < ms n m (t :: todo) met := by
 unfold ms
 have h1 := CO hb hn [dI (t :: todo)] (by simp)
 have h2 := hG.le (dI (t :: todo))
 have h3 := Nat.mul_le_mul_right (m + 1) (show yf n (met ++ [dI (t :: todo)]) + 1 ≤ yf n met from h1)
 rw [Nat.add_mul] at h3
 simp only [ab8, List.length_dropLast, List.length_cons]
 omega
structure Sd (n m : Nat) (todo met : List Int) : Prop where
 ht : ∀ x, x ∈ todo → 0 ≤ x ∧ x < n
 hm : ∀ x, x ∈ met → 0 ≤ x ∧ x < n
 le : todo.length + yf n met * m ≤ (n + 1) * m
theorem Sd.pop {n m : Nat} {t : Int} {todo met : List Int} (h : Sd n m (t :: todo) met) : Sd n m (t :: todo).dropLast met :=
 ⟨fun x hx => h.ht x (List.dropLast_subset _ hx), h.hm, by have := h.le; simp only [List.length_dropLast, List.length_cons] at this ⊢; omega⟩
theorem Sd.add {n m : Nat} {L : Gr} (hG : WG n m L) {t : Int} {todo met : List Int} (h : Sd n m (t :: todo) met) (hn : met.contains (dI (t :: todo)) = false) : Sd n m ((t :: todo).dropLast ++ L.at (dI (t :: todo))) (met ++ [dI (t :: todo)]) := by
 have hb := h.ht _ l3
 refine ⟨fun x hx => ?_, fun x hx => ?_, ?_⟩
 ·rcases List.mem_append.1 hx with hx | hx
  ·exact h.ht x (List.dropLast_subset _ hx)
  ·exact hG.lb _ hb.1 x hx
 ·rcases List.mem_append.1 hx with hx | hx
  ·exact h.hm x hx
  ·rw [List.mem_singleton] at hx; rw [hx]; exact hb
 ·have h1 := CO hb hn [dI (t :: todo)] (by simp)
  have h2 := hG.le (dI (t :: todo))
  have h3 := Nat.mul_le_mul_right m (show yf n (met ++ [dI (t :: todo)]) + 1 ≤ yf n met from h1)
  rw [Nat.add_mul] at h3
  have h4 := h.le
  simp only [ab8, List.length_dropLast, List.length_cons] at h4 ⊢
  omega
theorem Sd.start {n m : Nat} {L : Gr} (hG : WG n m L) {a : Int} (h0 : 0 ≤ a) : Sd n m (L.at a) [] :=
 ⟨fun x hx => hG.lb a h0 x hx, fun x hx => (nomatch hx), by
  have h1 := hG.le a
  have h2 := Nat.mul_le_mul_right m (Im n [])
  rw [Nat.add_mul]; omega⟩
theorem oK {n m : Nat} {L : Gr} (hG : WG n m L) : ∀ (f g : Nat) (todo met : List Int), Sd n m todo met → ms n m todo met ≤ f → ms n m todo met ≤ g → DT L f todo met = DT L g todo met
 | 0, g, todo, met, _, h, _ => by
  have : todo = [] := by unfold ms at h; exact List.eq_nil_of_length_eq_zero (by omega)
  subst this
  cases g <;> rfl
 | f + 1, 0, todo, met, _, _, h => by
  have : todo = [] := by unfold ms at h; exact List.eq_nil_of_length_eq_zero (by omega)
  subst this; rfl
 | f + 1, g + 1, [], met, _, _, _ => rfl
 | f + 1, g + 1, t :: todo, met, hs, h1, h2 => by
  rw [DT, DT]
  cases hc : met.contains (dI (t :: todo)) with
  | true =>
   have := xv n m t todo met
   rw [aa7, aa7]
   exact oK hG f g _ _ hs.pop (by omega) (by omega)
  | false =>
   have := yc hG t todo met (hs.ht _ l3) hc
   rw [aa5, aa5]
   exact oK hG f g _ _ (hs.add hG hc) (by omega) (by omega)
def tO (n m : Nat) (L : Gr) (todo met : List Int) : List Int := DT L (ms n m todo met) todo met
theorem yq (n m : Nat) (L : Gr) (met : List Int) : tO n m L [] met = met := by
 unfold tO; cases ms n m [] met <;> rfl
theorem Ea {n m : Nat} {L : Gr} (hG : WG n m L) {t : Int} {todo met : List Int} (hs : Sd n m (t :: todo) met) :
  tO n m L (t :: todo) met = bif met.contains (dI (t :: todo)) then tO n m L (t :: todo).dropLast met else tO n m L ((t :: todo).dropLast ++ L.at (dI (t :: todo))) (met ++ [dI (t :: todo)]) := by
 have e : ms n m (t :: todo) met = (ms n m (t :: todo) met - 1) + 1 := by unfold ms; simp only [List.length_cons]; omega
 unfold tO
 rw [e, DT]
 cases hc : met.contains (dI (t :: todo)) with
 | true =>
  have := xv n m t todo met
  rw [aa7, aa7]
  exact oK hG _ _ _ _ hs.pop (by omega) (Nat.le_refl _)
 | false =>
  have := yc hG t todo met (hs.ht _ l3) hc
  rw [aa5, aa5]
  exact oK hG _ _ _ _ (hs.add hG hc) (by omega) (Nat.le_refl _)
theorem xn {n m : Nat} {L : Gr} (hG : WG n m L) (P : Int → Prop) (hP : ∀ x y, P x → y ∈ L.at x → P y) : ∀ (f : Nat) (todo met : List Int), Sd n m todo met → ms n m todo met ≤ f → (∀ x, x ∈ todo ∨ x ∈ met → P x) → (∀ x, x ∈ met → ∀ y, y ∈ L.at x → y ∈ met ∨ y ∈ todo) →
  (∀ x, x ∈ DT L f todo met → P x) ∧ (∀ x, x ∈ todo ∨ x ∈ met → x ∈ DT L f todo met) ∧ (∀ x, x ∈ DT L f todo met → ∀ y, y ∈ L.at x → y ∈ DT L f todo met)
 | 0, todo, met, _, h, h1, h2 => by
  have : todo = [] := by unfold ms at h; exact List.eq_nil_of_length_eq_zero (by omega)
  subst this
  exact ⟨fun x hx => h1 x (.inr hx), fun x hx => hx.resolve_left (by simp), fun x hx y hy => (h2 x hx y hy).resolve_right (by simp)⟩
 | f + 1, [], met, _, _, h1, h2 => ⟨fun x hx => h1 x (.inr hx), fun x hx => hx.resolve_left (by simp), fun x hx y hy => (h2 x hx y hy).resolve_right (by simp)⟩
 | f + 1, t :: todo, met, hs, h, h1, h2 => by
  have hd : ∀ x, x ∈ t :: todo → x ∈ (t :: todo).dropLast ∨ x = dI (t :: todo) := fun x hx => by
   rw [← uL (t := t) (todo := todo)] at hx
   simpa using hx
  rw [DT]
  cases hc : met.contains (dI (t :: todo)) with
  | true =>
   have hm : dI (t :: todo) ∈ met := by simpa using hc
   have := xv n m t todo met
   rw [aa7]
   obtain ⟨g1, g2, g3⟩ := xn hG P hP f (t :: todo).dropLast met hs.pop (by omega) (fun x hx => h1 x (hx.imp (fun h => List.dropLast_subset _ h) id)) (fun x hx y hy => by
    rcases h2 x hx y hy with h | h
    ·exact .inl h
    ·rcases hd y h with h | rfl
     ·exact .inr h
     ·exact .inl hm)
   refine ⟨g1, fun x hx => ?_, g3⟩
   rcases hx with hx | hx
   ·rcases hd x hx with h | rfl
    ·exact g2 x (.inl h)
    ·exact g2 _ (.inr hm)
   ·exact g2 x (.inr hx)
  | false =>
   have := yc hG t todo met (hs.ht _ l3) hc
   have hl := h1 _ (.inl (l3 (t := t) (todo := todo)))
   rw [aa5]
   obtain ⟨g1, g2, g3⟩ := xn hG P hP f _ _ (hs.add hG hc) (by omega) (fun x hx => by
    rcases hx with hx | hx
    ·rcases List.mem_append.1 hx with hx | hx
     ·exact h1 x (.inl (List.dropLast_subset _ hx))
     ·exact hP _ _ hl hx
    ·rcases List.mem_append.1 hx with hx | hx
     ·exact h1 x (.inr hx)
     ·rw [List.mem_singleton] at hx; rw [hx]; exact hl) (fun x hx y hy => by
    rcases List.mem_append.1 hx with hx | hx
    ·rcases h2 x hx y hy with h | h
     ·exact .inl (ab4 _ h)
     ·rcases hd y h with h | rfl
      ·exact .inr (ab4 _ h)
      ·exact .inl (by simp)
    ·rw [List.mem_singleton] at hx; subst hx
     exact .inr (ab3 _ hy))
   refine ⟨g1, fun x hx => ?_, g3⟩
   rcases hx with hx | hx
   ·rcases hd x hx with h | rfl
    ·exact g2 x (.inl (ab4 _ h))
    ·exact g2 _ (.inr (by simp))
   ·exact g2 x (.inr (ab4 _ hx))
def gp (n m : Nat) (L : Gr) (a : Int) : List Int := tO n m L (L.at a) []
theorem wN {n m : Nat} {L : Gr} (hG : WG n m L) {a b : Int} (h0 : 0 ≤ a) : b ∈ gp n m L a ↔ Rc L a b := by
 obtain ⟨g1, g2, g3⟩ := xn hG (Rc L a) (fun x y h k => h.step k) _ (L.at a) [] (Sd.start hG h0) (Nat.le_refl _) (fun x hx => ⟨x, hx.resolve_right (by simp), .refl x⟩) (fun x hx => by cases hx)
 refine ⟨g1 b, ?_⟩
 rintro ⟨c, h1, h2⟩
 have hc := g2 c (.inl h1)
 clear h1
 induction h2 with
 | refl => exact hc
 | step h _ ih => exact ih (g3 _ hc _ h)
def fm (n m : Nat) (L : Gr) (a b : Int) : Bool := decide (a = b) || ((gp n m L a).contains b && (gp n m L b).contains a)
theorem xG {n m : Nat} {L : Gr} (hG : WG n m L) {a b : Int} (ha : 0 ≤ a) (hb : 0 ≤ b) : fm n m L a b = true ↔ a = b ∨ (Rc L a b ∧ Rc L b a) := by
 simp only [fm, ab5, aa0, aa1, List.contains_eq_mem, wN hG ha, wN hG hb]
theorem zA (n m : Nat) (L : Gr) (a : Int) : fm n m L a a = true := by simp [fm]
theorem HV (n m : Nat) (L : Gr) (a b : Int) : fm n m L a b = fm n m L b a := by
 simp only [fm, Bool.and_comm, eq_comm]
theorem DX {n m : Nat} {L : Gr} (hG : WG n m L) {a b c : Int} (ha : 0 ≤ a) (hb : 0 ≤ b) (hc : 0 ≤ c) (h : fm n m L a b = true) (k : fm n m L b c = true) : fm n m L a c = true := by
 rw [xG hG ha hb] at h
 rw [xG hG hb hc] at k
 rw [xG hG ha hc]
 rcases h with rfl | ⟨h1, h2⟩
 ·exact k
 ·rcases k with rfl | ⟨k1, k2⟩
  ·exact .inr ⟨h1, h2⟩
  ·exact .inr ⟨h1.trans k1, k2.trans h2⟩
section
variable {n m : Nat} {L : Gr}
def gl (n m : Nat) (L : Gr) (a : Int) : List Int := (gH n).filter (fm n m L a)
def gP (n m : Nat) (L : Gr) (done : List Int) (a : Int) : Bool := !done.contains a && (gp n m L a).all fun b => done.contains b || fm n m L a b
def fE (n m : Nat) (L : Gr) (done : List Int) : Int := ((gH n).find? (gP n m L done)).getD (-1)
def ur (done l : List Int) : List Int := l.foldl (fun d b => bif d.contains b then d else d ++ [b]) done
def Bl (n m : Nat) (L : Gr) : Nat → List Int → List (List Int)
 | 0, _ => []
 | f + 1, done => bif decide (fE n m L done < 0) then [] else gl n m L (fE n m L done) :: Bl n m L f (ur done (gl n m L (fE n m L done)))
theorem s6 : ∀ (l done : List Int) (x : Int), x ∈ ur done l ↔ x ∈ done ∨ x ∈ l
 | [], done, x => by simp [ur]
 | b :: l, done, x => by
  have ih := s6 l (bif done.contains b then done else done ++ [b]) x
  unfold ur at ih ⊢
  rw [List.foldl_cons, ih]
  cases h : done.contains b with
  | true =>
   rw [aa7, ac1]
   have h' : b ∈ done := by simpa using h
   refine ⟨fun h => h.imp id .inr, ?_⟩
   rintro (h | rfl | h)
   ·exact .inl h
   ·exact .inl h'
   ·exact .inr h
  | false => rw [aa5, List.mem_append, List.mem_singleton, ac1, or_assoc]
theorem uQ {done : List Int} (h : 0 ≤ fE n m L done) : (0 ≤ fE n m L done ∧ fE n m L done < n) ∧ gP n m L done (fE n m L done) = true := by
 unfold fE at h ⊢
 cases e : (gH n).find? (gP n m L done) with
 | none => rw [e] at h; simp at h
 | some a =>
  have h1 := List.find?_some e
  have h2 := List.mem_of_find?_eq_some e
  exact ⟨mc.1 h2, h1⟩
theorem Jw {a b : Int} : b ∈ gl n m L a ↔ (0 ≤ b ∧ b < n) ∧ fm n m L a b = true := by
 unfold gl
 rw [List.mem_filter, mc]
theorem wE {done : List Int} (h : 0 ≤ fE n m L done) : yf n (ur done (gl n m L (fE n m L done))) < yf n done := by
 obtain ⟨h1, h2⟩ := uQ h
 have hn : fE n m L done ∉ done := by
  simp only [gP, aa1, Bool.not_eq_true', List.contains_eq_mem, aa2] at h2
  exact h2.1
 refine mO (fun x _ hx => ?_) ⟨fE n m L done, mc.2 h1, by simpa using hn, ?_⟩
 ·simp only [Bool.not_eq_true', List.contains_eq_mem, aa2, s6, not_or] at hx ⊢
  exact hx.1
 ·simp only [ab2, List.contains_eq_mem, aa0, s6, Jw]
  exact .inr ⟨h1, zA _ _ _ _⟩
theorem vU : ∀ (f g : Nat) (done : List Int), yf n done < f → yf n done < g → Bl n m L f done = Bl n m L g done
 | 0, _, _, h, _ => by omega
 | _ + 1, 0, _, _, h => by omega
 | f + 1, g + 1, done, h1, h2 => by
  rw [Bl, Bl]
  cases h : decide (fE n m L done < 0) with
  | true => rfl
  | false =>
   have := wE (n := n) (m := m) (L := L) (done := done) (by simpa using h)
   rw [aa5, aa5, vU f g _ (by omega) (by omega)]
def q8 (n m : Nat) (L : Gr) (done : List Int) : List (List Int) := Bl n m L (yf n done + 1) done
theorem y6 (done : List Int) : q8 n m L done = bif decide (fE n m L done < 0) then [] else gl n m L (fE n m L done) :: q8 n m L (ur done (gl n m L (fE n m L done))) := by
 unfold q8
 rw [Bl]
 cases h : decide (fE n m L done < 0) with
 | true => rfl
 | false =>
  have := wE (n := n) (m := m) (L := L) (done := done) (by simpa using h)
  rw [aa5, aa5, vU _ _ _ (by omega) (Nat.lt_succ_self _)]
end
end Go.Rl
namespace Go.Proofs.YtdpmikfheebicaaGreatDoor
open Go Go.Dn Go.Rl Go.Proofs
attribute [local irreducible] bh vc
set_option maxRecDepth 20000
def gh (op : Int) : Bool := decide (op = 1)
def fR (op : Int) : Bool := bif decide (op = 2) then true else decide (op ≥ 7)
def dj (op : Int) : Bool := bif decide (op < 3) then true else decide (op > 6)
theorem Zg (κ : Kp) (op : Int) (K : AV → List Dn.Obj → Prop) : (bh (NJ κ) 12 53 [.int op] [] K) = (
 K (AV.bool (op == (1 : Int))) []) := by kernel_rfl
def Q7 : List AV → Option (Bool × AV)
 | [.lit (.int .i64 op)] => some (true, .bool (gh op))
 | _ => none
theorem Zq (κ : Kp) : cx (NJ κ) 12 53 Q7 := by
 intro args x hh
 unfold Q7 at hh
 split at hh
 ·rename_i op
  simp only [aa3, aa9, true_and] at hh
  subst hh
  exact ⟨_, rfl, rfl, Eq.mpr (Zg κ op _) (by rw [Lb]; rfl)⟩
 ·cases hh
noncomputable def Nr (κ : Kp) : Env := (NJ κ).aE 53 Q7
theorem Yj (κ : Kp) : ay (Nr κ) := (Uo κ).aE (SV κ) (Zq κ)
theorem SA (κ : Kp) : ah (Nr κ) := (SV κ).aE
theorem V6 (κ : Kp) (op : Int) (K : AV → List Dn.Obj → Prop) : (bh (Nr κ) 12 72 [.int op] [] K) = (
 aD (op == (2 : Int)) (K (AV.bool true) []) (K (AV.bool (decide (op ≥ (7 : Int)))) [])) := by kernel_rfl
def Rg : List AV → Option (Bool × AV)
 | [.lit (.int .i64 op)] => some (true, .bool (fR op))
 | _ => none
theorem ZJ (κ : Kp) : cx (Nr κ) 12 72 Rg := by
 intro args x hh
 unfold Rg at hh
 split at hh
 ·rename_i op
  simp only [aa3, aa9, true_and] at hh
  subst hh
  refine ⟨_, rfl, rfl, Eq.mpr (V6 κ op _) ?_⟩
  simp only [Lb]
  unfold fR
  cases decide (op = 2) <;> rfl
 ·cases hh
noncomputable def OX (κ : Kp) : Env := (Nr κ).aE 72 Rg
theorem UH (κ : Kp) : ay (OX κ) := (Yj κ).aE (SA κ) (ZJ κ)
theorem S7 (κ : Kp) : ah (OX κ) := (SA κ).aE
theorem Yu (κ : Kp) (a : LA) (K : AV → List Dn.Obj → Prop) : (bh (OX κ) 12 114 [a.av] [] K) = (
 aD (decide (a.op < (3 : Int))) (K (AV.bool true) []) (K (AV.bool (decide (a.op > (6 : Int)))) [])) := by kernel_rfl
def Qu : List AV → Option (Bool × AV)
 | [.agg [.lit (.int .i64 op), .agg [.lit (.string _), .ae 52 _], .agg [.lit (.int .i64 _), .lit (.string _), .lit (.int .i64 _), .ae 52 _], .agg [.lit (.int .i64 _), .lit (.string _), .lit (.int .i64 _), .ae 52 _]]] => some (true, .bool (dj op))
 | _ => none
theorem XH (κ : Kp) : cx (OX κ) 12 114 Qu := by
 intro args x hh
 unfold Qu at hh
 split at hh
 ·rename_i op s l o1 s1 n1 l1 o2 s2 n2 l2
  simp only [aa3, aa9, true_and] at hh
  subst hh
  refine ⟨_, rfl, rfl, Eq.mpr (Yu κ ⟨op, s, l, o1, s1, n1, l1, o2, s2, n2, l2⟩ _) ?_⟩
  unfold dj
  simp only
  cases decide (op < 3) <;> rfl
 ·cases hh
noncomputable def Jo (κ : Kp) : Env := (OX κ).aE 114 Qu
theorem Wm (κ : Kp) : ay (Jo κ) := (UH κ).aE (S7 κ) (XH κ)
theorem SH (κ : Kp) : ah (Jo κ) := (S7 κ).aE
theorem X6 (κ : Kp) (l : List AV) (k i : Int) (I : Nat → S → Prop) (n : Nat) (K : Exit → S → Prop) : (vc (Jo κ) 12 75 none 0 (ag (Pr κ).toProgram 75 2) (sp 19 [(0, .ae 3 l), (1, .int k), (7, .int l.length), (8, .int i)] []) (bK (Jo κ) 75 2 0 I n K)) = (
 aD (decide (i < (↑(l.length) : Int))) (bg (decide ((0 : Int) ≤ i) && decide (i < (↑(l.length) : Int))) (aD (k == toInt (nth l i.toNat)) (K Exit.ret (sp 19
 [(4, AV.int i)] [])) (∃ (m : Nat), m < n ∧ I m (sp 19 [(0, AV.ae 3 l), (1, AV.int k), (7, AV.int (↑(l.length) : Int)), (8, AV.int (IntKind.wrap IntKind.i64 (i
 + (1 : Int))))] [])))) (K (Exit.exit 0) (sp 19 [] []))) := by kernel_rfl
def fH (k : Int) : List AV → Int → Int
 | [], _ => -1
 | a :: l, i => bif decide (k = toInt a) then i else fH k l (i + 1)
abbrev O1 (a : List AV × Int × Int) : S := sp 19 [(0, .ae 3 a.1), (1, .int a.2.1), (7, .int a.1.length), (8, .int a.2.2)] []
def FM (a : List AV × Int × Int) : Prop := a.1.length ≤ aL ∧ 0 ≤ a.2.2 ∧ a.2.2 ≤ a.1.length
def B7 (a : List AV × Int × Int) : Out (Exit × S) := .aD (decide (fH a.2.1 (a.1.drop a.2.2.toNat) a.2.2 ≥ 0)) (.one (.ret, sp 19 [(4, .int (fH a.2.1 (a.1.drop a.2.2.toNat) a.2.2))] [])) (.one (.exit 0, sp 19 [] []))
theorem Vq (κ : Kp) : bq (Jo κ) 12 75 2 (aO 0 O1 FM B7) := by
 refine aR (fun a => a.1.length - a.2.2.toNat) ?_
 rintro ⟨l, s, i⟩ K ⟨h1, h2, h3⟩ ho
 simp only at h1 h2 h3
 rw [show (Jo κ).P = Pr κ from rfl]
 refine Eq.mpr (X6 κ l s i _ _ K) ?_
 simp only [aL] at h1
 simp only [B7, Out.run, af] at ho
 simp only [af, ax, aa0, aa2, aa1, beq_iff_eq, beq_eq_false_iff_ne]
 refine ⟨fun hi => ⟨⟨h2, hi⟩, fun e => ?_, fun e => ?_⟩, fun hi => ?_⟩
 ·rw [ab1 (show i.toNat < l.length by omega), ← br l i.toNat (by omega), fH, aa6 e, aa7, aa6 (show i ≥ 0 from h2)] at ho
  exact ho.1 rfl
 ·rw [a8 (n := i + 1) (by omega) (by omega)]
  refine ⟨_, ?_, (l, s, i + 1), rfl, ⟨by simpa [aL] using h1, by simp only; omega, by simp only; omega⟩, rfl, ?_⟩
  ·simp only; omega
  ·rw [ab1 (show i.toNat < l.length by omega), ← br l i.toNat (by omega), fH, aa4 e, aa5] at ho
   simp only [B7, Out.run, af, show (i + 1).toNat = i.toNat + 1 by omega]
   exact ho
 ·rw [aa8 (by omega)] at ho
  exact ho.2 rfl
noncomputable def NT (κ : Kp) : Env := (Jo κ).aj 75 2 (aO 0 O1 FM B7)
theorem WN (κ : Kp) : ay (NT κ) := (Wm κ).aj (SH κ) (Vq κ)
theorem Sp (κ : Kp) : ah (NT κ) := (SH κ).aj aG
theorem ZA (κ : Kp) (l : List AV) (k : Int) (K : AV → List Dn.Obj → Prop) : (bh (NT κ) 12 75 [.ae 3 l, .int k] [] K) = (
 letI z1 := Pg.toProgram (Env.P (Jo κ))
 ag z1 75 2 = ag z1 75 2 ∧ ∃ (a : List AV × Int × Int), sp 19 [(0, AV.ae 3 l), (1, AV.int k), (7, AV.int (↑(l.length) : Int)), (8, AV.int 0)] [] = sp 19 [(0,
 AV.ae 3 a.1), (1, AV.int a.2.1), (7, AV.int (↑(a.1.length) : Int)), (8, AV.int a.2.2)] [] ∧ (a.1.length ≤ 9223372036854775807 ∧ (0 : Int) ≤ a.2.2 ∧ a.2.2 ≤
 (↑(a.1.length) : Int)) ∧ aD (decide (fH a.2.1 (List.drop (Int.toNat a.2.2) a.1) a.2.2 ≥ (0 : Int))) (K (AV.int (fH a.2.1 (List.drop (Int.toNat a.2.2) a.1)
 a.2.2)) []) (K (AV.int (-1)) [])) := by kernel_rfl
def Q4 : List AV → Option (Bool × AV)
 | [.ae 3 l, .lit (.int .i64 k)] => some (decide (l.length ≤ aL), .int (fH k l 0))
 | _ => none
theorem rW (s : Int) : ∀ (l : List AV) (i : Int), ¬ fH s l i ≥ 0 → 0 ≤ i → fH s l i = -1
 | [], _, _, _ => rfl
 | a :: l, i, h, h0 => by
  simp only [fH] at h ⊢
  cases e : decide (s = toInt a) with
  | true => rw [e] at h; exact absurd h0 h
  | false => rw [e] at h; exact rW s l (i + 1) h (by omega)
theorem Ys (κ : Kp) : cx (NT κ) 12 75 Q4 := by
 intro args x hh
 unfold Q4 at hh
 split at hh
 ·rename_i l s
  simp only [aa3, aa9, aa0] at hh
  obtain ⟨h1, rfl⟩ := hh
  refine ⟨_, rfl, rfl, ?_⟩
  refine Eq.mpr (ZA κ l s _) ?_
  refine ⟨rfl, (l, s, 0), rfl, ⟨h1, by simp only; omega, by simp only; omega⟩, ?_⟩
  simp only [ab7, ab0, af, aa0, aa2]
  exact ⟨fun _ => trivial, fun e => by rw [rW s l 0 e (by omega)]⟩
 ·cases hh
noncomputable def NU (κ : Kp) : Env := (NT κ).aE 75 Q4
theorem X9 (κ : Kp) : ay (NU κ) := (WN κ).aE (Sp κ) (Ys κ)
theorem Sj (κ : Kp) : ah (NU κ) := (Sp κ).aE
theorem YT (κ : Kp) (l : List AV) (k : Int) (K : AV → List Dn.Obj → Prop) : (bh (NU κ) 12 48 [.ae 3 l, .int k] [] K) = (
 bg (decide (l.length ≤ 9223372036854775807)) (K (AV.bool (decide (fH k l (0 : Int) ≥ (0 : Int)))) [])) := by kernel_rfl
def MY (k : Int) (l : List AV) : Bool := decide (fH k l 0 ≥ 0)
def PZ : List AV → Option (Bool × AV)
 | [.ae 3 l, .lit (.int .i64 k)] => some (decide (l.length ≤ aL), .bool (MY k l))
 | _ => none
theorem YU (κ : Kp) : cx (NU κ) 12 48 PZ := by
 intro args x hh
 unfold PZ at hh
 split at hh
 ·rename_i l s
  simp only [aa3, aa9, aa0] at hh
  obtain ⟨h1, rfl⟩ := hh
  refine ⟨_, rfl, rfl, ?_⟩
  refine Eq.mpr (YT κ l s _) ?_
  rw [ax, aa0]
  exact ⟨h1, rfl⟩
 ·cases hh
noncomputable def I8 (κ : Kp) : Env := (NU κ).aE 48 PZ
theorem Wn (κ : Kp) : ay (I8 κ) := (X9 κ).aE (Sj κ) (YU κ)
theorem SF (κ : Kp) : ah (I8 κ) := (Sj κ).aE
theorem uK (k : Int) : ∀ (l : List Int) (i : Int), 0 ≤ i → (fH k (iA l) i ≥ 0 ↔ k ∈ l)
 | [], _, _ => by simp [iA, fH]
 | a :: l, i, h0 => by
  have ih := uK k l (i + 1) (by omega)
  simp only [iA, ac0, fH] at ih ⊢
  by_cases h : k = a
  ·rw [show decide (k = toInt (AV.lit (.int .i64 a))) = true from aa6 h, aa7]
   exact ⟨fun _ => by simp [h], fun _ => h0⟩
  ·rw [show decide (k = toInt (AV.lit (.int .i64 a))) = false from aa4 h, aa5, ih]
   simp [h]
theorem Gt (k : Int) (l : List Int) : MY k (iA l) = l.contains k := by
 unfold MY
 rw [Bool.eq_iff_iff, aa0, uK k l 0 (by omega)]
 simp
def Al (ds : List AV) (a : Int) : List AV → List (Int × Int)
 | [] => []
 | l :: bl => bif dj (toInt (ad l 0)) then (a, cX (toStr (ad (ad l 1) 0)) ds) :: Al ds a bl else Al ds a bl
def RJ (ds : List AV) (r : AV) : List (Int × Int) := Al ds (cX (toStr (ad (ad r 0) 0)) ds) (ai (ad r 1))
def uk (ds rs : List AV) : List (Int × Int) := rs.flatMap (RJ ds)
def ye (E : List (Int × Int)) : List AV := E.map fun e => .bj [.int e.1, .int e.2]
theorem IY (E F : List (Int × Int)) : ye (E ++ F) = ye E ++ ye F := by simp [ye]
structure IL where
 ds : List AV
 rs : List AV
 xs : List AV
 more : List AV
 bl : List AV
 a : Int
 i : Int
 j : Int
abbrev G9 (x : IL) : S := sp 53 [(0, .ct 0), (1, .ptr 1 0 [] 0), (5, .int x.a), (12, .ae 41 x.rs), (13, .int x.rs.length), (14, .int x.i), (28, .ae 55 x.bl), (29, .int x.bl.length), (30, .int x.j)] [.ext (some x.xs), .box 25 (iK x.ds x.rs)]
theorem U4 (κ : Kp) (x : IL) (I : Nat → S → Prop) (n : Nat) (K : Exit → S → Prop) : (vc (I8 κ) 12 113 none 2 (ag (Pr κ).toProgram 113 5) (G9 x) (bK (I8 κ) 113 5 2 I n K)) = (
 letI z1 := AV.agg [AV.ae 62 x.ds, AV.ae 41 x.rs]
 letI z2 := IntKind.wrap IntKind.i64 (x.j + (1 : Int))
 aD (decide (x.j < (↑(x.bl.length) : Int))) (bg (decide ((0 : Int) ≤ x.j) && decide (x.j < (↑(x.bl.length) : Int))) (aD (!dj (toInt (ad (nth x.bl x.j.toNat) 0)))
 (∃ (m : Nat), m < n ∧ I m (sp 53 [(0, AV.ct 0), (1, AV.ptr 1 0 [] 0), (5, AV.int x.a), (12, AV.ae 41 x.rs), (13, AV.int (↑(x.rs.length) : Int)), (14, AV.int
 x.i), (28, AV.ae 55 x.bl), (29, AV.int (↑(x.bl.length) : Int)), (30, AV.int z2)] [Obj.ext (some x.xs), Obj.box 25 z1])) (∃ (a : List AV × ByteArray), ([AV.ae 62
 x.ds, AV.str (toStr (ad (ad (nth x.bl x.j.toNat) 1) 0))], aF) = ([AV.ae 62 a.1, AV.str a.2], aF) ∧ ie a ∧ ∃ (rest : List AV), x.xs = AV.bj [AV.int x.a, AV.int
 (cX a.2 a.1)] :: rest ∧ (∃ (m : Nat), m < n ∧ I m (sp 53 [(0, AV.ct 0), (1, AV.ptr 1 0 [] 0), (5, AV.int x.a), (12, AV.ae 41 x.rs), (13, AV.int (↑(x.rs.length)
 : Int)), (14, AV.int x.i), (28, AV.ae 55 x.bl), (29, AV.int (↑(x.bl.length) : Int)), (30, AV.int z2)] [Obj.ext (some rest), Obj.box 25 z1])) ∧ K Exit.ret (sp 53
 [] [Obj.ext none, Obj.box 25 z1])))) (K (Exit.exit 2) (sp 53 [(0, AV.ct 0), (1, AV.ptr 1 0 [] 0), (12, AV.ae 41 x.rs), (13, AV.int (↑(x.rs.length) : Int)), (14,
 AV.int x.i)] [Obj.ext (some x.xs), Obj.box 25 z1]))) := by kernel_rfl
def Bi (x : IL) : Prop := x.ds.length ≤ aL ∧ x.bl.length ≤ aL ∧ 0 ≤ x.j ∧ x.j ≤ x.bl.length ∧ x.xs = ye (Al x.ds x.a (x.bl.drop x.j.toNat)) ++ x.more
def He (x : IL) : Out (Exit × S) := .all (fun _ : Bool => True) fun b => .aD b
 (.one (.exit 2, sp 53 [(0, .ct 0), (1, .ptr 1 0 [] 0), (12, .ae 41 x.rs), (13, .int x.rs.length), (14, .int x.i)] [.ext (some x.more), .box 25 (iK x.ds x.rs)]))
 (.one (.ret, sp 53 [] [.ext none, .box 25 (iK x.ds x.rs)]))
theorem Hl (ds : List AV) (a : Int) (bl : List AV) (k : Nat) (h : k < bl.length) : Al ds a (bl.drop k) = bif dj (toInt (ad (nth bl k) 0)) then (a, cX (toStr (ad (ad (nth bl k) 1) 0)) ds) :: Al ds a (bl.drop (k + 1)) else Al ds a (bl.drop (k + 1)) := by
 rw [ab1 h, ← br bl k h, Al]
theorem Xk (κ : Kp) : bq (I8 κ) 12 113 5 (aO 2 G9 Bi He) := by
 refine aR (fun x => x.bl.length - x.j.toNat) ?_
 rintro ⟨ds, rs, xs, more, bl, a, i, j⟩ K ⟨h0, h1, h2, h3, h4⟩ ho
 simp only at h0 h1 h2 h3 h4
 rw [show (I8 κ).P = Pr κ from rfl]
 refine Eq.mpr (U4 κ ⟨ds, rs, xs, more, bl, a, i, j⟩ _ _ K) ?_
 simp only [aL] at h1
 have ho1 := ho true trivial
 have ho2 := ho false trivial
 simp only [Out.run, aD] at ho1 ho2
 simp only [af, ax, aa0, aa2, aa1]
 refine ⟨fun hj => ⟨⟨h2, hj⟩, ?_⟩, fun hj => ?_⟩
 ·have hd := Hl ds a bl j.toNat (by omega)
  rw [hd] at h4
  rw [a8 (n := j + 1) (by omega) (by omega)]
  have next : ∀ ys, ys = ye (Al ds a (bl.drop (j.toNat + 1))) ++ more → ∃ m, m < bl.length - j.toNat ∧ fF G9 Bi He (fun x => x.bl.length - x.j.toNat) K m (G9 ⟨ds, rs, ys, more, bl, a, i, j + 1⟩) := fun ys hy => by
   refine ⟨_, ?_, ⟨ds, rs, ys, more, bl, a, i, j + 1⟩, rfl, ⟨h0, by simpa [aL] using h1, by simp only; omega, by simp only; omega, ?_⟩, rfl, ho⟩
   ·simp only; omega
   ·simp only [show (j + 1).toNat = j.toNat + 1 by omega]; exact hy
  refine ⟨fun e => ?_, fun e => ?_⟩
  ·rw [show dj (toInt (ad (nth bl j.toNat) 0)) = false by simpa using e] at h4
   exact next _ h4
  ·rw [show dj (toInt (ad (nth bl j.toNat) 0)) = true by simpa using e] at h4
   exact ⟨(ds, toStr (ad (ad (nth bl j.toNat) 1) 0)), rfl, h0, _, h4, next _ rfl, ho2⟩
 ·rw [aa8 (by omega)] at h4
  have h4 : xs = more := h4
  subst h4
  exact ho1
noncomputable def IN (κ : Kp) : Env := (I8 κ).aj 113 5 (aO 2 G9 Bi He)
theorem VB (κ : Kp) : ay (IN κ) := (Wn κ).aj (SF κ) (Xk κ)
theorem RX (κ : Kp) : ah (IN κ) := (SF κ).aj aG
abbrev Kf (x : IL) : S := sp 53 [(0, .ct 0), (1, .ptr 1 0 [] 0), (12, .ae 41 x.rs), (13, .int x.rs.length), (14, .int x.i)] [.ext (some x.xs), .box 25 (iK x.ds x.rs)]
theorem Zp (κ : Kp) (x : IL) (I : Nat → S → Prop) (n : Nat) (K : Exit → S → Prop) : (vc (IN κ) 12 113 none 2 (ag (Pr κ).toProgram 113 1) (Kf x) (bK (IN κ) 113 1 2 I n K)) = (
 letI z1 := AV.agg [AV.ae 62 x.ds, AV.ae 41 x.rs]
 letI z2 := nth x.rs x.i.toNat
 letI z3 := Pg.toProgram (Env.P (I8 κ))
 aD (decide (x.i < (↑(x.rs.length) : Int))) (bg (decide ((0 : Int) ≤ x.i) && decide (x.i < (↑(x.rs.length) : Int))) (∃ (a : List AV × ByteArray), ([AV.ae 62
 x.ds, AV.str (toStr (ad (ad z2 0) 0))], aF) = ([AV.ae 62 a.1, AV.str a.2], aF) ∧ ie a ∧ ag z3 113 5 = ag z3 113 5 ∧ ∃ (a_1 : IL), sp 53 [(0, AV.ct 0), (1,
 AV.ptr 1 0 [] 0), (5, AV.int (cX a.2 a.1)), (12, AV.ae 41 x.rs), (13, AV.int (↑(x.rs.length) : Int)), (14, AV.int x.i), (28, AV.ae 55 (ai (ad z2 1))), (29,
 AV.int (↑(List.length (ai (ad z2 1))) : Int)), (30, AV.int 0)] [Obj.ext (some x.xs), Obj.box 25 z1] = sp 53 [(0, AV.ct 0), (1, AV.ptr 1 0 [] 0), (5, AV.int
 a_1.a), (12, AV.ae 41 a_1.rs), (13, AV.int (↑(a_1.rs.length) : Int)), (14, AV.int a_1.i), (28, AV.ae 55 a_1.bl), (29, AV.int (↑(a_1.bl.length) : Int)), (30,
 AV.int a_1.j)] [Obj.ext (some a_1.xs), Obj.box 25 (AV.agg [AV.ae 62 a_1.ds, AV.ae 41 a_1.rs])] ∧ (a_1.ds.length ≤ 9223372036854775807 ∧ a_1.bl.length ≤
 9223372036854775807 ∧ (0 : Int) ≤ a_1.j ∧ a_1.j ≤ (↑(a_1.bl.length) : Int) ∧ a_1.xs = ye (Al a_1.ds a_1.a (List.drop a_1.j.toNat a_1.bl)) ++ a_1.more) ∧ ∀ (y :
 Bool), True → aD y (∃ (m : Nat), m < n ∧ I m (sp 53 [(0, AV.ct 0), (1, AV.ptr 1 0 [] 0), (12, AV.ae 41 a_1.rs), (13, AV.int (↑(a_1.rs.length) : Int)), (14,
 AV.int (IntKind.wrap IntKind.i64 (a_1.i + (1 : Int))))] [Obj.ext (some a_1.more), Obj.box 25 (AV.agg [AV.ae 62 a_1.ds, AV.ae 41 a_1.rs])])) (K Exit.ret (sp 53
 [] [Obj.ext none, Obj.box 25 (AV.agg [AV.ae 62 a_1.ds, AV.ae 41 a_1.rs])])))) (K (Exit.exit 0) (sp 53 [] [Obj.ext (some x.xs), Obj.box 25 z1]))) := by kernel_rfl
def Hv (rs : List AV) : Prop := ∀ r, r ∈ rs → (ai (ad r 1)).length ≤ aL
def Bk (x : IL) : Prop := x.ds.length ≤ aL ∧ x.rs.length ≤ aL ∧ Hv x.rs ∧ 0 ≤ x.i ∧ x.i ≤ x.rs.length ∧ x.xs = ye (uk x.ds (x.rs.drop x.i.toNat))
def GD (x : IL) : Out (Exit × S) := .all (fun _ : Bool => True) fun b => .aD b
 (.one (.exit 0, sp 53 [] [.ext (some []), .box 25 (iK x.ds x.rs)]))
 (.one (.ret, sp 53 [] [.ext none, .box 25 (iK x.ds x.rs)]))
theorem Vh (κ : Kp) : bq (IN κ) 12 113 1 (aO 2 Kf Bk GD) := by
 refine aR (fun x => x.rs.length - x.i.toNat) ?_
 rintro ⟨ds, rs, xs, more, bl, a, i, j⟩ K ⟨h0, h1, h5, h2, h3, h4⟩ ho
 simp only at h0 h1 h2 h3 h4 h5
 rw [show (IN κ).P = Pr κ from rfl]
 refine Eq.mpr (Zp κ ⟨ds, rs, xs, more, bl, a, i, j⟩ _ _ K) ?_
 simp only [aL] at h1
 have ho1 := ho true trivial
 have ho2 := ho false trivial
 simp only [Out.run, aD] at ho1 ho2
 simp only [af, ax, aa0, aa2, aa1]
 refine ⟨fun hi => ⟨⟨h2, hi⟩, (ds, toStr (ad (ad (nth rs i.toNat) 0) 0)), rfl, h0, ?_⟩, fun hi => ?_⟩
 ·have hk : i.toNat < rs.length := by omega
  rw [uk, ab1 hk, ← br rs i.toNat hk, List.flatMap_cons, IY] at h4
  refine ⟨trivial, ⟨ds, rs, xs, ye (uk ds (rs.drop (i.toNat + 1))), ai (ad (nth rs i.toNat) 1), cX (toStr (ad (ad (nth rs i.toNat) 0) 0)) ds, i, 0⟩, rfl, ⟨h0, ?_, by simp only; omega, by simp only; omega, h4⟩, ?_⟩
  ·exact h5 _ (by rw [br _ _ hk]; exact List.getElem_mem _)
  ·intro y _
   refine ⟨fun _ => ?_, fun _ => ho2⟩
   ·show ∃ m, m < rs.length - i.toNat ∧ fF Kf Bk GD (fun x => x.rs.length - x.i.toNat) K m (sp 53 [(0, .ct 0), (1, .ptr 1 0 [] 0), (12, .ae 41 rs), (13, .int rs.length), (14, .int (IntKind.wrap IntKind.i64 (i + 1)))] [.ext (some (ye (uk ds (rs.drop (i.toNat + 1))))), .box 25 (iK ds rs)])
    rw [a8 (n := i + 1) (by omega) (by omega)]
    refine ⟨_, ?_, ⟨ds, rs, _, more, bl, a, i + 1, j⟩, rfl, ⟨h0, by simpa [aL] using h1, h5, by simp only; omega, by simp only; omega, ?_⟩, rfl, ho⟩
    ·simp only; omega
    ·simp only [show (i + 1).toNat = i.toNat + 1 by omega]; rfl
 ·rw [aa8 (by omega)] at h4
  have h4 : xs = [] := h4
  subst h4
  exact ho1
noncomputable def OG (κ : Kp) : Env := (IN κ).aj 113 1 (aO 2 Kf Bk GD)
theorem XI (κ : Kp) : ay (OG κ) := (VB κ).aj (RX κ) (Vh κ)
theorem So (κ : Kp) : ah (OG κ) := (RX κ).aj aG
theorem UP (κ : Kp) (ds rs xs : List AV) (K : AV → List Dn.Obj → Prop) : (bh (OG κ) 12 113 [.ct 0, .ptr 1 0 [] 0] [.ext (some xs), .box 25 (iK ds rs)] K) = (
 letI z1 := Pg.toProgram (Env.P (IN κ))
 ag z1 113 1 = ag z1 113 1 ∧ ∃ (a : IL), sp 53 [(0, AV.ct 0), (1, AV.ptr 1 0 [] 0), (12, AV.ae 41 rs), (13, AV.int (↑(rs.length) : Int)), (14, AV.int 0)]
 [Obj.ext (some xs), Obj.box 25 (AV.agg [AV.ae 62 ds, AV.ae 41 rs])] = sp 53 [(0, AV.ct 0), (1, AV.ptr 1 0 [] 0), (12, AV.ae 41 a.rs), (13, AV.int
 (↑(a.rs.length) : Int)), (14, AV.int a.i)] [Obj.ext (some a.xs), Obj.box 25 (AV.agg [AV.ae 62 a.ds, AV.ae 41 a.rs])] ∧ (a.ds.length ≤ 9223372036854775807 ∧
 a.rs.length ≤ 9223372036854775807 ∧ (∀ (r : AV), List.Mem r a.rs → List.length (ai (ad r 1)) ≤ 9223372036854775807) ∧ (0 : Int) ≤ a.i ∧ a.i ≤ (↑(a.rs.length) :
 Int) ∧ a.xs = ye (uk a.ds (List.drop a.i.toNat a.rs))) ∧ ∀ (y : Bool), True → aD y (K (AV.bj []) [Obj.ext (some []), Obj.box 25 (AV.agg [AV.ae 62 a.ds, AV.ae 41
 a.rs])]) (K (AV.bj []) [Obj.ext none, Obj.box 25 (AV.agg [AV.ae 62 a.ds, AV.ae 41 a.rs])])) := by kernel_rfl
def L6 (x : qB) : List AV × List Dn.Obj := ([.ct 0, .ptr 1 0 [] 0], [.ext (some (ye (uk x.1 x.2))), .box 25 (iK x.1 x.2)])
def Au (x : qB) : Prop := x.1.length ≤ aL ∧ x.2.length ≤ aL ∧ Hv x.2
def Gy (_ : qB) : Out (AV × List Dn.Obj) := .all (fun st' => vq st') fun st' => .one (.bj [], st')
theorem TJ (κ : Kp) : bu (OG κ) 12 113 (aW L6 Au Gy) := by
 refine ba ?_
 rintro ⟨ds, rs⟩ K ⟨h1, h2, h3⟩ ho
 refine Eq.mpr (UP κ ds rs (ye (uk ds rs)) K) ?_
 refine ⟨rfl, ⟨ds, rs, ye (uk ds rs), [], [], 0, 0, 0⟩, rfl, ⟨h1, h2, h3, by simp only; omega, by simp only; omega, rfl⟩, fun y _ => ?_⟩
 cases y
 ·exact ho _ trivial
 ·exact ho _ trivial
set_option maxRecDepth 20000 in
noncomputable def wU (κ : Kp) : Env := (OG κ).au 113 (aW L6 Au Gy)
theorem Uc (κ : Kp) : ay (wU κ) := (XI κ).au (So κ) (TJ κ)
theorem RP (κ : Kp) : ah (wU κ) := (So κ).au aH
end Go.Proofs.YtdpmikfheebicaaGreatDoor
namespace Go.Proofs.YtdpmikfheebicaaGreatDoor
open Go Go.Dn Go.Rl Go.Proofs
theorem oU {f : AV → Int} : ∀ {rs : List AV}, (CS f rs).2 = 0 ↔ ∀ x, x ∈ rs → f x = 0
 | [] => by simp [CS]
 | x :: l => by
  rw [CS]
  by_cases h : f x = 0
  ·rw [aa6 h, aa7, oU]; simp [h]
  ·rw [aa4 h, aa5]; simp [h]
theorem BB {ds rs : List AV} : (gA ds rs).2 = 0 ↔ ez ds rs = true ∧ (KR ds ds 0).2 = 0 ∧ (∀ x, x ∈ rs → iS ds x = 0) ∧ ∀ x, x ∈ rs → jV x = 0 := by
 unfold gA sO
 cases ez ds rs with
 | false => simp
 | true =>
  simp only [aa7, true_and]
  by_cases h : (KR ds ds 0).2 = 0
  ·rw [aa6 h, aa7]
   by_cases h2 : (CS (iS ds) rs).2 = 0
   ·rw [aa6 h2, aa7, oU]
    exact ⟨fun h3 => ⟨h, oU.1 h2, h3⟩, fun h3 => h3.2.2⟩
   ·rw [aa4 h2, aa5]
    exact ⟨fun h3 => absurd h3 h2, fun h3 => absurd (oU.2 h3.2.1) h2⟩
  ·rw [aa4 h, aa5, aa4 h, aa5]
   exact ⟨fun h3 => absurd h3 h, fun h3 => absurd h3.1 h⟩
theorem H9 {ds : List AV} {a : At} (h : known (b8 ds) a = 0) : 0 ≤ cX a.rel ds ∧ cX a.rel ds < ds.length := by
 unfold known at h
 cases e : iO a.rel (b8 ds) with
 | none => rw [e] at h; cases h
 | some k => obtain ⟨_, h2, h3⟩ := oS e; rw [h2]; omega
theorem OR {ds : List AV} {r : bQ} (h : (pW (ds, r)).1 = 0) : iE (b8 ds) (aI r) = 0 := by
 by_cases e : iE (b8 ds) (aI r) = 0
 ·exact e
 ·exfalso
  have hr : ∀ n, (eI getM fe (b8 ds) (aI r) (n + 1) []).1 = iE (b8 ds) (aI r) := fun n => by
   rw [eI, zu _ _ _ e, aa4 e, aa5]
  unfold pW ob at h
  simp only [hr, aa4 e, aa5] at h
  exact e h
theorem sz {ds : List Dc} : ∀ {b : List Lt}, gr ds b = 0 → ∀ l, l ∈ b → Rl.dj l = true → known ds l.a = 0
 | [], _, _, h, _ => nomatch h
 | x :: b, hk, l, hl, ha => by
  rw [gr] at hk
  cases e : Rl.dj x && !decide (known ds x.a = 0) with
  | true =>
   rw [e, aa7] at hk
   rw [hk] at e; simp at e
  | false =>
   rw [e, aa5] at hk
   rcases List.mem_cons.1 hl with rfl | hl
   ·rw [ha] at e; simpa using e
   ·exact sz hk l hl ha
theorem yR {ds rs : List AV} (h : (gA ds rs).2 = 0) {r : AV} (hr : r ∈ rs) : (0 ≤ cX (toStr (ad (ad r 0) 0)) ds ∧ cX (toStr (ad (ad r 0) 0)) ds < ds.length) ∧
  ∀ l, l ∈ ai (ad r 1) → dj (toInt (ad l 0)) = true → 0 ≤ cX (toStr (ad (ad l 1) 0)) ds ∧ cX (toStr (ad (ad l 1) 0)) ds < ds.length := by
 obtain ⟨h1, _, h2, _⟩ := BB.1 h
 have ht := h2 r hr
 have hk : iE (b8 ds) (aI (eF r)) = 0 := by
  refine OR ?_
  unfold iS at ht
  cases e : ez ds [an (eF r)] with
  | true => rw [e, aa7] at ht; exact ht
  | false => rw [e, aa5] at ht; cases ht
 unfold iE at hk
 cases e : decide (known (b8 ds) (aI (eF r)).head = 0) with
 | false => rw [e, aa5] at hk; simp [hk] at e
 | true =>
  rw [e, aa7] at hk
  refine ⟨H9 (a := (aI (eF r)).head) (by simpa using e), fun l hl ha => ?_⟩
  have hm : cj l ∈ (aI (eF r)).body := List.mem_map_of_mem hl
  refine H9 (a := (cj l).a) (sz hk _ hm ?_)
  have e1 : (cj l).op = toInt (ad l 0) := rfl
  unfold Rl.dj
  rw [e1]
  unfold dj at ha
  cases h3 : decide (toInt (ad l 0) < 3) with
  | true => rfl
  | false => rw [h3, aa5] at ha; simpa using ha
theorem w7 {ds : List AV} {a : Int} {e : Int × Int} : ∀ {bl : List AV}, e ∈ Al ds a bl ↔ ∃ l, l ∈ bl ∧ dj (toInt (ad l 0)) = true ∧ e = (a, cX (toStr (ad (ad l 1) 0)) ds)
 | [] => by simp [Al]
 | x :: bl => by
  rw [Al]
  cases h : dj (toInt (ad x 0)) with
  | true =>
   rw [aa7, ac1, w7]
   constructor
   ·rintro (rfl | ⟨l, h1, h2⟩)
    ·exact ⟨x, by simp, h, rfl⟩
    ·exact ⟨l, by simp [h1], h2⟩
   ·rintro ⟨l, h1, h2, h3⟩
    rcases List.mem_cons.1 h1 with rfl | h1
    ·exact .inl h3
    ·exact .inr ⟨l, h1, h2, h3⟩
  | false =>
   rw [aa5, w7]
   constructor
   ·rintro ⟨l, h1, h2⟩
    exact ⟨l, by simp [h1], h2⟩
   ·rintro ⟨l, h1, h2, h3⟩
    rcases List.mem_cons.1 h1 with rfl | h1
    ·rw [h] at h2; cases h2
    ·exact ⟨l, h1, h2, h3⟩
theorem Jk {ds rs : List AV} {e : Int × Int} : e ∈ uk ds rs ↔ ∃ r, r ∈ rs ∧ ∃ l, l ∈ ai (ad r 1) ∧ dj (toInt (ad l 0)) = true ∧ e = (cX (toStr (ad (ad r 0) 0)) ds, cX (toStr (ad (ad l 1) 0)) ds) := by
 unfold uk
 rw [List.mem_flatMap]
 exact exists_congr fun r => and_congr_right fun _ => w7
def Pl (ds rs : List AV) : Prop := ∀ e, e ∈ uk ds rs → (0 ≤ e.1 ∧ e.1 < ds.length) ∧ 0 ≤ e.2 ∧ e.2 < ds.length
theorem OD {ds rs : List AV} (h : (gA ds rs).2 = 0) : Pl ds rs := by
 intro e he
 obtain ⟨r, h1, l, h2, h3, rfl⟩ := Jk.1 he
 have := yR h h1
 exact ⟨this.1, this.2 l h2 h3⟩
end Go.Proofs.YtdpmikfheebicaaGreatDoor
namespace Go.Rl
open Go Go.Dn
theorem qi (D : List Int) (b : Int) : ∃ t td, D ++ [b] = t :: td ∧ (t :: td).dropLast = D ∧ dI (t :: td) = b := by
 cases D with
 | nil => exact ⟨b, [], rfl, rfl, rfl⟩
 | cons t D =>
  refine ⟨t, D ++ [b], rfl, ?_, ?_⟩
  ·rw [← List.cons_append, List.dropLast_concat]
  ·have := uL (t := t) (todo := D ++ [b])
   rw [← List.cons_append, List.dropLast_concat] at this
   simpa using List.append_inj_right this rfl
theorem vw {n m : Nat} {L : Gr} (hG : WG n m L) {D met : List Int} {b : Int} (hs : Sd n m (D ++ [b]) met) :
  tO n m L (D ++ [b]) met = bif met.contains b then tO n m L D met else tO n m L (D ++ L.at b) (met ++ [b]) := by
 obtain ⟨t, td, e, e1, e2⟩ := qi D b
 rw [e] at hs ⊢
 rw [Ea hG hs, e1, e2]
theorem Sd.Pn {n m : Nat} {D met : List Int} {b : Int} (h : Sd n m (D ++ [b]) met) : Sd n m D met ∧ ms n m D met < ms n m (D ++ [b]) met := by
 obtain ⟨t, td, e, e1, e2⟩ := qi D b
 rw [e] at h ⊢
 have h1 := h.pop
 have h2 := xv n m t td met
 rw [e1] at h1 h2
 exact ⟨h1, h2⟩
theorem Sd.Nc {n m : Nat} {L : Gr} (hG : WG n m L) {D met : List Int} {b : Int} (h : Sd n m (D ++ [b]) met) (hn : met.contains b = false) : Sd n m (D ++ L.at b) (met ++ [b]) ∧ ms n m (D ++ L.at b) (met ++ [b]) < ms n m (D ++ [b]) met := by
 obtain ⟨t, td, e, e1, e2⟩ := qi D b
 have hb := h.ht b (by simp)
 rw [e] at h ⊢
 rw [← e2] at hn hb
 have h1 := h.add hG hn
 have h2 := yc hG t td met hb hn
 rw [e1, e2] at h1 h2
 exact ⟨h1, h2⟩
end Go.Rl
namespace Go.Proofs.YtdpmikfheebicaaGreatDoor
open Go Go.Dn Go.Rl Go.Proofs
attribute [local irreducible] bh vc
set_option maxRecDepth 20000
abbrev fb (k : Int) : Value := .int .i64 k
def cB (L : Gr) : List (List Value) := L.map fun l => l.map fb
def gb (l : List Int) : List (Value × AV) := l.map fun k => (fb k, .lit (.bool true))
abbrev MQ (l : List Int) : AV := .iq 3 4 (l.map fb) (l.map fun _ => .lit (.bool true))
theorem DK : ∀ (l : List (List Int)) (k : Nat), bw (l.map fun l => l.map fb) k = (l.getD k []).map fb
 | [], k => by cases k <;> rfl
 | _ :: _, 0 => rfl
 | _ :: l, k + 1 => by simpa [bw] using DK l k
theorem kn (L : Gr) (a : Int) : bw (cB L) a.toNat = (L.at a).map fb := DK L a.toNat
theorem kE (b : Int) : ∀ l : List Int, cF (gb l) (fb b) (.lit (.bool false)) = .lit (.bool (l.contains b))
 | [] => rfl
 | a :: l => by
  have ih := kE b l
  simp only [gb, ac0, cF] at ih ⊢
  have e : cv (fb b) (fb a) = (b == a) := by simp [cv]
  rw [e, ih, List.contains_cons]
  cases b == a <;> rfl
theorem pb (b : Int) : ∀ l : List Int, dU (gb l) (fb b) (.lit (.bool true)) = gb (bif l.contains b then l else l ++ [b])
 | [] => rfl
 | a :: l => by
  have ih := pb b l
  simp only [gb, ac0, dU] at ih ⊢
  have e : cv (fb b) (fb a) = (b == a) := by simp [cv]
  rw [e, ih, List.contains_cons]
  cases h : b == a with
  | true =>
   have : b = a := by simpa using h
   subst this; rfl
  | false => cases l.contains b <;> rfl
theorem rB (l : List Int) : (gb l).map (·.1) = l.map fb := by simp [gb]
theorem rF (l : List Int) : (gb l).map (·.2) = l.map fun _ => .lit (.bool true) := by simp [gb]
abbrev Ia (ls : List (List Value)) : Dn.Obj := .rows 48 3 ls none
abbrev re (n : Nat) (ls : List (List Value)) (fs : List AV) : List Dn.Obj := [.box 82 (.agg [.aB 1 0 n, .aB 2 0 fs.length]), Ia ls, .row 68 fs]
abbrev uq (n : Nat) (ls : List (List Value)) : List Dn.Obj := [.box 82 (.agg [.aB 1 0 n, .nil]), Ia ls]
theorem JK (D tl : List AV) (x : AV) : nth (D ++ x :: tl) (0 + D.length) = x := by
 rw [Nat.zero_add]
 induction D with
 | nil => rfl
 | cons a D ih => exact ih
theorem Cd (D : List Int) (b : Int) (tl : List AV) : ((D ++ [b]).length : Int) - 1 = D.length ∧ iA (D ++ [b]) ++ tl = iA D ++ AV.int b :: tl ∧ nth (iA D ++ AV.int b :: tl) (0 + D.length) = AV.int b ∧ (iA D ++ AV.int b :: tl).take D.length = iA D ∧ toInt (AV.int b) = b := by
 have e2 := JK (iA D) tl (AV.int b)
 rw [gU] at e2
 exact ⟨by simp, by simp [iA], e2, List.take_left' (gU D), rfl⟩
theorem z7 (L : Gr) (a : Int) : (bw (cB L) a.toNat).length = (L.at a).length := by rw [kn, List.length_map]
theorem wi (L : Gr) (a : Int) : List.map AV.lit (List.take (bw (cB L) a.toNat).length (bw (cB L) a.toNat)) = iA (L.at a) := by
 rw [List.take_length, kn, List.map_map]; rfl
structure IK where
 n : Nat
 m : Nat
 L : Gr
 fs : List AV
 todo : List Int
 met : List Int
 tl : List AV
def wO (x : IK) : Prop := WG x.n x.m x.L ∧ Sd x.n x.m x.todo x.met ∧ (x.n + 1) * x.m ≤ 1000000000
def iQ (x : IK) : List Int := tO x.n x.m x.L x.todo x.met
theorem UR (κ : Kp) (N : Nat) (ls : List (List Value)) (fs : List AV) (es : List (Value × AV)) (ws : List AV) (k : Nat) (I : Nat → S → Prop) (n : Nat) (K : Exit → S → Prop) : (vc (wU κ) 12 71 none 3 (ag (Pr κ).toProgram 71 3) (sp 48 [(0, .ptr 0 0 [] 0), (5, .mp 3), (6, .aB 4 0 k)] (re N ls fs ++ [.map 3 4 es, .row 3 ws])) (bK (wU κ) 71 3 3 I n K)) = (
 letI z4 := AV.agg [AV.aB 1 0 N, AV.aB 2 0 fs.length]
 letI z5 := (1 : Int)
 letI z2 := IntKind.wrap IntKind.i64 ((↑k : Int) - z5)
 letI z1 := nth ws (0 + Int.toNat z2)
 letI z6 := Value.int IntKind.i64 (toInt z1)
 letI z7 := bw ls (Int.toNat (toInt z1))
 letI z3 := List.take (List.length z7) z7
 aD (decide ((↑k : Int) > (0 : Int))) (bg (decide ((0 : Int) ≤ IntKind.wrap IntKind.i64 ((↑k : Int) - z5)) && decide (IntKind.wrap IntKind.i64 ((↑k : Int) - z5)
 < (↑k : Int))) (bg (decide ((0 : Int) ≤ IntKind.wrap IntKind.i64 ((↑k : Int) - z5)) && decide (IntKind.wrap IntKind.i64 ((↑k : Int) - z5) ≤ IntKind.wrap
 IntKind.i64 ((↑k : Int) - z5)) && decide (IntKind.wrap IntKind.i64 ((↑k : Int) - z5) ≤ (↑k : Int))) (aD (!Dn.toBool (cF es z6 (AV.bool false))) (bg (decide ((0
 : Int) ≤ toInt z1) && decide (toInt z1 < (↑N : Int))) (bg (decide ((Int.toNat z2 + List.length (List.map AV.lit z3) + 1) * 9 ≤ 70368744177664)) (∃ (m : Nat), m
 < n ∧ I m (sp 48 [(0, AV.ptr 0 0 [] 0), (5, AV.mp 3), (6, AV.aB 4 0 (Int.toNat z2 + List.length (List.map AV.lit z3)))] [Obj.box 82 z4, Obj.rows 48 3 ls none,
 Obj.row 68 fs, Dn.Obj.map 3 4 (dU es z6 (AV.bool true)), Obj.row 3 (List.take (Int.toNat z2) ws ++ List.map AV.lit z3)])))) (∃ (m : Nat), m < n ∧ I m (sp 48
 [(0, AV.ptr 0 0 [] 0), (5, AV.mp 3), (6, AV.aB 4 0 (Int.toNat z2))] [Obj.box 82 z4, Obj.rows 48 3 ls none, Obj.row 68 fs, Dn.Obj.map 3 4 es, Obj.row 3 ws])))))
 (K (Exit.exit 0) (sp 48 [(5, AV.mp 3)] [Obj.box 82 z4, Obj.rows 48 3 ls none, Obj.row 68 fs, Dn.Obj.map 3 4 es]))) := by kernel_rfl
abbrev LP (x : IK) : S := sp 48 [(0, .ptr 0 0 [] 0), (5, .mp 3), (6, .aB 4 0 x.todo.length)] (re x.n (cB x.L) x.fs ++ [.map 3 4 (gb x.met), .row 3 (iA x.todo ++ x.tl)])
def yN (x : IK) : Out (Exit × S) := .one (.exit 0, sp 48 [(5, .mp 3)] (re x.n (cB x.L) x.fs ++ [.map 3 4 (gb (iQ x))]))
theorem Uv (κ : Kp) : bq (wU κ) 12 71 3 (aO 3 LP wO yN) := by
 refine aR (fun x => ms x.n x.m x.todo x.met) ?_
 rintro ⟨n, m, L, fs, todo, met, tl⟩ K ⟨hG, hS, hb⟩ ho
 simp only at hG hS hb
 rw [show (wU κ).P = Pr κ from rfl]
 refine Eq.mpr (UR κ n (cB L) fs (gb met) (iA todo ++ tl) todo.length _ _ K) ?_
 simp only [yN, iQ, Out.run] at ho
 rw [af, aa0, aa2]
 refine ⟨fun h => ?_, fun h => ?_⟩
 ·obtain ⟨D, b, rfl⟩ : ∃ D b, todo = D ++ [b] := ⟨_, _, (List.dropLast_concat_getLast (by intro e; subst e; simp at h)).symm⟩
  have hle := hS.le
  have hbr := hS.ht b (by simp)
  have hlm := hG.le b
  have hlen := hG.len
  have hmn : m ≤ (n + 1) * m := Nat.le_mul_of_pos_left m (Nat.succ_pos n)
  obtain ⟨e0, e1, e2, e3, e4⟩ := Cd D b tl
  simp only [ab8, List.length_singleton] at hle
  rw [e0, a8 (n := (D.length : Int)) (by omega) (by omega), e1, Int.toNat_natCast, e2, e3, e4, kE, pb, kn, List.take_length, List.map_map]
  rw [vw hG hS] at ho
  simp only [ax, af, aa0, aa1, List.length_map, ab8, List.length_singleton, show Dn.toBool (AV.lit (.bool (met.contains b))) = met.contains b from rfl]
  refine ⟨⟨by omega, by omega⟩, ⟨⟨by omega, by omega⟩, by omega⟩, fun e => ?_, fun e => ?_⟩
  ·have e : met.contains b = false := by simpa using e
   obtain ⟨h1, h2⟩ := hS.Nc hG e
   rw [e, aa5] at ho
   refine ⟨⟨by omega, by omega⟩, by omega, _, h2, ⟨n, m, L, fs, D ++ L.at b, met ++ [b], []⟩, ?_, ⟨hG, h1, hb⟩, rfl, ?_⟩
   ·rw [e, aa5]
    simp only [LP, List.append_nil, ab8, xp]
    rfl
   ·simp only [yN, iQ, Out.run]
    exact ho
  ·have e : met.contains b = true := by simpa using e
   obtain ⟨h1, h2⟩ := hS.Pn
   rw [e, aa7] at ho
   refine ⟨_, h2, ⟨n, m, L, fs, D, met, AV.int b :: tl⟩, rfl, ⟨hG, h1, hb⟩, rfl, ?_⟩
   simp only [yN, iQ, Out.run]
   exact ho
 ·obtain rfl : todo = [] := List.eq_nil_of_length_eq_zero (by omega)
  rw [yq] at ho
  exact ho
theorem VN (κ : Kp) (N : Nat) (ls : List (List Value)) (es : List (Value × AV)) (ws : List AV) (k : Nat) (I : Nat → S → Prop) (n : Nat) (K : Exit → S → Prop) : (vc (wU κ) 12 71 none 2 (ag (Pr κ).toProgram 71 3) (sp 48 [(0, .ptr 0 0 [] 0), (5, .mp 2), (6, .aB 3 0 k)] (uq N ls ++ [.map 3 4 es, .row 3 ws])) (bK (wU κ) 71 3 2 I n K)) = (
 letI z4 := AV.agg [AV.aB 1 0 N, AV.nil]
 letI z5 := (1 : Int)
 letI z2 := IntKind.wrap IntKind.i64 ((↑k : Int) - z5)
 letI z1 := nth ws (0 + Int.toNat z2)
 letI z6 := Value.int IntKind.i64 (toInt z1)
 letI z7 := bw ls (Int.toNat (toInt z1))
 letI z3 := List.take (List.length z7) z7
 aD (decide ((↑k : Int) > (0 : Int))) (bg (decide ((0 : Int) ≤ IntKind.wrap IntKind.i64 ((↑k : Int) - z5)) && decide (IntKind.wrap IntKind.i64 ((↑k : Int) - z5)
 < (↑k : Int))) (bg (decide ((0 : Int) ≤ IntKind.wrap IntKind.i64 ((↑k : Int) - z5)) && decide (IntKind.wrap IntKind.i64 ((↑k : Int) - z5) ≤ IntKind.wrap
 IntKind.i64 ((↑k : Int) - z5)) && decide (IntKind.wrap IntKind.i64 ((↑k : Int) - z5) ≤ (↑k : Int))) (aD (!Dn.toBool (cF es z6 (AV.bool false))) (bg (decide ((0
 : Int) ≤ toInt z1) && decide (toInt z1 < (↑N : Int))) (bg (decide ((Int.toNat z2 + List.length (List.map AV.lit z3) + 1) * 9 ≤ 70368744177664)) (∃ (m : Nat), m
 < n ∧ I m (sp 48 [(0, AV.ptr 0 0 [] 0), (5, AV.mp 2), (6, AV.aB 3 0 (Int.toNat z2 + List.length (List.map AV.lit z3)))] [Obj.box 82 z4, Obj.rows 48 3 ls none,
 Dn.Obj.map 3 4 (dU es z6 (AV.bool true)), Obj.row 3 (List.take (Int.toNat z2) ws ++ List.map AV.lit z3)])))) (∃ (m : Nat), m < n ∧ I m (sp 48 [(0, AV.ptr 0 0 []
 0), (5, AV.mp 2), (6, AV.aB 3 0 (Int.toNat z2))] [Obj.box 82 z4, Obj.rows 48 3 ls none, Dn.Obj.map 3 4 es, Obj.row 3 ws]))))) (K (Exit.exit 0) (sp 48 [(5, AV.mp
 2)] [Obj.box 82 z4, Obj.rows 48 3 ls none, Dn.Obj.map 3 4 es]))) := by kernel_rfl
abbrev LG (x : IK) : S := sp 48 [(0, .ptr 0 0 [] 0), (5, .mp 2), (6, .aB 3 0 x.todo.length)] (uq x.n (cB x.L) ++ [.map 3 4 (gb x.met), .row 3 (iA x.todo ++ x.tl)])
def zc (x : IK) : Out (Exit × S) := .one (.exit 0, sp 48 [(5, .mp 2)] (uq x.n (cB x.L) ++ [.map 3 4 (gb (iQ x))]))
theorem Xs (κ : Kp) : bq (wU κ) 12 71 3 (aO 2 LG wO zc) := by
 refine aR (fun x => ms x.n x.m x.todo x.met) ?_
 rintro ⟨n, m, L, fs, todo, met, tl⟩ K ⟨hG, hS, hb⟩ ho
 simp only at hG hS hb
 rw [show (wU κ).P = Pr κ from rfl]
 refine Eq.mpr (VN κ n (cB L) (gb met) (iA todo ++ tl) todo.length _ _ K) ?_
 simp only [zc, iQ, Out.run] at ho
 rw [af, aa0, aa2]
 refine ⟨fun h => ?_, fun h => ?_⟩
 ·obtain ⟨D, b, rfl⟩ : ∃ D b, todo = D ++ [b] := ⟨_, _, (List.dropLast_concat_getLast (by intro e; subst e; simp at h)).symm⟩
  have hle := hS.le
  have hbr := hS.ht b (by simp)
  have hlm := hG.le b
  have hlen := hG.len
  have hmn : m ≤ (n + 1) * m := Nat.le_mul_of_pos_left m (Nat.succ_pos n)
  obtain ⟨e0, e1, e2, e3, e4⟩ := Cd D b tl
  simp only [ab8, List.length_singleton] at hle
  rw [e0, a8 (n := (D.length : Int)) (by omega) (by omega), e1, Int.toNat_natCast, e2, e3, e4, kE, pb, kn, List.take_length, List.map_map]
  rw [vw hG hS] at ho
  simp only [ax, af, aa0, aa1, List.length_map, ab8, List.length_singleton, show Dn.toBool (AV.lit (.bool (met.contains b))) = met.contains b from rfl]
  refine ⟨⟨by omega, by omega⟩, ⟨⟨by omega, by omega⟩, by omega⟩, fun e => ?_, fun e => ?_⟩
  ·have e : met.contains b = false := by simpa using e
   obtain ⟨h1, h2⟩ := hS.Nc hG e
   rw [e, aa5] at ho
   refine ⟨⟨by omega, by omega⟩, by omega, _, h2, ⟨n, m, L, fs, D ++ L.at b, met ++ [b], []⟩, ?_, ⟨hG, h1, hb⟩, rfl, ?_⟩
   ·rw [e, aa5]
    simp only [LG, List.append_nil, ab8, xp]
    rfl
   ·simp only [zc, iQ, Out.run]
    exact ho
  ·have e : met.contains b = true := by simpa using e
   obtain ⟨h1, h2⟩ := hS.Pn
   rw [e, aa7] at ho
   refine ⟨_, h2, ⟨n, m, L, fs, D, met, AV.int b :: tl⟩, rfl, ⟨hG, h1, hb⟩, rfl, ?_⟩
   simp only [zc, iQ, Out.run]
   exact ho
 ·obtain rfl : todo = [] := List.eq_nil_of_length_eq_zero (by omega)
  rw [yq] at ho
  exact ho
def Na (s : S) : Bool := Nat.beq s.st.length 5
noncomputable def LW (κ : Kp) : Env := (wU κ).aj 71 3 (pr Na (aO 3 LP wO yN) (aO 2 LG wO zc))
theorem XQ (κ : Kp) : ay (LW κ) := (Uc κ).aj (RP κ) (mA (Uv κ) (Xs κ))
theorem Tg (κ : Kp) : ah (LW κ) := (RP κ).aj (ju aG aG)
structure L2 where
 n : Nat
 m : Nat
 L : Gr
 fs : List AV
 a : Int
def B1 (x : L2) : Prop := WG x.n x.m x.L ∧ (x.n + 1) * x.m ≤ 1000000000 ∧ 0 ≤ x.a ∧ x.a < x.n
theorem Yq (κ : Kp) (N : Nat) (ls : List (List Value)) (fs : List AV) (a : Int) (K : AV → List Dn.Obj → Prop) : (bh (LW κ) 12 71 [.ptr 0 0 [] 0, .int a] (re N ls fs) K) = (
 letI z1 := Pg.toProgram (Env.P (wU κ))
 letI z2 := AV.agg [AV.aB 1 0 N, AV.aB 2 0 fs.length]
 bg (decide ((0 : Int) ≤ a) && decide (a < (↑N : Int))) ((Nat.beq (List.length (bw ls a.toNat)) 0 = true → ag z1 71 3 = ag z1 71 3 ∧ ∃ (a : IK), sp 48 [(0,
 AV.ptr 0 0 [] 0), (5, AV.mp 3), (6, AV.aB 4 0 0)] [Obj.box 82 z2, Obj.rows 48 3 ls none, Obj.row 68 fs, Dn.Obj.map 3 4 [], Obj.row 3 []] = sp 48 [(0, AV.ptr 0 0
 [] 0), (5, AV.mp 3), (6, AV.aB 4 0 a.todo.length)] [Obj.box 82 (AV.agg [AV.aB 1 0 a.n, AV.aB 2 0 a.fs.length]), Obj.rows 48 3 (cB a.L) none, Obj.row 68 a.fs,
 Dn.Obj.map 3 4 (gb a.met), Obj.row 3 (iA a.todo ++ a.tl)] ∧ (WG a.n a.m a.L ∧ Sd a.n a.m a.todo a.met ∧ (a.n + 1) * a.m ≤ 1000000000) ∧ K (AV.iq 3 4 (List.map
 (fun (x : Value × AV) => x.1) (gb (iQ a))) (List.map (fun (x : Value × AV) => x.2) (gb (iQ a)))) [Obj.box 82 (AV.agg [AV.aB 1 0 a.n, AV.aB 2 0 a.fs.length]),
 Obj.rows 48 3 (cB a.L) none, Obj.row 68 a.fs]) ∧ bg (decide ((0 + List.length (List.map AV.lit (List.take (List.length (bw ls a.toNat)) (bw ls a.toNat))) + 1) *
 9 ≤ 70368744177664)) (ag z1 71 3 = ag z1 71 3 ∧ ∃ (a_1 : IK), sp 48 [(0, AV.ptr 0 0 [] 0), (5, AV.mp 3), (6, AV.aB 4 0 (0 + List.length (List.map AV.lit
 (List.take (List.length (bw ls a.toNat)) (bw ls a.toNat)))))] [Obj.box 82 z2, Obj.rows 48 3 ls none, Obj.row 68 fs, Dn.Obj.map 3 4 [], Obj.row 3 ([] ++ List.map
 AV.lit (List.take (List.length (bw ls a.toNat)) (bw ls a.toNat)))] = sp 48 [(0, AV.ptr 0 0 [] 0), (5, AV.mp 3), (6, AV.aB 4 0 a_1.todo.length)] [Obj.box 82
 (AV.agg [AV.aB 1 0 a_1.n, AV.aB 2 0 a_1.fs.length]), Obj.rows 48 3 (cB a_1.L) none, Obj.row 68 a_1.fs, Dn.Obj.map 3 4 (gb a_1.met), Obj.row 3 (iA a_1.todo ++
 a_1.tl)] ∧ (WG a_1.n a_1.m a_1.L ∧ Sd a_1.n a_1.m a_1.todo a_1.met ∧ (a_1.n + 1) * a_1.m ≤ 1000000000) ∧ K (AV.iq 3 4 (List.map (fun (x : Value × AV) => x.1)
 (gb (iQ a_1))) (List.map (fun (x : Value × AV) => x.2) (gb (iQ a_1)))) [Obj.box 82 (AV.agg [AV.aB 1 0 a_1.n, AV.aB 2 0 a_1.fs.length]), Obj.rows 48 3 (cB a_1.L)
 none, Obj.row 68 a_1.fs]))) := by kernel_rfl
def Ls (x : L2) : List AV × List Dn.Obj := ([.ptr 0 0 [] 0, .int x.a], re x.n (cB x.L) x.fs)
def BF (x : L2) : Out (AV × List Dn.Obj) := .one (MQ (gp x.n x.m x.L x.a), re x.n (cB x.L) x.fs)
theorem TS (κ : Kp) : bu (LW κ) 12 71 (aW Ls B1 BF) := by
 refine ba ?_
 rintro ⟨n, m, L, fs, a⟩ K ⟨hG, hb, h0, h1⟩ ho
 simp only at hG hb h0 h1
 refine Eq.mpr (Yq κ n (cB L) fs a K) ?_
 simp only [BF, Out.run, gp] at ho
 have hS := Sd.start hG h0
 have hle := hG.le a
 have hmn : m ≤ (n + 1) * m := Nat.le_mul_of_pos_left m (Nat.succ_pos n)
 rw [wi, gU, z7, ax, ax, aa1, aa0, aa0, aa0]
 refine ⟨⟨h0, h1⟩, fun e => ⟨rfl, ⟨n, m, L, fs, [], [], []⟩, rfl, ⟨hG, ?_, hb⟩, ?_⟩, by omega, rfl, ⟨n, m, L, fs, L.at a, [], []⟩, ?_, ⟨hG, hS, hb⟩, ?_⟩
 ·have e : L.at a = [] := List.eq_nil_of_length_eq_zero (Nat.eq_of_beq_eq_true e)
  have h2 := hS
  rw [e] at h2; exact h2
 ·have e : L.at a = [] := List.eq_nil_of_length_eq_zero (Nat.eq_of_beq_eq_true e)
  rw [e] at ho
  simp only [rB, rF]
  exact ho
 ·simp only [List.append_nil, Nat.zero_add]
  rfl
 ·simp only [rB, rF]
  exact ho
theorem Zi (κ : Kp) (N : Nat) (ls : List (List Value)) (a : Int) (K : AV → List Dn.Obj → Prop) : (bh (LW κ) 12 71 [.ptr 0 0 [] 0, .int a] (uq N ls) K) = (
 letI z1 := Pg.toProgram (Env.P (wU κ))
 letI z2 := AV.agg [AV.aB 1 0 N, AV.nil]
 bg (decide ((0 : Int) ≤ a) && decide (a < (↑N : Int))) ((Nat.beq (List.length (bw ls a.toNat)) 0 = true → ag z1 71 3 = ag z1 71 3 ∧ ∃ (a : IK), sp 48 [(0,
 AV.ptr 0 0 [] 0), (5, AV.mp 2), (6, AV.aB 3 0 0)] [Obj.box 82 z2, Obj.rows 48 3 ls none, Dn.Obj.map 3 4 [], Obj.row 3 []] = sp 48 [(0, AV.ptr 0 0 [] 0), (5,
 AV.mp 2), (6, AV.aB 3 0 a.todo.length)] [Obj.box 82 (AV.agg [AV.aB 1 0 a.n, AV.nil]), Obj.rows 48 3 (cB a.L) none, Dn.Obj.map 3 4 (gb a.met), Obj.row 3 (iA
 a.todo ++ a.tl)] ∧ (WG a.n a.m a.L ∧ Sd a.n a.m a.todo a.met ∧ (a.n + 1) * a.m ≤ 1000000000) ∧ K (AV.iq 3 4 (List.map (fun (x : Value × AV) => x.1) (gb (iQ a)))
 (List.map (fun (x : Value × AV) => x.2) (gb (iQ a)))) [Obj.box 82 (AV.agg [AV.aB 1 0 a.n, AV.nil]), Obj.rows 48 3 (cB a.L) none]) ∧ bg (decide ((0 + List.length
 (List.map AV.lit (List.take (List.length (bw ls a.toNat)) (bw ls a.toNat))) + 1) * 9 ≤ 70368744177664)) (ag z1 71 3 = ag z1 71 3 ∧ ∃ (a_1 : IK), sp 48 [(0,
 AV.ptr 0 0 [] 0), (5, AV.mp 2), (6, AV.aB 3 0 (0 + List.length (List.map AV.lit (List.take (List.length (bw ls a.toNat)) (bw ls a.toNat)))))] [Obj.box 82 z2,
 Obj.rows 48 3 ls none, Dn.Obj.map 3 4 [], Obj.row 3 ([] ++ List.map AV.lit (List.take (List.length (bw ls a.toNat)) (bw ls a.toNat)))] = sp 48 [(0, AV.ptr 0 0
 [] 0), (5, AV.mp 2), (6, AV.aB 3 0 a_1.todo.length)] [Obj.box 82 (AV.agg [AV.aB 1 0 a_1.n, AV.nil]), Obj.rows 48 3 (cB a_1.L) none, Dn.Obj.map 3 4 (gb a_1.met),
 Obj.row 3 (iA a_1.todo ++ a_1.tl)] ∧ (WG a_1.n a_1.m a_1.L ∧ Sd a_1.n a_1.m a_1.todo a_1.met ∧ (a_1.n + 1) * a_1.m ≤ 1000000000) ∧ K (AV.iq 3 4 (List.map (fun
 (x : Value × AV) => x.1) (gb (iQ a_1))) (List.map (fun (x : Value × AV) => x.2) (gb (iQ a_1)))) [Obj.box 82 (AV.agg [AV.aB 1 0 a_1.n, AV.nil]), Obj.rows 48 3
 (cB a_1.L) none]))) := by kernel_rfl
def Lw (x : L2) : List AV × List Dn.Obj := ([.ptr 0 0 [] 0, .int x.a], uq x.n (cB x.L))
def BY (x : L2) : Out (AV × List Dn.Obj) := .one (MQ (gp x.n x.m x.L x.a), uq x.n (cB x.L))
theorem ZE (κ : Kp) : bu (LW κ) 12 71 (aW Lw B1 BY) := by
 refine ba ?_
 rintro ⟨n, m, L, fs, a⟩ K ⟨hG, hb, h0, h1⟩ ho
 simp only at hG hb h0 h1
 refine Eq.mpr (Zi κ n (cB L) a K) ?_
 simp only [BY, Out.run, gp] at ho
 have hS := Sd.start hG h0
 have hle := hG.le a
 have hmn : m ≤ (n + 1) * m := Nat.le_mul_of_pos_left m (Nat.succ_pos n)
 rw [wi, gU, z7, ax, ax, aa1, aa0, aa0, aa0]
 refine ⟨⟨h0, h1⟩, fun e => ⟨rfl, ⟨n, m, L, fs, [], [], []⟩, rfl, ⟨hG, ?_, hb⟩, ?_⟩, by omega, rfl, ⟨n, m, L, fs, L.at a, [], []⟩, ?_, ⟨hG, hS, hb⟩, ?_⟩
 ·have e : L.at a = [] := List.eq_nil_of_length_eq_zero (Nat.eq_of_beq_eq_true e)
  have h2 := hS
  rw [e] at h2; exact h2
 ·have e : L.at a = [] := List.eq_nil_of_length_eq_zero (Nat.eq_of_beq_eq_true e)
  rw [e] at ho
  simp only [rB, rF]
  exact ho
 ·simp only [List.append_nil, Nat.zero_add]
  rfl
 ·simp only [rB, rF]
  exact ho
def BN (sel : List Dn.Obj → Bool) (a b : cK) : cK := fun args st K => bif sel st then a args st K else b args st K
theorem pX {sel : List Dn.Obj → Bool} {a b : cK} (ha : a.jb) (hb : b.jb) : (BN sel a b).jb := fun args st K K' hK h => by
 unfold BN at h ⊢
 cases hs : sel st <;> simp only [hs] at h ⊢
 ·exact hb _ _ _ _ hK h
 ·exact ha _ _ _ _ hK h
theorem wS {E : Env} {N f : Nat} {sel : List Dn.Obj → Bool} {a b : cK} (ha : bu E N f a) (hb : bu E N f b) : bu E N f (BN sel a b) := fun args st K h => by
 unfold BN at h
 cases hs : sel st <;> rw [hs] at h
 ·exact hb _ _ _ h
 ·exact ha _ _ _ h
def OI (st : List Dn.Obj) : Bool := Nat.beq st.length 3
noncomputable def KL (κ : Kp) : Env := (LW κ).au 71 (BN OI (aW Ls B1 BF) (aW Lw B1 BY))
theorem XJ (κ : Kp) : ay (KL κ) := (XQ κ).au (Tg κ) (wS (TS κ) (ZE κ))
theorem Sl (κ : Kp) : ah (KL κ) := (Tg κ).au (pX aH aH)
def QQ : List Nat := 113 :: J6
noncomputable abbrev M4 (κ : Kp) (ds rs : List AV) : Dn.Obj :=
 .loop (gL (Pr κ).toProgram 36 3 .ready none (gy (bG 63) [(0, iK ds rs), (1, .ptr 0 0 [] 0), (2, .lit (.pointer none)), (3, .ptr 3 0 [] 0), (7, .ptr 0 0 [0] 0), (8, .ae 62 ds), (9, .int ds.length), (10, .aB 1 0 ds.length), (11, .agg [.aB 1 0 ds.length, .nil]), (12, .ptr 2 0 [] 0), (13, iK ds rs), (14, .bL 113 [.ptr 4 0 [] 0])]))
noncomputable abbrev nz (κ : Kp) (ds rs : List AV) : List Dn.Obj := [.box 25 (iK ds rs), Ia (List.replicate ds.length []), .box 82 (.agg [.aB 1 0 ds.length, .nil]), .box 66 (.ptr 2 0 [] 0), .box 25 (iK ds rs), M4 κ ds rs]
noncomputable abbrev z6 (κ : Kp) (ds rs : List AV) (ls : List (List Value)) : List Dn.Obj := [.box 25 (iK ds rs), Ia ls, .box 82 (.agg [.aB 1 0 ds.length, .nil]), .box 66 (.ptr 2 0 [] 0), .dead, M4 κ ds rs]
theorem TC (κ : Kp) (ds rs : List AV) (Q : List Dn.Obj → Prop) : (tidy (Pr κ).toProgram 6 (dO (nz κ ds rs) (di (nz κ ds rs) [.ptr 4 0 [] 0])) Q) = (
 Q [Obj.box 25 (AV.agg [AV.ae 62 ds, AV.ae 41 rs]), Obj.rows 48 3 (List.replicate ds.length []) none, Obj.box 82 (AV.agg [AV.aB 1 0 ds.length, AV.nil]),
 Obj.box 66 (AV.ptr 2 0 [] 0), Obj.dead, Dn.Obj.loop (gL Tryz.prog 36 3 LoopState.ready none (gy (bG 63) [(0, AV.agg [AV.ae 62 ds, AV.ae 41 rs]), (1,
 AV.ptr 0 0 [] 0), (2, AV.lit (Value.pointer none)), (3, AV.ptr 3 0 [] 0), (7, AV.ptr 0 0 [0] 0), (8, AV.ae 62 ds), (9, AV.int (↑(ds.length) : Int)), (10,
 AV.aB 1 0 ds.length), (11, AV.agg [AV.aB 1 0 ds.length, AV.nil]), (12, AV.ptr 2 0 [] 0), (13, AV.agg [AV.ae 62 ds, AV.ae 41 rs]), (14, AV.bL 113 [AV.ptr 4
 0 [] 0])]))]) := by kernel_rfl
theorem Wh (κ : Kp) (ds rs : List AV) (ls : List (List Value)) (a b : Int) (Q : List Dn.Obj → Prop) (K2 : List Dn.Obj → Prop) : (iC (vc (KL κ) 12) 5 [.int a, .int b] (z6 κ ds rs ls) (fun r st'' => match r with | .lit (.bool true) => tidy (Pr κ).toProgram 6 st'' Q | .lit (.bool false) => K2 st'' | _ => False)) = (
 letI z2 := gL Tryz.prog 36 3 LoopState.ready none (gy (bG 63) [(0, AV.agg [AV.ae 62 ds, AV.ae 41 rs]), (1, AV.ptr 0 0 [] 0), (2, AV.lit (Value.pointer none)),
  (3, AV.ptr 3 0 [] 0), (7, AV.ptr 0 0 [0] 0), (8, AV.ae 62 ds), (9, AV.int (↑(ds.length) : Int)), (10, AV.aB 1 0 ds.length), (11, AV.agg [AV.aB 1 0 ds.length,
  AV.nil]), (12, AV.ptr 2 0 [] 0), (13, AV.agg [AV.ae 62 ds, AV.ae 41 rs]), (14, AV.bL 113 [AV.ptr 4 0 [] 0])])
 letI z4 := decide ((0 : Int) ≤ a) && decide (a < (↑(ds.length) : Int))
 letI z5 := bw ls a.toNat
 letI z3 := decide (List.length z5 = List.length z5) && decide ((List.length z5 + 1 + 1) * 9 ≤ 70368744177664)
 letI z6 := Dn.il ls a.toNat (bw ls a.toNat ++ [Value.int IntKind.i64 b])
 letI z7 := List.map AV.lit (List.take (List.length z5) z5)
 letI z8 := AV.agg [AV.aB 1 0 ds.length, AV.nil]
 letI z9 := AV.agg [AV.ae 62 ds, AV.ae 41 rs]
 letI z1 := bg z4 (bg (decide (a.toNat = a.toNat) && decide (a.toNat = a.toNat) && decide (List.length z5 + 1 = List.length (bw z6 a.toNat))) (Q [Obj.box 25 z9,
  Obj.rows 48 3 z6 none, Obj.box 82 z8, Obj.box 66 (AV.ptr 2 0 [] 0), Obj.dead, Dn.Obj.loop z2]))
 bg z4 (bg (decide (List.length z7 ≤ 9223372036854775807)) (aD (!MY b z7) (bg z4 (bg z3 z1 ∧ bg z3 z1)) (Q [Obj.box 25 z9, Obj.rows 48 3 ls none, Obj.box 82 z8,
 Obj.box 66 (AV.ptr 2 0 [] 0), Obj.dead, Dn.Obj.loop z2])))) := by kernel_rfl
theorem VD (κ : Kp) (ds rs xs : List AV) : (AV.ct 0 :: fo (kC (di (nz κ ds rs) [.ptr 4 0 [] 0])) [.ptr 4 0 [] 0], Obj.ext (some xs) :: gn (kC (di (nz κ ds rs) [.ptr 4 0 [] 0])) (gq (nz κ ds rs) (di (nz κ ds rs) [.ptr 4 0 [] 0]))) = ([.ct 0, .ptr 1 0 [] 0], [.ext (some xs), .box 25 (iK ds rs)]) := by kernel_rfl
theorem ZI (κ : Kp) (ds rs : List AV) : qT (nz κ ds rs) [.ptr 4 0 [] 0] = true := by kernel_rfl
theorem yI : ∀ (L : Gr) (k : Nat) (x : List Int), Dn.il (cB L) k (x.map fb) = cB (L.set k x)
 | [], k, x => by cases k <;> rfl
 | _ :: _, 0, x => rfl
 | a :: L, k + 1, x => by
  have ih := yI L k x
  simp only [cB, ac0, Dn.il, List.set_cons_succ] at ih ⊢
  rw [ih]
theorem Jl (n : Nat) : cB (List.replicate n []) = List.replicate n [] := by simp [cB]
structure rf (ds rs : List AV) : Prop where
 hd : ds.length ≤ 60
 hr : rs.length ≤ 200
 bs : ∀ r, r ∈ rs → (ai (ad r 1)).length ≤ 20
 ed : Pl ds rs
theorem B3 (ds : List AV) (a : Int) : ∀ bl : List AV, (Al ds a bl).length ≤ bl.length
 | [] => Nat.le_refl _
 | l :: bl => by
  have ih := B3 ds a bl
  rw [Al]
  cases dj (toInt (ad l 0)) with
  | true => rw [aa7]; simp only [List.length_cons]; omega
  | false => rw [aa5]; simp only [List.length_cons]; omega
theorem wG (ds : List AV) : ∀ rs : List AV, (∀ r, r ∈ rs → (ai (ad r 1)).length ≤ 20) → (uk ds rs).length ≤ rs.length * 20
 | [], _ => Nat.le_refl _
 | r :: rs, h => by
  have ih := wG ds rs fun x hx => h x (by simp [hx])
  have h1 := B3 ds (cX (toStr (ad (ad r 0) 0)) ds) (ai (ad r 1))
  have h2 := h r (by simp)
  simp only [uk, List.flatMap_cons, ab8, List.length_cons, RJ] at ih h1 ⊢
  omega
noncomputable def Md (κ : Kp) : ep := fun caps st K => ∃ x : qB, (caps, st) = ([AV.ptr 4 0 [] 0], nz κ x.1 x.2) ∧ rf x.1 x.2 ∧ K (z6 κ x.1 x.2 (cB (qw x.1.length (uk x.1 x.2))))
theorem Fj (κ : Kp) : (Md κ).jb := by
 rintro caps st K K' hK ⟨a, h1, h2, h3⟩
 exact ⟨a, h1, h2, hK _ h3⟩
theorem Mg (κ : Kp) (args : List AV) (st : List Dn.Obj) (K : AV → List Dn.Obj → Prop) (h : aW L6 Au Gy args st K) : (KL κ).call 113 args st K := h
theorem XR (κ : Kp) : mM (KL κ) 12 113 (Md κ) := by
 rintro caps st K ⟨⟨ds, rs⟩, h1, hf, h5⟩
 obtain ⟨rfl, rfl⟩ := Prod.mk.inj h1
 simp only at hf h5
 have hd := hf.hd
 have hr := hf.hr
 have hl := wG ds rs hf.bs
 refine ⟨ye (uk ds rs), fun items st' => ∃ E1 E2, items = ye E2 ∧ st' = z6 κ ds rs (cB (qw ds.length E1)) ∧ E1 ++ E2 = uk ds rs, ⟨ZI κ ds rs, ?_, ?_, ?_, ?_⟩⟩
 ·refine Mg κ _ _ _ ⟨(ds, rs), ?_, ⟨by simp only [aL]; omega, by simp only [aL]; omega, fun r hr => ?_⟩, fun st' h => h⟩
  ·rw [VD]; rfl
  ·have := hf.bs r hr; simp only [aL]; omega
 ·rw [show (KL κ).P = Pr κ from rfl, show (nz κ ds rs).length = 6 from rfl, TC]
  refine ⟨[], uk ds rs, rfl, ?_, rfl⟩
  rw [qw, List.foldl_nil, Jl]
 ·rintro us rest st' ⟨E1, E2, e1, rfl, e3⟩
  cases E2 with
  | nil => cases e1
  | cons e E2 =>
   obtain ⟨a, b⟩ := e
   obtain ⟨hu, rfl⟩ := List.cons.inj e1
   obtain rfl := AV.bj.inj hu
   rw [show (KL κ).P = Pr κ from rfl, show (nz κ ds rs).length = 6 from rfl]
   refine Eq.mpr (Wh κ ds rs _ a b _ _) ?_
   have hab := hf.ed (a, b) (by rw [← e3]; simp)
   simp only at hab
   have hg : qw ds.length (E1 ++ [(a, b)]) = ml (qw ds.length E1) (a, b) := by simp [qw, List.foldl_append]
   have hlen : (qw ds.length E1).length = ds.length := by unfold qw; rw [qu]; simp
   have hle : ((qw ds.length E1).at a).length ≤ E1.length := by
    have := Gj E1 (List.replicate ds.length []) a
    rw [AR] at this
    simpa [qw] using this
   have hE : E1.length ≤ (uk ds rs).length := by rw [← e3]; simp
   have next : ∀ st', st' = z6 κ ds rs (cB (ml (qw ds.length E1) (a, b))) → ∃ F1 F2, ye E2 = ye F2 ∧ st' = z6 κ ds rs (cB (qw ds.length F1)) ∧ F1 ++ F2 = uk ds rs := fun st' h => ⟨E1 ++ [(a, b)], E2, rfl, by rw [hg, h], by rw [← e3]; simp⟩
   rw [wi, Gt, kn, show [Value.int IntKind.i64 b] = [b].map fb from rfl, ← List.map_append, yI]
   have e4 : (bw (cB ((qw ds.length E1).set a.toNat ((qw ds.length E1).at a ++ [b]))) a.toNat).length = ((qw ds.length E1).at a).length + 1 := by
    rw [kn, Ap _ _ _ _ (by omega), if_pos rfl]; simp
   rw [e4]
   simp only [ax, af, aa1, aa0, List.length_map, gU]
   refine ⟨⟨by omega, by omega⟩, by omega, fun e => ⟨⟨by omega, by omega⟩, ?_⟩, fun e => next _ ?_⟩
   ·have e : ((qw ds.length E1).at a).contains b = false := by simpa using e
    have e5 : ml (qw ds.length E1) (a, b) = (qw ds.length E1).set a.toNat ((qw ds.length E1).at a ++ [b]) := by
     unfold ml; rw [e, aa5]
    rw [e5] at next
    exact ⟨⟨⟨trivial, by omega⟩, ⟨by omega, by omega⟩, ⟨⟨trivial, trivial⟩, trivial⟩, next _ rfl⟩, ⟨trivial, by omega⟩, ⟨by omega, by omega⟩, ⟨⟨trivial, trivial⟩, trivial⟩, next _ rfl⟩
   ·have e : ((qw ds.length E1).at a).contains b = true := by simpa using e
    unfold ml; rw [e, aa7]
 ·rintro st' ⟨E1, E2, e1, rfl, e3⟩
  obtain rfl : E2 = [] := by cases E2 with | nil => rfl | cons _ _ => cases e1
  rw [List.append_nil] at e3
  rw [e3]; exact h5
noncomputable def Hz (κ : Kp) : Env := ((KL κ).addRange 36 3 113 (Md κ)).dB (fun f => j6 f QQ)
theorem YQ (κ : Kp) : ay (Hz κ) := ((XJ κ).addRange (Sl κ) (XR κ)).dB _
theorem S6 (κ : Kp) : ah (Hz κ) := ((Sl κ).addRange (Fj κ)).dB _
theorem X5 (κ : Kp) (N i : Nat) (ls : List (List Value)) (fs : List AV) (I : Nat → S → Prop) (n : Nat) (K : Exit → S → Prop) : (vc (Hz κ) 12 36 none 0 (ag (Pr κ).toProgram 36 8) (sp 63 [(3, .ptr 0 0 [] 0), (45, .int N), (46, .int i)] [.box 66 (.ptr 1 0 [] 0), .box 82 (.agg [.aB 2 0 N, .aB 3 0 fs.length]), Ia ls, .row 68 fs]) (bK (Hz κ) 36 8 0 I n K)) = (
 letI z1 := AV.ptr 1 0 [] 0
 letI z2 := AV.agg [AV.aB 2 0 N, AV.aB 3 0 fs.length]
 aD (decide ((↑i : Int) < (↑N : Int))) (∃ (a : L2), ([AV.ptr 0 0 [] 0, AV.int (↑i : Int)], [Obj.box 82 (AV.agg [AV.aB 1 0 N, AV.aB 2 0 fs.length]), Obj.rows 48 3
 ls none, Obj.row 68 fs]) = ([AV.ptr 0 0 [] 0, AV.int a.a], [Obj.box 82 (AV.agg [AV.aB 1 0 a.n, AV.aB 2 0 a.fs.length]), Obj.rows 48 3 (cB a.L) none, Obj.row 68
 a.fs]) ∧ (WG a.n a.m a.L ∧ (a.n + 1) * a.m ≤ 1000000000 ∧ (0 : Int) ≤ a.a ∧ a.a < (↑(a.n) : Int)) ∧ (Obj.box 66 z1 = Obj.box 66 z1 ∧ Obj.box 82 (AV.agg [AV.aB 2
 0 a.n, AV.aB 3 0 a.fs.length]) = Obj.box 82 z2 ∧ Obj.rows 48 3 (cB a.L) none = Obj.rows 48 3 ls none ∧ True) ∧ bg (decide ((fs.length + 1 + 1) * 9 ≤
 70368744177664)) (∃ (m : Nat), m < n ∧ I m (sp 63 [(3, AV.ptr 0 0 [] 0), (45, AV.int (↑N : Int)), (46, AV.int (IntKind.wrap IntKind.i64 ((↑i : Int) + (1 :
 Int))))] [Obj.box 66 z1, Obj.box 82 (AV.agg [AV.aB 2 0 a.n, AV.aB 3 0 (fs.length + 1)]), Obj.rows 48 3 (cB a.L) none, Obj.row 68 (List.take fs.length a.fs ++
 [AV.iq 3 4 (List.map fb (gp a.n a.m a.L a.a)) (List.map (fun (x : Int) => AV.bool true) (gp a.n a.m a.L a.a))])]))) (K (Exit.exit 2) (sp 63 [(3, AV.ptr 0 0 []
 0)] [Obj.box 66 z1, Obj.box 82 z2, Obj.rows 48 3 ls none, Obj.row 68 fs]))) := by kernel_rfl
theorem TK (κ : Kp) (N : Nat) (ls : List (List Value)) (I : Nat → S → Prop) (n : Nat) (K : Exit → S → Prop) : (vc (Hz κ) 12 36 none 0 (ag (Pr κ).toProgram 36 8) (sp 63 [(3, .ptr 0 0 [] 0), (45, .int N), (46, .int 0)] [.box 66 (.ptr 1 0 [] 0), .box 82 (.agg [.aB 2 0 N, .nil]), Ia ls]) (bK (Hz κ) 36 8 0 I n K)) = (
 letI z1 := AV.ptr 1 0 [] 0
 letI z2 := AV.agg [AV.aB 2 0 N, AV.nil]
 aD (decide ((0 : Int) < (↑N : Int))) (∃ (a : L2), ([AV.ptr 0 0 [] 0, AV.int 0], [Obj.box 82 (AV.agg [AV.aB 1 0 N, AV.nil]), Obj.rows 48 3 ls none]) = ([AV.ptr 0
 0 [] 0, AV.int a.a], [Obj.box 82 (AV.agg [AV.aB 1 0 a.n, AV.nil]), Obj.rows 48 3 (cB a.L) none]) ∧ (WG a.n a.m a.L ∧ (a.n + 1) * a.m ≤ 1000000000 ∧ (0 : Int) ≤
 a.a ∧ a.a < (↑(a.n) : Int)) ∧ (Obj.box 66 z1 = Obj.box 66 z1 ∧ Obj.box 82 (AV.agg [AV.aB 2 0 a.n, AV.nil]) = Obj.box 82 z2 ∧ Obj.rows 48 3 (cB a.L) none =
 Obj.rows 48 3 ls none ∧ True) ∧ ∃ (m : Nat), m < n ∧ I m (sp 63 [(3, AV.ptr 0 0 [] 0), (45, AV.int (↑N : Int)), (46, AV.int 1)] [Obj.box 66 z1, Obj.box 82
 (AV.agg [AV.aB 2 0 a.n, AV.aB 3 0 1]), Obj.rows 48 3 (cB a.L) none, Obj.row 68 [AV.iq 3 4 (List.map fb (gp a.n a.m a.L a.a)) (List.map (fun (x : Int) => AV.bool
 true) (gp a.n a.m a.L a.a))]])) (K (Exit.exit 2) (sp 63 [(3, AV.ptr 0 0 [] 0)] [Obj.box 66 z1, Obj.box 82 z2, Obj.rows 48 3 ls none]))) := by kernel_rfl
def a6 (n m : Nat) (L : Gr) (k : Nat) : List AV := (List.range k).map fun (a : Nat) => MQ (gp n m L a)
theorem jn (n m : Nat) (L : Gr) (k : Nat) : (a6 n m L k).length = k := by simp [a6]
theorem D5 (n m : Nat) (L : Gr) (k : Nat) : a6 n m L (k + 1) = a6 n m L k ++ [MQ (gp n m L k)] := by
 simp [a6, List.range_succ]
structure Px where
 n : Nat
 m : Nat
 L : Gr
 i : Nat
abbrev Ml (n m : Nat) (L : Gr) : Nat → List Dn.Obj
 | 0 => [.box 66 (.ptr 1 0 [] 0), .box 82 (.agg [.aB 2 0 n, .nil]), Ia (cB L)]
 | k + 1 => [.box 66 (.ptr 1 0 [] 0), .box 82 (.agg [.aB 2 0 n, .aB 3 0 (a6 n m L (k + 1)).length]), Ia (cB L), .row 68 (a6 n m L (k + 1))]
abbrev I6 (x : Px) : S := sp 63 [(3, .ptr 0 0 [] 0), (45, .int x.n), (46, .int x.i)] (Ml x.n x.m x.L x.i)
def Ih (x : Px) : Prop := WG x.n x.m x.L ∧ (x.n + 1) * x.m ≤ 1000000000 ∧ x.i ≤ x.n ∧ x.n ≤ 60
def KX (x : Px) : Out (Exit × S) := .aD (Nat.beq x.n 0)
 (.one (.exit 2, sp 63 [(3, .ptr 0 0 [] 0)] [.box 66 (.ptr 1 0 [] 0), .box 82 (.agg [.aB 2 0 x.n, .nil]), Ia (cB x.L)]))
 (.one (.exit 2, sp 63 [(3, .ptr 0 0 [] 0)] [.box 66 (.ptr 1 0 [] 0), .box 82 (.agg [.aB 2 0 x.n, .aB 3 0 (a6 x.n x.m x.L x.n).length]), Ia (cB x.L), .row 68 (a6 x.n x.m x.L x.n)]))
theorem Wi (κ : Kp) : bq (Hz κ) 12 36 8 (aO 0 I6 Ih KX) := by
 refine aR (fun x => x.n - x.i) ?_
 rintro ⟨n, m, L, i⟩ K ⟨hG, hb, hi, hn⟩ ho
 simp only at hG hb hi hn
 rw [show (Hz κ).P = Pr κ from rfl]
 cases i with
 | zero =>
  refine Eq.mpr (TK κ n (cB L) _ _ K) ?_
  rw [af, aa0, aa2]
  refine ⟨fun h => ⟨⟨n, m, L, [], 0⟩, rfl, ⟨hG, hb, by simp only; omega, h⟩, ⟨rfl, rfl, rfl, trivial⟩, _, ?_, ⟨n, m, L, 1⟩, rfl, ⟨hG, hb, ?_, hn⟩, rfl, ho⟩, fun h => ?_⟩
  ·simp only; omega
  ·simp only; omega
  ·obtain rfl : n = 0 := by omega
   exact ho
 | succ k =>
  refine Eq.mpr (X5 κ n (k + 1) (cB L) (a6 n m L (k + 1)) _ _ K) ?_
  rw [af, aa0, aa2]
  refine ⟨fun h => ⟨⟨n, m, L, a6 n m L (k + 1), ((k + 1 : Nat) : Int)⟩, rfl, ⟨hG, hb, by simp only; omega, h⟩, ⟨rfl, rfl, rfl, trivial⟩, ?_⟩, fun h => ?_⟩
  ·have e : sp 63 [(3, .ptr 0 0 [] 0), (45, .int n), (46, .int (((k + 1 : Nat) : Int) + 1))] [.box 66 (.ptr 1 0 [] 0), .box 82 (.agg [.aB 2 0 n, .aB 3 0 ((a6 n m L (k + 1)).length + 1)]), Ia (cB L), .row 68 (List.take (a6 n m L (k + 1)).length (a6 n m L (k + 1)) ++ [MQ (gp n m L ((k + 1 : Nat) : Int))])] = I6 ⟨n, m, L, k + 2⟩ := by
    rw [List.take_length, ← D5]
    simp only [I6, Ml, jn]
    rfl
   rw [ax, aa0, a8 (n := ((k + 1 : Nat) : Int) + 1) (by omega) (by omega)]
   refine ⟨by rw [jn]; omega, _, ?_, ⟨n, m, L, k + 2⟩, e, ⟨hG, hb, ?_, hn⟩, rfl, ho⟩
   ·simp only; omega
   ·simp only; omega
  ·obtain rfl : n = k + 1 := by omega
   exact ho
noncomputable def Og (κ : Kp) : Env := (Hz κ).aj 36 8 (aO 0 I6 Ih KX)
theorem XO (κ : Kp) : ay (Og κ) := (YQ κ).aj (S6 κ) (Wi κ)
theorem RG (κ : Kp) : ah (Og κ) := (S6 κ).aj aG
theorem Ua (κ : Kp) (ds rs : List AV) (K : AV → List Dn.Obj → Prop) : (bh (Og κ) 12 36 [iK ds rs] [] K) = (
 letI z1 := Int.toNat (↑(ds.length) : Int)
 letI z2 := AV.agg [AV.ae 62 ds, AV.ae 41 rs]
 letI z3 := Pg.toProgram (Env.P (Hz κ))
 bg (true && decide ((↑(ds.length) : Int) ≤ (↑(ds.length) : Int)) && decide ((Int.toNat (↑(ds.length) : Int) + 1) * 25 ≤ 70368744177664) && true) (∃ (x : qB),
 ([AV.ptr 4 0 [] 0], [Obj.box 25 z2, Obj.rows 48 3 (List.replicate z1 []) none, Obj.box 82 (AV.agg [AV.aB 1 0 z1, AV.nil]), Obj.box 66 (AV.ptr 2 0 [] 0), Obj.box
 25 z2, Dn.Obj.loop (gL Tryz.prog 36 3 LoopState.ready none (gy (bG 63) [(0, AV.agg [AV.ae 62 ds, AV.ae 41 rs]), (1, AV.ptr 0 0 [] 0), (2, AV.lit (Value.pointer
 none)), (3, AV.ptr 3 0 [] 0), (7, AV.ptr 0 0 [0] 0), (8, AV.ae 62 ds), (9, AV.int (↑(ds.length) : Int)), (10, AV.aB 1 0 z1), (11, AV.agg [AV.aB 1 0 z1,
 AV.nil]), (12, AV.ptr 2 0 [] 0), (13, AV.agg [AV.ae 62 ds, AV.ae 41 rs]), (14, AV.bL 113 [AV.ptr 4 0 [] 0])]))]) = ([AV.ptr 4 0 [] 0], [Obj.box 25 (AV.agg
 [AV.ae 62 x.1, AV.ae 41 x.2]), Obj.rows 48 3 (List.replicate x.1.length []) none, Obj.box 82 (AV.agg [AV.aB 1 0 x.1.length, AV.nil]), Obj.box 66 (AV.ptr 2 0 []
 0), Obj.box 25 (AV.agg [AV.ae 62 x.1, AV.ae 41 x.2]), Dn.Obj.loop (gL Tryz.prog 36 3 LoopState.ready none (gy (bG 63) [(0, AV.agg [AV.ae 62 x.1, AV.ae 41 x.2]),
 (1, AV.ptr 0 0 [] 0), (2, AV.lit (Value.pointer none)), (3, AV.ptr 3 0 [] 0), (7, AV.ptr 0 0 [0] 0), (8, AV.ae 62 x.1), (9, AV.int (↑(x.1.length) : Int)), (10,
 AV.aB 1 0 x.1.length), (11, AV.agg [AV.aB 1 0 x.1.length, AV.nil]), (12, AV.ptr 2 0 [] 0), (13, AV.agg [AV.ae 62 x.1, AV.ae 41 x.2]), (14, AV.bL 113 [AV.ptr 4 0
 [] 0])]))]) ∧ rf x.1 x.2 ∧ ag z3 36 8 = ag z3 36 8 ∧ ∃ (a : Px), sp 63 [(3, AV.ptr 0 0 [] 0), (45, AV.int (↑(x.1.length) : Int)), (46, AV.int 0)] [Obj.box 66
 (AV.ptr 1 0 [] 0), Obj.box 82 (AV.agg [AV.aB 2 0 x.1.length, AV.nil]), Obj.rows 48 3 (cB (qw x.1.length (uk x.1 x.2))) none] = sp 63 [(3, AV.ptr 0 0 [] 0), (45,
 AV.int (↑(a.n) : Int)), (46, AV.int (↑(a.i) : Int))] (Ml a.n a.m a.L a.i) ∧ (WG a.n a.m a.L ∧ (a.n + 1) * a.m ≤ 1000000000 ∧ a.i ≤ a.n ∧ a.n ≤ 60) ∧ aD (Nat.beq
 a.n 0) (K (AV.ptr 0 0 [] 0) [Obj.box 82 (AV.agg [AV.aB 1 0 a.n, AV.nil]), Obj.rows 48 3 (cB a.L) none]) (K (AV.ptr 0 0 [] 0) [Obj.box 82 (AV.agg [AV.aB 1 0 a.n,
 AV.aB 2 0 (List.length (a6 a.n a.m a.L a.n))]), Obj.rows 48 3 (cB a.L) none, Obj.row 68 (a6 a.n a.m a.L a.n)]))) := by kernel_rfl
def mw (ds rs : List AV) : Gr := qw ds.length (uk ds rs)
def jy (ds rs : List AV) : Nat := (uk ds rs).length
def NY (x : qB) : List AV × List Dn.Obj := ([iK x.1 x.2], [])
def H5 (x : qB) : Out (AV × List Dn.Obj) := .aD (Nat.beq x.1.length 0)
 (.one (.ptr 0 0 [] 0, uq x.1.length (cB (mw x.1 x.2))))
 (.one (.ptr 0 0 [] 0, re x.1.length (cB (mw x.1 x.2)) (a6 x.1.length (jy x.1 x.2) (mw x.1 x.2) x.1.length)))
theorem rf.le {ds rs : List AV} (h : rf ds rs) : (ds.length + 1) * jy ds rs ≤ 1000000000 := by
 have h1 := h.hd
 have h2 := h.hr
 have h3 := wG ds rs h.bs
 refine Nat.le_trans (Nat.mul_le_mul (show ds.length + 1 ≤ 61 by omega) (show jy ds rs ≤ 4000 by unfold jy; omega)) (by omega)
theorem rf.wg {ds rs : List AV} (h : rf ds rs) : WG ds.length (jy ds rs) (mw ds rs) := Mq h.ed
theorem UN (κ : Kp) : bu (Og κ) 12 36 (aW NY (fun x => rf x.1 x.2) H5) := by
 refine ba ?_
 rintro ⟨ds, rs⟩ K hf ho
 simp only at hf
 refine Eq.mpr (Ua κ ds rs K) ?_
 have hd := hf.hd
 simp only [H5, Out.run] at ho
 simp only [ax, aa1, aa0, Int.toNat_natCast]
 exact ⟨⟨⟨⟨trivial, by omega⟩, by omega⟩, trivial⟩, (ds, rs), rfl, hf, trivial, ⟨ds.length, jy ds rs, mw ds rs, 0⟩, rfl, ⟨hf.wg, hf.le, Nat.zero_le _, hd⟩, ho⟩
noncomputable def OK (κ : Kp) : Env := (Og κ).au 36 (aW NY (fun x => rf x.1 x.2) H5)
theorem Vp (κ : Kp) : ay (OK κ) := (XO κ).au (RG κ) (UN κ)
theorem SN (κ : Kp) : ah (OK κ) := (RG κ).au aH
end Go.Proofs.YtdpmikfheebicaaGreatDoor
