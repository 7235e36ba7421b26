import Derived.Test.YtdpmikfheebicaaGreatDoorDoE
namespace Go.Dn
open Go
inductive Out (α : Type) : Type 1 where
 | one (a : α)
 | aD (b : Bool) (x y : Out α)
 | all {β : Type} (p : β → Prop) (f : β → Out α)
def Out.run {α : Type} (K : α → Prop) : Out α → Prop
 | .one a => K a
 | .aD b x y => Go.Dn.aD b (x.run K) (y.run K)
 | .all p f => ∀ y, p y → (f y).run K
theorem af {b : Bool} {p q : Prop} : aD b p q ↔ (b = true → p) ∧ (b = false → q) := by
 cases b <;> simp [aD]
theorem Out.mv {α : Type} {K K' : α → Prop} (h : ∀ a, K a → K' a) : ∀ o : Out α, o.run K → o.run K'
 | .one a, hh => h a hh
 | .aD b x y, hh => by
  simp only [Out.run, af] at hh ⊢
  exact ⟨fun e => Out.mv h x (hh.1 e), fun e => Out.mv h y (hh.2 e)⟩
 | .all p f, hh => fun y hy => Out.mv h (f y) (hh y hy)
def fF {α : Type} (st : α → S) (side : α → Prop) (out : α → Out (Exit × S)) (μ : α → Nat) (K : Exit → S → Prop) : Nat → S → Prop :=
 fun n s => ∃ a, s = st a ∧ side a ∧ μ a = n ∧ (out a).run fun x => K x.1 x.2
def pr (sel : S → Bool) (a b : eW) : eW := fun rd base s K =>
 match sel s with
 | true => a rd base s K
 | false => b rd base s K
theorem ju {sel : S → Bool} {a b : eW} (ha : a.jb) (hb : b.jb) : (pr sel a b).jb := fun rd base s K K' hK h => by
 unfold pr at h ⊢
 cases hs : sel s <;> simp only [hs] at h ⊢
 ·exact hb _ _ _ _ _ hK h
 ·exact ha _ _ _ _ _ hK h
theorem mA {E : Env} {N f k : Nat} {sel : S → Bool} {a b : eW} (ha : bq E N f k a) (hb : bq E N f k b) : bq E N f k (pr sel a b) := fun rd base s K h => by
 unfold pr at h
 cases hs : sel s <;> rw [hs] at h
 ·exact hb _ _ _ _ h
 ·exact ha _ _ _ _ h
def gy (a5 : List AV) : List (Nat × AV) → List AV
 | [] => a5
 | (i, a) :: l => cf (gy a5 l) i a
def sp (n : Nat) (l : List (Nat × AV)) (st : List Obj) : S := { a5 := gy (bG n) l, st := st }
def eY (k : Nat) : Code → Option (Array Tmp × Code × Code)
 | .rangeFunc _ ps a b =>
  match j4 a with
  | some n => (bif Nat.beq n k then some (ps, a, b) else (match eY k a with | some x => some x | none => eY k b))
  | none => (match eY k a with | some x => some x | none => eY k b)
 | .seq a b => (match eY k a with | some x => some x | none => eY k b)
 | .cond _ a b => (match eY k a with | some x => some x | none => eY k b)
 | .block _ c | .scope c | .loop c => eY k c
 | _ => none
def gL (P : Program) (f k : Nat) (state : LoopState) (pending : Option Code) (a5 : List AV) : vv :=
 match P.funcs[f]? with
 | some fn =>
  (match fn.body with
   | some c =>
    (match eY k c with
    | some (ps, a, b) => { state, pending, fn := f, a5, params := ps, assign := a, body := b }
    | none => { state, pending, fn := f, a5, params := #[], assign := .skip, body := .skip })
   | none => { state, pending, fn := f, a5, params := #[], assign := .skip, body := .skip })
 | none => { state, pending, fn := f, a5, params := #[], assign := .skip, body := .skip }
abbrev aF : List Obj := []
def aW {α : Type} (st : α → List AV × List Obj) (side : α → Prop) (out : α → Out (AV × List Obj)) : cK := fun args s K =>
 ∃ a, (args, s) = st a ∧ side a ∧ (out a).run fun x => K x.1 x.2
theorem aH {α : Type} {st : α → List AV × List Obj} {side : α → Prop} {out : α → Out (AV × List Obj)} : (aW st side out).jb := fun _ _ _ _ hK ⟨a, h1, h2, h3⟩ =>
 ⟨a, h1, h2, Out.mv (fun _ hh => hK _ _ hh) _ h3⟩
theorem ba {E : Env} {N f : Nat} {α : Type} {st : α → List AV × List Obj} {side : α → Prop} {out : α → Out (AV × List Obj)}
  (h : ∀ a K, side a → ((out a).run fun x => K x.1 x.2) → bh E N f (st a).1 (st a).2 K) : bu E N f (aW st side out) := by
 rintro args s K ⟨a, h1, h2, h3⟩
 have := h a K h2 h3
 rw [← h1] at this
 exact this
def aO {α : Type} (b : Nat) (st : α → S) (side : α → Prop) (out : α → Out (Exit × S)) : eW := fun rd base s K =>
 match rd, Nat.beq base b with
 | none, true => ∃ a, s = st a ∧ side a ∧ (out a).run fun x => K x.1 x.2
 | _, _ => False
theorem vz {α : Type} {b : Nat} {st : α → S} {side : α → Prop} {out : α → Out (Exit × S)} {rd : Option Nat} {base : Nat} {s : S} {K : Exit → S → Prop} : aO b st side out rd base s K ↔ rd = none ∧ base = b ∧ ∃ a, s = st a ∧ side a ∧ (out a).run fun x => K x.1 x.2 := by
 unfold aO
 cases rd with
 | none =>
  cases h : Nat.beq base b with
  | true => simp [Nat.eq_of_beq_eq_true h]
  | false => simp [Nat.ne_of_beq_eq_false h]
 | some r => simp
theorem aG {α : Type} {b : Nat} {st : α → S} {side : α → Prop} {out : α → Out (Exit × S)} : (aO b st side out).jb := fun _ _ _ _ _ hK h => by
 rw [vz] at h ⊢
 obtain ⟨h1, h2, a, h3, h4, h5⟩ := h
 exact ⟨h1, h2, a, h3, h4, Out.mv (fun _ hh => hK _ _ hh) _ h5⟩
theorem aR {E : Env} {N f k : Nat} {α : Type} {b : Nat} {st : α → S} {side : α → Prop} {out : α → Out (Exit × S)} (μ : α → Nat)
  (h : ∀ a K, side a → ((out a).run fun x => K x.1 x.2) → vc E N f none b (ag E.P f k) (st a) (bK E f k b (fF st side out μ K) (μ a) K)) : bq E N f k (aO b st side out) := by
 intro rd base s K hh
 obtain ⟨rfl, rfl, a, hs, h1, h2⟩ := vz.1 hh
 refine ⟨fF st side out μ K, μ a, ⟨a, hs, h1, rfl, h2⟩, ?_⟩
 rintro n s' ⟨a, rfl, h1, rfl, h2⟩
 exact h a K h1 h2
theorem ay.x2 {P : Pg} {f : Nat} (sp : Nat → cK) {N : Nat} (ext : Nat → Env)
  (hext : ∀ n, (∀ args st K, (∃ m, m < n ∧ sp m args st K) → dF P f args st K) → ay (ext n) ∧ ah (ext n) ∧ (ext n).P = P) (h : ∀ n, bu (ext n) N f (sp n)) :
  ∀ n args st K, sp n args st K → dF P f args st K := by
 intro n
 induction n using Nat.strongRecOn with
 | _ n ih =>
  intro args st K hs
  obtain ⟨h1, h2, h3⟩ := hext n (fun args st K ⟨m, hlt, hh⟩ => ih m hlt args st K hh)
  have := jf h1 h2 (h n _ _ _ hs)
  rwa [h3] at this
abbrev AV.int (n : Int) : AV := .lit (.int .i64 n)
abbrev AV.bool (b : Bool) : AV := .lit (.bool b)
abbrev AV.str (s : ByteArray) : AV := .lit (.string s)
abbrev AV.nil : AV := .lit (.slice none 0 0)
end Go.Dn
