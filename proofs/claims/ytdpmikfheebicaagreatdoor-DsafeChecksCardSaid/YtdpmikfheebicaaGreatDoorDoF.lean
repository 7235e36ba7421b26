import Derived.Test.YtdpmikfheebicaaGreatDoorDoE
namespace Go.Dn
open Go
inductive Out (α : Type) : Type 1 where
 | one (a : α)
 | ax (b : Bool) (x y : Out α)
 | all {β : Type} (p : β → Prop) (f : β → Out α)
def Out.run {α : Type} (K : α → Prop) : Out α → Prop
 | .one a => K a
 | .ax b x y => Go.Dn.ax b (x.run K) (y.run K)
 | .all p f => ∀ y, p y → (f y).run K
theorem af {b : Bool} {p q : Prop} : ax b p q ↔ (b = true → p) ∧ (b = false → q) := by
 cases b <;> simp [ax]
theorem Out.mF {α : Type} {K K' : α → Prop} (h : ∀ a, K a → K' a) : ∀ o : Out α, o.run K → o.run K'
 | .one a, hh => h a hh
 | .ax b x y, hh => by
  simp only [Out.run, af] at hh ⊢
  exact ⟨fun e => Out.mF h x (hh.1 e), fun e => Out.mF h y (hh.2 e)⟩
 | .all p f, hh => fun y hy => Out.mF h (f y) (hh y hy)
def fp {α : Type} (st : α → S) (side : α → Prop) (out : α → Out (Exit × S)) (μ : α → Nat) (K : Exit → S → Prop) : Nat → S → Prop :=
 fun n s => ∃ a, s = st a ∧ side a ∧ μ a = n ∧ (out a).run fun x => K x.1 x.2
def nZ (bf : List AV) : List (Nat × AV) → List AV
 | [] => bf
 | (i, a) :: l => cC (nZ bf l) i a
def sp (n : Nat) (l : List (Nat × AV)) (st : List Obj) : S := { bf := nZ (dc n) l, st := st }
def fL (k : Nat) : Code → Option (Array Tmp × Code × Code)
 | .rangeFunc _ ps a b =>
  match kO a with
  | some n => (bif Nat.beq n k then some (ps, a, b) else (match fL k a with | some x => some x | none => fL k b))
  | none => (match fL k a with | some x => some x | none => fL k b)
 | .seq a b => (match fL k a with | some x => some x | none => fL k b)
 | .cond _ a b => (match fL k a with | some x => some x | none => fL k b)
 | .block _ c | .scope c | .loop c => fL k c
 | _ => none
def oP (P : Program) (f k : Nat) (state : LoopState) (pending : Option Code) (bf : List AV) : xH :=
 match P.funcs[f]? with
 | some fn =>
  (match fn.body with
   | some c =>
    (match fL k c with
    | some (ps, a, b) => { state, pending, fn := f, bf, params := ps, assign := a, body := b }
    | none => { state, pending, fn := f, bf, params := #[], assign := .skip, body := .skip })
   | none => { state, pending, fn := f, bf, params := #[], assign := .skip, body := .skip })
 | none => { state, pending, fn := f, bf, params := #[], assign := .skip, body := .skip }
abbrev az : List Obj := []
def a8 {α : Type} (st : α → List AV × List Obj) (side : α → Prop) (out : α → Out (AV × List Obj)) : ez := fun args s K =>
 ∃ a, (args, s) = st a ∧ side a ∧ (out a).run fun x => K x.1 x.2
theorem aJ {α : Type} {st : α → List AV × List Obj} {side : α → Prop} {out : α → Out (AV × List Obj)} : (a8 st side out).ot := fun _ _ _ _ hK ⟨a, h1, h2, h3⟩ =>
 ⟨a, h1, h2, Out.mF (fun _ hh => hK _ _ hh) _ h3⟩
theorem bh {E : Env} {N f : Nat} {α : Type} {st : α → List AV × List Obj} {side : α → Prop} {out : α → Out (AV × List Obj)}
  (h : ∀ a K, side a → ((out a).run fun x => K x.1 x.2) → a9 E N f (st a).1 (st a).2 K) : bJ E N f (a8 st side out) := by
 rintro args s K ⟨a, h1, h2, h3⟩
 have := h a K h2 h3
 rw [← h1] at this
 exact this
def aK {α : Type} (b : Nat) (st : α → S) (side : α → Prop) (out : α → Out (Exit × S)) : jl := fun rd base s K =>
 match rd, Nat.beq base b with
 | none, true => ∃ a, s = st a ∧ side a ∧ (out a).run fun x => K x.1 x.2
 | _, _ => False
theorem wD {α : Type} {b : Nat} {st : α → S} {side : α → Prop} {out : α → Out (Exit × S)} {rd : Option Nat} {base : Nat} {s : S} {K : Exit → S → Prop} : aK b st side out rd base s K ↔ rd = none ∧ base = b ∧ ∃ a, s = st a ∧ side a ∧ (out a).run fun x => K x.1 x.2 := by
 unfold aK
 cases rd with
 | none =>
  cases h : Nat.beq base b with
  | true => simp [Nat.eq_of_beq_eq_true h]
  | false => simp [Nat.ne_of_beq_eq_false h]
 | some r => simp
theorem aE {α : Type} {b : Nat} {st : α → S} {side : α → Prop} {out : α → Out (Exit × S)} : (aK b st side out).ot := fun _ _ _ _ _ hK h => by
 rw [wD] at h ⊢
 obtain ⟨h1, h2, a, h3, h4, h5⟩ := h
 exact ⟨h1, h2, a, h3, h4, Out.mF (fun _ hh => hK _ _ hh) _ h5⟩
theorem aO {E : Env} {N f k : Nat} {α : Type} {b : Nat} {st : α → S} {side : α → Prop} {out : α → Out (Exit × S)} (μ : α → Nat)
  (h : ∀ a K, side a → ((out a).run fun x => K x.1 x.2) → vc E N f none b (ag E.P f k) (st a) (bC E f k b (fp st side out μ K) (μ a) K)) : bg E N f k (aK b st side out) := by
 intro rd base s K hh
 obtain ⟨rfl, rfl, a, hs, h1, h2⟩ := wD.1 hh
 refine ⟨fp st side out μ K, μ a, ⟨a, hs, h1, rfl, h2⟩, ?_⟩
 rintro n s' ⟨a, rfl, h1, rfl, h2⟩
 exact h a K h1 h2
theorem aw.qH {P : Pg} {f : Nat} (sp : Nat → ez) {N : Nat} (ext : Nat → Env)
  (hext : ∀ n, (∀ args st K, (∃ m, m < n ∧ sp m args st K) → dz P f args st K) → aw (ext n) ∧ ai (ext n) ∧ (ext n).P = P) (h : ∀ n, bJ (ext n) N f (sp n)) :
  ∀ n args st K, sp n args st K → dz P f args st K := by
 intro n
 induction n using Nat.strongRecOn with
 | _ n ih =>
  intro args st K hs
  obtain ⟨h1, h2, h3⟩ := hext n (fun args st K ⟨m, hlt, hh⟩ => ih m hlt args st K hh)
  have := jR h1 h2 (h n _ _ _ hs)
  rwa [h3] at this
abbrev AV.int (n : Int) : AV := .lit (.int .i64 n)
abbrev AV.bool (b : Bool) : AV := .lit (.bool b)
abbrev AV.str (s : ByteArray) : AV := .lit (.string s)
abbrev AV.nil : AV := .lit (.slice none 0 0)
end Go.Dn
