import Derived.Test.YtbppdpbagmbmpaaGreatDoorDoE
namespace Go.Dn
open Go
inductive Out (α : Type) : Type 1 where
  | one (a : α)
  | brn (b : Bool) (x y : Out α)
  | all {β : Type} (p : β → Prop) (f : β → Out α)
def Out.run {α : Type} (K : α → Prop) : Out α → Prop
  | .one a => K a
  | .brn b x y => Go.Dn.brn b (x.run K) (y.run K)
  | .all p f => ∀ y, p y → (f y).run K
theorem brn_iff {b : Bool} {p q : Prop} : brn b p q ↔ (b = true → p) ∧ (b = false → q) := by
  cases b <;> simp [brn]
theorem Out.run_mono {α : Type} {K K' : α → Prop} (h : ∀ a, K a → K' a) : ∀ o : Out α, o.run K → o.run K'
  | .one a, hh => h a hh
  | .brn b x y, hh => by
    simp only [Out.run, brn_iff] at hh ⊢
    exact ⟨fun e => Out.run_mono h x (hh.1 e), fun e => Out.run_mono h y (hh.2 e)⟩
  | .all p f, hh => fun y hy => Out.run_mono h (f y) (hh y hy)
def invOf {α : Type} (st : α → S) (side : α → Prop) (out : α → Out (Exit × S)) (μ : α → Nat) (K : Exit → S → Prop) : Nat → S → Prop :=
  fun n s => ∃ a, s = st a ∧ side a ∧ μ a = n ∧ (out a).run fun x => K x.1 x.2
def callSp (pre : List AV → Prop) (out : List AV → Out AV) : CallSpec := fun args st K =>
  match st with
  | [] => pre args ∧ (out args).run fun x => K x []
  | _ => False
def spR (regs : List AV) : List (Nat × AV) → List AV
  | [] => regs
  | (i, a) :: l => setN (spR regs l) i a
def sp (n : Nat) (l : List (Nat × AV)) (st : List Obj) : S := { regs := spR (junks n) l, st := st }
def findRange (k : Nat) : Code → Option (Array Tmp × Code × Code)
  | .rangeFunc _ ps a b =>
    match firstR a with
    | some n => (bif Nat.beq n k then some (ps, a, b) else (match findRange k a with | some x => some x | none => findRange k b))
    | none => (match findRange k a with | some x => some x | none => findRange k b)
  | .seq a b => (match findRange k a with | some x => some x | none => findRange k b)
  | .cond _ a b => (match findRange k a with | some x => some x | none => findRange k b)
  | .block _ c | .scope c | .loop c => findRange k c
  | _ => none
def lpA (P : Program) (f k : Nat) (state : LoopState) (pending : Option Code) (regs : List AV) : LoopA :=
  match P.funcs[f]? with
  | some fn =>
    (match fn.body with
     | some c =>
       (match findRange k c with
        | some (ps, a, b) => { state, pending, fn := f, regs, params := ps, assign := a, body := b }
        | none => { state, pending, fn := f, regs, params := #[], assign := .skip, body := .skip })
     | none => { state, pending, fn := f, regs, params := #[], assign := .skip, body := .skip })
  | none => { state, pending, fn := f, regs, params := #[], assign := .skip, body := .skip }
abbrev nilO : List Obj := []
def callE {α : Type} (st : α → List AV × List Obj) (side : α → Prop) (out : α → Out (AV × List Obj)) : CallSpec := fun args s K =>
  ∃ a, (args, s) = st a ∧ side a ∧ (out a).run fun x => K x.1 x.2
theorem callE_mono {α : Type} {st : α → List AV × List Obj} {side : α → Prop} {out : α → Out (AV × List Obj)} : (callE st side out).Mono := fun _ _ _ _ hK ⟨a, h1, h2, h3⟩ =>
  ⟨a, h1, h2, Out.run_mono (fun _ hh => hK _ _ hh) _ h3⟩
theorem callE_ok {E : Env} {N f : Nat} {α : Type} {st : α → List AV × List Obj} {side : α → Prop} {out : α → Out (AV × List Obj)}
    (h : ∀ a K, side a → ((out a).run fun x => K x.1 x.2) → funA E N f (st a).1 (st a).2 K) : CallOk E N f (callE st side out) := by
  rintro args s K ⟨a, h1, h2, h3⟩
  have := h a K h2 h3
  rw [← h1] at this
  exact this
def loopE {α : Type} (b : Nat) (st : α → S) (side : α → Prop) (out : α → Out (Exit × S)) : LoopSpec := fun rd base s K =>
  match rd, Nat.beq base b with
  | none, true => ∃ a, s = st a ∧ side a ∧ (out a).run fun x => K x.1 x.2
  | _, _ => False
theorem loopE_iff {α : Type} {b : Nat} {st : α → S} {side : α → Prop} {out : α → Out (Exit × S)} {rd : Option Nat} {base : Nat} {s : S} {K : Exit → S → Prop} : loopE b st side out rd base s K ↔ rd = none ∧ base = b ∧ ∃ a, s = st a ∧ side a ∧ (out a).run fun x => K x.1 x.2 := by
  unfold loopE
  cases rd with
  | none =>
    cases h : Nat.beq base b with
    | true => simp [Nat.eq_of_beq_eq_true h]
    | false => simp [Nat.ne_of_beq_eq_false h]
  | some r => simp
theorem loopE_mono {α : Type} {b : Nat} {st : α → S} {side : α → Prop} {out : α → Out (Exit × S)} : (loopE b st side out).Mono := fun _ _ _ _ _ hK h => by
  rw [loopE_iff] at h ⊢
  obtain ⟨h1, h2, a, h3, h4, h5⟩ := h
  exact ⟨h1, h2, a, h3, h4, Out.run_mono (fun _ hh => hK _ _ hh) _ h5⟩
theorem loopE_ok {E : Env} {N f k : Nat} {α : Type} {b : Nat} {st : α → S} {side : α → Prop} {out : α → Out (Exit × S)} (μ : α → Nat)
    (h : ∀ a K, side a → ((out a).run fun x => K x.1 x.2) → vc E N f none b (loopCode E.P f k) (st a) (loopK E f k b (invOf st side out μ K) (μ a) K)) : LoopOk E N f k (loopE b st side out) := by
  intro rd base s K hh
  obtain ⟨rfl, rfl, a, hs, h1, h2⟩ := loopE_iff.1 hh
  refine ⟨invOf st side out μ K, μ a, ⟨a, hs, h1, rfl, h2⟩, ?_⟩
  rintro n s' ⟨a, rfl, h1, rfl, h2⟩
  exact h a K h1 h2
abbrev AV.int (n : Int) : AV := .lit (.int .i64 n)
abbrev AV.bool (b : Bool) : AV := .lit (.bool b)
abbrev AV.str (s : ByteArray) : AV := .lit (.string s)
abbrev AV.nil : AV := .lit (.slice none 0 0)
end Go.Dn
