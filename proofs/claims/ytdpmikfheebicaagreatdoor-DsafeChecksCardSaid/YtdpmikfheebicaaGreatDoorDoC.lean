import Derived.Test.YtdpmikfheebicaaGreatDoorDoB
namespace Go.Dn
open Go
theorem wx : ∀ (l : List AV) (i j : Nat) (x y : AV), i ≠ j → cC (cC l i x) j y = cC (cC l j y) i x
 | [], _, _, _, _, _ => rfl
 | a :: l, 0, 0, _, _, h => absurd rfl h
 | a :: l, 0, j + 1, _, _, _ => rfl
 | a :: l, i + 1, 0, _, _, _ => rfl
 | a :: l, i + 1, j + 1, x, y, h => by simp only [cC]; rw [wx l i j x y (by omega)]
theorem Bs {s : S} {d d' : Option Tmp} {a b : AV} (st : List Obj) (h : tx d d' = true) : put ({ put s d a with st := st }) d' b = put (put { s with st := st } d' b) d a := by
 cases d with
 | none => rfl
 | some t =>
  cases d' with
  | none => rfl
  | some u =>
   have : t ≠ u := by intro e; subst e; simp [tx] at h
   simp only [put]
   rw [wx _ _ _ _ _ this]
theorem n9 {ops : List Oper} {o : Oper} {s : S} {d : Option Tmp} {a : AV} (h : zk ops o d = false) : Looks ops o s (put s d a) := by
 intro t ht
 cases d with
 | none => rfl
 | some u =>
  have : u ≠ t := by intro e; subst e; simp only [zk] at h; rw [h] at ht; cases ht
  simp only [put]
  rw [j9 _ _ _ _ this]
theorem Looks.symm {ops : List Oper} {o : Oper} {s1 s2 : S} (h : Looks ops o s1 s2) : Looks ops o s2 s1 := fun t ht => (h t ht).symm
theorem Jh {quiet : FuncId → Bool} {o : Op} (h : Bz o = true) : eU quiet o = 2 ∧ ∀ s, il s o = none := by
 cases o with
 | alloc T => exact ⟨rfl, fun _ => rfl⟩
 | box T x => exact ⟨rfl, fun _ => rfl⟩
 | makeSlice T a b => exact ⟨rfl, fun _ => rfl⟩
 | makeMap T x => cases x <;> first | exact ⟨rfl, fun _ => rfl⟩ | cases h
 | _ => cases h
theorem dM (s : S) (d : Option Tmp) (a : AV) : (put s d a).st = s.st := by cases d <;> rfl
theorem Cr {P : Pg} {s : S} {dst : Option Tmp} {o : Op} (hg : Bz o = true) {K : S → Prop} (h : cm P s dst o K) : cm P s dst o fun s' => K s' ∧ Kept s.st s'.st := by
 cases o with
 | alloc T =>
  simp only [cm] at h ⊢
  split at h <;> try exact h.elim
  exact ⟨h, by rw [dM]; exact Kept.app _ _⟩
 | box T x =>
  simp only [cm] at h ⊢
  split at h <;> try exact h.elim
  rename_i h1
  rw [if_pos h1]
  exact ⟨h, by rw [dM]; exact Kept.app _ _⟩
 | makeSlice T a b =>
  simp only [cm] at h ⊢
  split at h <;> try exact h.elim
  split at h <;> try exact h.elim
  exact dF (fun h => ⟨h, by rw [dM]; exact Kept.app _ _⟩) h
 | makeMap T x =>
  cases x with
  | some y => cases hg
  | none =>
   simp only [cm] at h ⊢
   split at h <;> try exact h.elim
   exact ⟨h, by rw [dM]; exact Kept.app _ _⟩
 | _ => cases hg
theorem FB {E : Env} {rec : Rec} {ops : List Oper} {b : Oper} {s : S} {K : S → Prop} (hb : eU E.quiet b.op < 2 ∨ Bz b.op = true) (h : dX E rec ops b s K) : dX E rec ops b s fun s' => K s' ∧ Kept s.st s'.st := by
 rcases hb with hb | hb
 ·obtain ⟨a, h1, h2⟩ := od hb h
  exact h2 s _ (fun _ _ => rfl) (fun _ => .refl _) ⟨h1, by rw [dM]; exact .refl _⟩
 ·rw [eD] at h ⊢
  refine kt (fun _ _ => rfl) (fun h => ?_) (fun h => ⟨h, by rw [dM]; exact .refl _⟩) h
  obtain ⟨e1, e2⟩ := Jh (quiet := E.quiet) hb
  unfold w7 at h ⊢
  rw [e1] at h ⊢
  simp only [e2] at h ⊢
  exact Cr hb h
theorem Fp {E : Env} (hE : ai E) {rec : Rec} (hr : fb rec) {ops : List Oper} {i j : Oper} (hsw : tR E.quiet ops i j = true) {s : S} {K : S → Prop}
  (h : dX E rec ops i s fun s1 => dX E rec ops j s1 K) : dX E rec ops j s fun s2 => dX E rec ops i s2 K := by
 simp only [tR, yk, aa1, Bool.not_eq_true'] at hsw
 obtain ⟨⟨⟨h1, h2⟩, h3⟩, h4⟩ := hsw
 have hc : eU E.quiet i.op < 2 := by
  split at h4
  ·omega
  ·omega
  ·cases h4
 have hj : eU E.quiet i.op = 1 → eU E.quiet j.op < 2 ∨ Bz j.op = true := by
  intro e
  rw [e] at h4
  simpa using h4
 obtain ⟨a, g1, g2⟩ := od hc h
 have hst : (put s i.dst a).st = s.st := by cases i.dst <;> rfl
 have g3 : dX E rec ops j (put s i.dst a) fun s' => K s' ∧ (eU E.quiet i.op = 1 → Kept s.st s'.st) := by
  rcases Nat.eq_zero_or_pos (eU E.quiet i.op) with e | e
  ·exact dQ hE hr (fun s' hk => ⟨hk, fun e2 => by omega⟩) g1
  ·refine dQ hE hr (fun s' hk => ⟨hk.1, fun _ => ?_⟩) (FB (hj (by omega)) g1)
   rw [← hst]; exact hk.2
 refine pr hE hr (n9 h1).symm hst ?_ g3
 intro st b hs hk
 refine g2 _ _ ?_ ?_ ?_
 ·have : Looks ops i s { s with st := st } := fun _ _ => rfl
  intro t ht
  exact (this t ht).trans (n9 h2 t ht)
 ·intro e
  have := hk.2 e
  rw [dM] at this ⊢
  exact this
 ·rw [← Bs st h3]; exact hk.1
theorem nM : ∀ (l : List Bool) (i : Nat), (fX l i).length = l.length
 | [], _ => rfl
 | _ :: _, 0 => rfl
 | _ :: l, i + 1 => by simp [fX, nM l i]
theorem gk : ∀ (l : List Bool) (i : Nat), eR (fX l i) i = true
 | [], _ => rfl
 | _ :: _, 0 => rfl
 | _ :: l, i + 1 => by simp only [fX, eR]; exact gk l i
theorem dO : ∀ (l : List Bool) (i j : Nat), i ≠ j → eR (fX l i) j = eR l j
 | [], _, _, _ => rfl
 | _ :: _, 0, j, h => by cases j with | zero => exact absurd rfl h | succ j => rfl
 | _ :: l, i + 1, j, h => by
  cases j with
  | zero => rfl
  | succ j => simp only [fX, eR]; exact dO l i j (by omega)
theorem qY : ∀ (l : List Bool) (i j : Nat), fX (fX l i) j = fX (fX l j) i
 | [], _, _ => rfl
 | _ :: _, 0, 0 => rfl
 | _ :: _, 0, j + 1 => rfl
 | _ :: _, i + 1, 0 => rfl
 | _ :: l, i + 1, j + 1 => by simp only [fX]; rw [qY l i j]
theorem nI (listed : List Bool) : ∀ l : List Edge, kz listed l = true ↔ ∀ e, e ∈ l → Region.binds .any e = true → e.on < listed.length ∧ eR listed e.on = true
 | [] => by simp [kz]
 | e :: l => by
  simp only [kz, aa1, nI listed l, List.forall_mem_cons, ab6, Bool.not_eq_true', Nat.blt_eq]
  constructor
  ·rintro ⟨h1, h2⟩
   refine ⟨fun hb => ?_, h2⟩
   rcases h1 with h1 | h1
   ·rw [h1] at hb; cases hb
   ·exact h1
  ·rintro ⟨h1, h2⟩
   refine ⟨?_, h2⟩
   cases hb : Region.binds .any e with
   | false => exact .inl rfl
   | true => exact .inr (h1 hb)
theorem uV (listed : List Bool) : ∀ (l : List Oper) (k i : Nat) (o : Oper), (i, o) ∈ j6 listed l k ↔ ∃ m, i = k + m ∧ l[m]? = some o ∧ eR listed i = false ∧ kz listed o.after.toList = true
 | [], k, i, o => by simp [j6]
 | b :: l, k, i, o => by
  have ih := uV listed l (k + 1) i o
  have tail : (i, o) ∈ j6 listed l (k + 1) ↔ ∃ m, i = k + (m + 1) ∧ (b :: l)[m + 1]? = some o ∧ eR listed i = false ∧ kz listed o.after.toList = true := by
   rw [ih]
   constructor
   ·rintro ⟨m, h1, h2, h3⟩; exact ⟨m, by omega, by simpa using h2, h3⟩
   ·rintro ⟨m, h1, h2, h3⟩; exact ⟨m, by omega, by simpa using h2, h3⟩
  simp only [j6]
  cases hb : (!eR listed k && kz listed b.after.toList) with
  | true =>
   simp only [aa7, List.mem_cons, tail, aa9]
   simp only [aa1, Bool.not_eq_true'] at hb
   constructor
   ·rintro (⟨rfl, rfl⟩ | ⟨m, h⟩)
    ·exact ⟨0, by omega, rfl, hb.1, hb.2⟩
    ·exact ⟨m + 1, h⟩
   ·rintro ⟨m, h1, h2, h3⟩
    cases m with
    | zero => simp at h2; exact .inl ⟨by omega, h2.symm⟩
    | succ m => exact .inr ⟨m, h1, h2, h3⟩
  | false =>
   simp only [aa5, tail]
   constructor
   ·rintro ⟨m, h⟩; exact ⟨m + 1, h⟩
   ·rintro ⟨m, h1, h2, h3, h4⟩
    cases m with
    | zero =>
     simp at h2; subst h2
     simp only [Nat.add_zero] at h1; subst h1
     rw [h3, h4] at hb; simp at hb
    | succ m => exact ⟨m, h1, h2, h3, h4⟩
def lg (ops : List Oper) (listed : List Bool) (i : Nat) (o : Oper) : Prop := ops[i]? = some o ∧ eR listed i = false ∧ ∀ e, e ∈ o.after.toList → Region.binds .any e = true → e.on < listed.length ∧ eR listed e.on = true
theorem hH {ops : List Oper} {listed : List Bool} {i : Nat} {o : Oper} : (i, o) ∈ j6 listed ops 0 ↔ lg ops listed i o := by
 rw [uV]
 constructor
 ·rintro ⟨m, h1, h2, h3, h4⟩
  obtain rfl : i = m := by omega
  exact ⟨h2, h3, (nI _ _).1 h4⟩
 ·rintro ⟨h1, h2, h3⟩
  exact ⟨i, by omega, h1, h2, (nI _ _).2 h3⟩
theorem lg.set {ops : List Oper} {listed : List Bool} {i j : Nat} {o : Oper} (h : lg ops listed i o) (hij : j ≠ i) : lg ops (fX listed j) i o := by
 refine ⟨h.1, by rw [dO _ _ _ hij]; exact h.2.1, fun e he hb => ?_⟩
 obtain ⟨h1, h2⟩ := h.2.2 e he hb
 refine ⟨by rw [nM]; exact h1, ?_⟩
 by_cases e' : j = e.on
 ·subst e'; exact gk _ _
 ·rw [dO _ _ _ e']; exact h2
inductive Cu (ops : List Oper) (i : Nat) : Nat → Prop
 | base (j : Nat) (b : Oper) (e : Edge) (h1 : ops[j]? = some b) (h2 : e ∈ b.after.toList) (h3 : Region.binds .any e = true) (h4 : e.on = i) : Cu ops i j
 | step (j : Nat) (b : Oper) (e : Edge) (h1 : ops[j]? = some b) (h2 : e ∈ b.after.toList) (h3 : Region.binds .any e = true) (h4 : Cu ops i e.on) : Cu ops i j
def DC (ops : List Oper) (listed : List Bool) : Prop := ∀ j b, ops[j]? = some b → j < listed.length → eR listed j = true → ∀ e, e ∈ b.after.toList → Region.binds .any e = true → e.on < listed.length ∧ eR listed e.on = true
theorem Co {ops : List Oper} {listed : List Bool} (hd : DC ops listed) {i j : Nat} (h : Cu ops i j) : j < listed.length → eR listed j = true → eR listed i = true := by
 induction h with
 | base j b e h1 h2 h3 h4 => intro hl hn; rw [← h4]; exact (hd j b h1 hl hn e h2 h3).2
 | step j b e h1 h2 h3 _ ih => intro hl hn; exact ih (hd j b h1 hl hn e h2 h3).1 (hd j b h1 hl hn e h2 h3).2
theorem lg.dep {ops : List Oper} {listed : List Bool} (hd : DC ops listed) {i j : Nat} {b : Oper} (h : lg ops listed j b) (hp : Cu ops i j) : eR listed i = true := by
 cases hp with
 | base _ b' e h1 h2 h3 h4 =>
  have : b' = b := Option.some.inj (h1.symm.trans h.1)
  subst this
  rw [← h4]; exact (h.2.2 e h2 h3).2
 | step _ b' e h1 h2 h3 h4 =>
  have : b' = b := Option.some.inj (h1.symm.trans h.1)
  subst this
  exact Co hd h4 (h.2.2 e h2 h3).1 (h.2.2 e h2 h3).2
theorem DC.iU (ops : List Oper) (n : Nat) : DC ops (iU n) := fun j b _ hl hn => by
 have : ∀ (n j : Nat), j < (Go.Dn.iU n).length → eR (Go.Dn.iU n) j = false := by
  intro n
  induction n with
  | zero => intro j h; simp [Go.Dn.iU] at h
  | succ n ih => intro j h; cases j with | zero => rfl | succ j => simp only [Go.Dn.iU, eR]; exact ih j (by simpa [Go.Dn.iU] using h)
 rw [this n j hl] at hn; cases hn
theorem DC.set {ops : List Oper} {listed : List Bool} (hd : DC ops listed) {i : Nat} {o : Oper} (h : lg ops listed i o) : DC ops (fX listed i) := by
 intro j b hb hl hn e he hbi
 rw [nM] at hl ⊢
 have key : e.on < listed.length ∧ eR listed e.on = true := by
  by_cases hij : i = j
  ·subst hij
   have : b = o := Option.some.inj (hb.symm.trans h.1)
   subst this
   exact h.2.2 e he hbi
  ·rw [dO _ _ _ hij] at hn
   exact hd j b hb hl hn e he hbi
 refine ⟨key.1, ?_⟩
 by_cases e' : i = e.on
 ·subst e'; exact gk _ _
 ·rw [dO _ _ _ e']; exact key.2
theorem wW (acc : List Nat) : ∀ l : List Edge, xC acc l = true → ∃ e, e ∈ l ∧ Region.binds .any e = true ∧ e.on ∈ acc
 | [], h => by simp [xC] at h
 | e :: l, h => by
  simp only [xC, ab6, aa1] at h
  rcases h with ⟨h1, h2⟩ | h
  ·exact ⟨e, by simp, h1, (lx _ _).1 h2⟩
  ·obtain ⟨e', h1, h2⟩ := wW acc l h
   exact ⟨e', by simp [h1], h2⟩
theorem pV {ops : List Oper} {i : Nat} : ∀ (l : List Oper) (k : Nat) (acc : List Nat), (∀ m b, l[m]? = some b → ops[k + m]? = some b) → (∀ j, j ∈ acc → j = i ∨ Cu ops i j) → ∀ j, j ∈ fwd l k acc → j = i ∨ Cu ops i j
 | [], _, _, _, ha, j, hj => ha j hj
 | o :: l, k, acc, hl, ha, j, hj => by
  simp only [fwd] at hj
  have hl' : ∀ m b, l[m]? = some b → ops[k + 1 + m]? = some b := fun m b hm => by
   have := hl (m + 1) b (by simpa using hm)
   rwa [show k + 1 + m = k + (m + 1) by omega]
  cases hb : xC acc o.after.toList with
  | false => rw [hb] at hj; exact pV l (k + 1) acc hl' ha j hj
  | true =>
   rw [hb] at hj
   refine pV l (k + 1) (k :: acc) hl' (fun j' hj' => ?_) j hj
   rcases List.mem_cons.1 hj' with rfl | hj'
   ·obtain ⟨e, h1, h2, h3⟩ := wW _ _ hb
    rcases ha _ h3 with h4 | h4
    ·exact .inr (.base _ o e (hl 0 o rfl) h1 h2 h4)
    ·exact .inr (.step _ o e (hl 0 o rfl) h1 h2 h4)
   ·exact ha j' hj'
def JA (quiet : FuncId → Bool) (ops : List Oper) (listed : List Bool) (i : Nat) (o : Oper) : Prop :=
 ∀ j b, ops[j]? = some b → i ≠ j → eR listed j = false → ¬ Cu ops i j → tR quiet ops o b = true
theorem free_spec {quiet : FuncId → Bool} {ops : List Oper} {listed : List Bool} {i : Nat} {o : Oper} {fs : List Nat} (hfs : ∀ j, j ∈ fs → j = i ∨ Cu ops i j) : ∀ (l : List Oper) (k : Nat), xE quiet ops listed i o fs l k = true → ∀ m b, l[m]? = some b → i ≠ k + m → eR listed (k + m) = false → ¬ Cu ops i (k + m) → tR quiet ops o b = true
 | [], _, _, m, b, h, _, _, _ => by simp at h
 | x :: l, k, h, m, b, hm, hi, hn, he => by
  simp only [xE, aa1, ab6] at h
  cases m with
  | zero =>
   simp at hm; subst hm
   rcases h.1 with ((h1 | h1) | h1) | h1
   ·exact absurd (Nat.eq_of_beq_eq_true h1) (by simpa using hi)
   ·rw [show k + 0 = k from rfl] at hn; rw [hn] at h1; cases h1
   ·rcases hfs _ ((lx _ _).1 h1) with h2 | h2
    ·exact absurd h2.symm (by simpa using hi)
    ·exact absurd h2 (by simpa using he)
   ·exact h1
  | succ m =>
   refine free_spec hfs l (k + 1) h.2 m b (by simpa using hm) (by omega) ?_ ?_
   ·rw [show k + 1 + m = k + (m + 1) by omega]; exact hn
   ·rw [show k + 1 + m = k + (m + 1) by omega]; exact he
theorem JA.set {quiet : FuncId → Bool} {ops : List Oper} {listed : List Bool} {i j : Nat} {o : Oper} (h : JA quiet ops listed i o) : JA quiet ops (fX listed j) i o := by
 intro k b hb hk hn he
 refine h k b hb hk ?_ he
 by_cases e : j = k
 ·subst e; rw [gk] at hn; cases hn
 ·rwa [dO _ _ _ e] at hn
def np (E : Env) (rec : Rec) (ops : List Oper) : Nat → List Bool → S → (S → Prop) → Prop
 | 0, listed, s, K => (∀ i o, ¬ lg ops listed i o) ∧ K s
 | n + 1, listed, s, K => ((∀ i o, ¬ lg ops listed i o) → K s) ∧ ∀ i o, lg ops listed i o → dX E rec ops o s fun s' => np E rec ops n (fX listed i) s' K
theorem tC {E : Env} (hE : ai E) {rec : Rec} (hr : fb rec) {ops : List Oper} {K : S → Prop} : ∀ (n : Nat) (listed : List Bool) (s : S) (i : Nat) (o : Oper), DC ops listed → lg ops listed i o → JA E.quiet ops listed i o →
  (dX E rec ops o s fun s' => np E rec ops n (fX listed i) s' K) → np E rec ops (n + 1) listed s K
 | n, listed, s, i, o, hdc, hi, hf, h => by
  refine ⟨fun hn => absurd hi (hn i o), fun j b hj => ?_⟩
  by_cases hij : i = j
  ·subst hij
   have : o = b := Option.some.inj (hi.1.symm.trans hj.1)
   subst this; exact h
  ·have hsw : tR E.quiet ops o b = true := hf j b hj.1 hij hj.2.1 (fun hp => by
    have := hj.dep hdc hp
    rw [hi.2.1] at this; cases this)
   cases n with
   | zero =>
    have hc : eU E.quiet o.op < 2 := by
     simp only [tR, aa1] at hsw
     have h4 := hsw.2
     split at h4
     ·omega
     ·omega
     ·cases h4
    obtain ⟨a, h1, _⟩ := od hc h
    exact absurd (hj.set hij) (h1.1 j b)
   | succ n =>
    have h' : dX E rec ops o s fun s1 => dX E rec ops b s1 fun s2 => np E rec ops n (fX (fX listed i) j) s2 K :=
     dQ hE hr (fun s1 h1 => h1.2 j b (hj.set hij)) h
    refine dQ hE hr (fun s2 h2 => ?_) (Fp hE hr hsw h')
    rw [qY] at h2
    exact tC hE hr n (fX listed j) s2 i o (hdc.set hj) (hi.set (Ne.symm hij)) hf.set h2
theorem xF {p : Nat → Oper → Prop} : ∀ (l : List (Nat × Oper)), Gn p l → ∀ i o, (i, o) ∈ l → p i o
 | [], _, i, o, h => by simp at h
 | [(j, b)], h, i, o, hi => by
  simp only [List.mem_singleton, aa9] at hi
  obtain ⟨rfl, rfl⟩ := hi; exact h
 | (j, b) :: x :: l, h, i, o, hi => by
  simp only [Gn] at h
  rcases List.mem_cons.1 hi with hi | hi
  ·cases hi; exact h.1
  ·exact xF (x :: l) h.2 i o hi
theorem oK {quiet : FuncId → Bool} {ops : List Oper} {listed : List Bool} : ∀ (l : List (Nat × Oper)) {i : Nat} {o : Oper}, nK quiet ops listed l = some (i, o) → (i, o) ∈ l ∧ xE quiet ops listed i o (fwd ops 0 [i]) ops 0 = true
 | [], i, o, h => by simp [nK] at h
 | (j, b) :: l, i, o, h => by
  simp only [nK] at h
  cases hb : xE quiet ops listed j b (fwd ops 0 [j]) ops 0 with
  | true => rw [hb] at h; simp at h; obtain ⟨rfl, rfl⟩ := h; exact ⟨by simp, hb⟩
  | false =>
   rw [hb] at h
   obtain ⟨h1, h2⟩ := oK l h
   exact ⟨by simp [h1], h2⟩
def cE (st st' : List Obj) : Prop := ∀ k, Ce (aD st k) = true → aD st' k = aD st k
theorem zz {st : List Obj} {k : Nat} (h : Ce (aD st k) = true) : k < st.length := by
 rcases Nat.lt_or_ge k st.length with h1 | h1
 ·exact h1
 ·rw [dY _ _ h1] at h; cases h
theorem cE.refl (st : List Obj) : cE st st := fun _ _ => rfl
theorem cE.trans {a b c : List Obj} (h1 : cE a b) (h2 : cE b c) : cE a c := fun k hk => by
 rw [h2 k (by rw [h1 k hk]; exact hk), h1 k hk]
theorem cE.app (st l : List Obj) : cE st (st ++ l) := fun k hk => dD _ _ _ (zz hk)
theorem cE.dead {st : List Obj} {i : Nat} {T : TypeId} {xs : List AV} (h : aD st i = .row T xs) : cE st (dU st i .dead) := fun k hk => by
 refine bK _ _ _ _ (fun e => ?_)
 subst e
 rw [h] at hk; cases hk
theorem cE.freeze : ∀ (is : List Nat) (st : List Obj), cE st (df st is)
 | [], st => .refl st
 | i :: is, st => by
  refine cE.trans ?_ (cE.freeze is _)
  intro k hk
  by_cases e : i = k
  ·subst e
   rw [bD _ _ _ (zz hk)]
   cases ho : aD st i <;> rw [ho] at hk <;> first | rfl | cases hk
  ·exact bK _ _ _ _ e
theorem Iv {quiet : FuncId → Bool} {o : Op} (h : Er o = true) : eU quiet o = 2 ∧ ∀ s, il s o = none := by
 cases o with
 | call c =>
  obtain ⟨callee, args, ats⟩ := c
  cases callee with
  | builtin b => cases b <;> first | exact ⟨rfl, fun _ => rfl⟩ | cases h
  | value g => cases h
  | invoke r m => cases h
 | buildSlice T n ps => exact ⟨rfl, fun _ => rfl⟩
 | makeSlice T a b => exact ⟨rfl, fun _ => rfl⟩
 | alloc T => exact ⟨rfl, fun _ => rfl⟩
 | box T x => exact ⟨rfl, fun _ => rfl⟩
 | makeMap T x => cases x <;> first | exact ⟨rfl, fun _ => rfl⟩ | cases h
 | _ => cases h
theorem zC {P : Pg} {s : S} {dst : Option Tmp} {o : Op} (hg : Er o = true) {K : S → Prop} (h : cm P s dst o K) : cm P s dst o fun s' => K s' ∧ cE s.st s'.st := by
 cases o with
 | alloc T =>
  simp only [cm] at h ⊢
  split at h <;> try exact h.elim
  exact ⟨h, by rw [dM]; exact cE.app _ _⟩
 | box T x =>
  simp only [cm] at h ⊢
  split at h <;> try exact h.elim
  rename_i h1
  rw [if_pos h1]
  exact ⟨h, by rw [dM]; exact cE.app _ _⟩
 | makeMap T x =>
  cases x with
  | some y => cases hg
  | none =>
   simp only [cm] at h ⊢
   split at h <;> try exact h.elim
   exact ⟨h, by rw [dM]; exact cE.app _ _⟩
 | buildSlice T n ps =>
  simp only [cm] at h ⊢
  split at h <;> try exact h.elim
  split at h <;> try exact h.elim
  split at h <;> try exact h.elim
  split at h <;> try exact h.elim
  rename_i h4
  rw [if_pos h4]
  exact ⟨h, by rw [dM]; exact (cE.freeze _ _).trans (cE.app _ _)⟩
 | makeSlice T a b =>
  simp only [cm] at h ⊢
  split at h <;> try exact h.elim
  split at h <;> try exact h.elim
  exact dF (fun h => ⟨h, by rw [dM]; exact cE.app _ _⟩) h
 | call c =>
  obtain ⟨callee, args, ats⟩ := c
  cases callee with
  | builtin b =>
   cases b <;> try (cases hg; done)
   simp only [cm] at h ⊢
   split at h <;> try exact h.elim
   split at h <;> try exact h.elim
   rename_i h3
   rw [if_pos h3]
   unfold oh at h ⊢
   split at h <;> try exact h.elim
   split at h <;> try exact h.elim
   split at h <;> try exact h.elim
   split at h <;> try exact h.elim
   ·exact dF (fun h => ⟨h, by rw [dM]; exact cE.app _ _⟩) h
   ·split at h <;> try exact h.elim
    split at h <;> try exact h.elim
    rename_i k1 k2
    rw [if_pos k2]
    exact dF (fun h => ⟨h, by rw [dM]; exact (cE.dead k1).trans (cE.app _ _)⟩) h
  | value g => cases hg
  | invoke r m => cases hg
 | _ => cases hg
theorem BR {E : Env} {rec : Rec} {ops : List Oper} {b : Oper} {s : S} {K : S → Prop} (hb : eU E.quiet b.op < 2 ∨ Er b.op = true) (h : dX E rec ops b s K) : dX E rec ops b s fun s' => K s' ∧ cE s.st s'.st := by
 rcases hb with hb | hb
 ·obtain ⟨a, h1, h2⟩ := od hb h
  exact h2 s _ (fun _ _ => rfl) (fun _ => Kept.refl _) ⟨h1, by rw [dM]; exact .refl _⟩
 ·rw [eD] at h ⊢
  refine kt (fun _ _ => rfl) (fun h => ?_) (fun h => ⟨h, by rw [dM]; exact .refl _⟩) h
  obtain ⟨e1, e2⟩ := Iv (quiet := E.quiet) hb
  unfold w7 at h ⊢
  rw [e1] at h ⊢
  simp only [e2] at h ⊢
  exact zC hb h
theorem FU {P : Program} {st st' : List Obj} {T : TypeId} {k : Nat} {i : Nat} {p : List Nat} {off : Nat} (h : aD st' i = aD st i) : nt P st' T (.ptr i k p off) = nt P st T (.ptr i k p off) := by
 simp only [nt, h]
theorem Ju {P : Program} {st st' : List Obj} {T : TypeId} (U : TypeId) (l : List AV) : yn P st' T (.ae U l) = yn P st T (.ae U l) := by
 unfold yn
 cases P.underlying T with
 | none => rfl
 | some d => cases d <;> rfl
theorem py {E : Env} {s s' : S} {o : Oper} (h : nq s o = true) (hs : tK o.op s s') (hk : cE s.st s'.st) : o.guard = none ∧ (eU E.quiet o.op = 1 ∧ ∀ c a b, o.op ≠ .pick c a b) ∧ bO E s' o.op = bO E s o.op ∧ nq s' o = true := by
 unfold nq at h ⊢
 split at h <;> try (cases h; done)
 ·rename_i T x hg ho
  have he : ev s x = ev s' x := hs.ev x (by rw [ho]; simp [opsOf])
  refine ⟨hg, ⟨by rw [ho]; rfl, fun c a b e => by rw [ho] at e; cases e⟩, ?_, ?_⟩
  ·rw [ho]; simp only [bO]; rw [← he]
   split at h <;> try (cases h; done)
   ·rename_i hx; rw [hx, FU (hk _ h)]
   ·rename_i hx; rw [hx]; rfl
   ·rename_i hx; rw [hx]; rfl
  ·rw [← he]
   split at h <;> try (cases h; done)
   ·rw [hk _ h]; exact h
   ·rename_i hx; simp only [hx]
   ·rename_i hx; simp only [hx]
 ·rename_i args ats hg ho
  have he : oR s args.toList = oR s' args.toList := gp (fun x hx => hs.ev x (by rw [ho]; simpa only [opsOf] using hx))
  refine ⟨hg, ⟨by rw [ho]; rfl, fun c a b e => by rw [ho] at e; cases e⟩, ?_, ?_⟩
  ·rw [ho]; simp only [bO]; rw [← he]
   split at h <;> try (cases h; done)
   rename_i hx; rw [hx]
   cases ats.toList with
   | nil => rfl
   | cons T l => simp only [Ju (st := s.st) (st' := s'.st)]
  ·rw [← he]; exact h
theorem vu {E : Env} {rec : Rec} {ops : List Oper} {o : Oper} {s : S} {K : S → Prop} (hs : nq s o = true) (h : dX E rec ops o s K) : ∃ a, K (put s o.dst a) ∧ ∀ (s' : S) (K' : S → Prop), Looks ops o s s' → cE s.st s'.st → K' (put s' o.dst a) → dX E rec ops o s' K' := by
 obtain ⟨hg, ⟨hcl, hnp⟩, _, _⟩ := py (E := E) hs (Looks.same (ops := ops) (s2 := s) (fun _ _ => rfl)) (.refl _)
 have h0 : w7 E rec s o.dst o.op K := by
  unfold dX at h; rw [hg] at h; exact h
 have h1 : ∃ c a, bO E s o.op = some (c, a) ∧ c = true ∧ K (put s o.dst a) := by
  unfold w7 at h0
  rw [hcl] at h0
  simp only [] at h0
  split at h0
  ·rename_i c a hr
   obtain ⟨q1, q2⟩ := aq.1 h0
   exact ⟨c, a, hr, q1, q2⟩
  ·exact h0.elim
 obtain ⟨c, a, hr, hc, hk⟩ := h1
 refine ⟨a, hk, fun s' K' hl hb hk' => ?_⟩
 obtain ⟨_, _, hr', _⟩ := py (E := E) hs hl.same hb
 rw [hr] at hr'
 unfold dX
 rw [hg]
 unfold w7
 rw [hcl]
 simp only [hr']
 exact aq.2 ⟨hc, hk'⟩
def zY (quiet : FuncId → Bool) (ops : List Oper) (listed : List Bool) (i : Nat) (o : Oper) : Prop :=
 ∀ j b, ops[j]? = some b → i ≠ j → eR listed j = false → ¬ Cu ops i j → tr quiet ops o b = true
theorem vC {quiet : FuncId → Bool} {ops : List Oper} {listed : List Bool} {i : Nat} {o : Oper} {fs : List Nat} (hfs : ∀ j, j ∈ fs → j = i ∨ Cu ops i j) : ∀ (l : List Oper) (k : Nat), wE quiet ops listed i o fs l k = true → ∀ m b, l[m]? = some b → i ≠ k + m → eR listed (k + m) = false → ¬ Cu ops i (k + m) → tr quiet ops o b = true
 | [], _, _, m, b, h, _, _, _ => by simp at h
 | x :: l, k, h, m, b, hm, hi, hn, he => by
  simp only [wE, aa1, ab6] at h
  cases m with
  | zero =>
   simp at hm; subst hm
   rcases h.1 with ((h1 | h1) | h1) | h1
   ·exact absurd (Nat.eq_of_beq_eq_true h1) (by simpa using hi)
   ·rw [show k + 0 = k from rfl] at hn; rw [hn] at h1; cases h1
   ·rcases hfs _ ((lx _ _).1 h1) with h2 | h2
    ·exact absurd h2.symm (by simpa using hi)
    ·exact absurd h2 (by simpa using he)
   ·exact h1
  | succ m =>
   refine vC hfs l (k + 1) h.2 m b (by simpa using hm) (by omega) ?_ ?_
   ·rw [show k + 1 + m = k + (m + 1) by omega]; exact hn
   ·rw [show k + 1 + m = k + (m + 1) by omega]; exact he
theorem zY.set {quiet : FuncId → Bool} {ops : List Oper} {listed : List Bool} {i j : Nat} {o : Oper} (h : zY quiet ops listed i o) : zY quiet ops (fX listed j) i o := by
 intro k b hb hk hn he
 refine h k b hb hk ?_ he
 by_cases e : j = k
 ·subst e; rw [gk] at hn; cases hn
 ·rwa [dO _ _ _ e] at hn
theorem rS {E : Env} (hE : ai E) {rec : Rec} (hr : fb rec) {ops : List Oper} {K : S → Prop} : ∀ (n : Nat) (listed : List Bool) (s : S) (i : Nat) (o : Oper), DC ops listed → lg ops listed i o → zY E.quiet ops listed i o → nq s o = true →
  (dX E rec ops o s fun s' => np E rec ops n (fX listed i) s' K) → np E rec ops (n + 1) listed s K
 | n, listed, s, i, o, hdc, hi, hf, hst, h => by
  refine ⟨fun hn => absurd hi (hn i o), fun j b hj => ?_⟩
  by_cases hij : i = j
  ·subst hij
   have : o = b := Option.some.inj (hi.1.symm.trans hj.1)
   subst this; exact h
  ·have hsw : tr E.quiet ops o b = true := hf j b hj.1 hij hj.2.1 (fun hp => by
    have := hj.dep hdc hp
    rw [hi.2.1] at this; cases this)
   simp only [tr, yk, aa1, ab6, Bool.not_eq_true', Nat.blt_eq] at hsw
   obtain ⟨⟨⟨q1, q2⟩, q3⟩, q4⟩ := hsw
   cases n with
   | zero =>
    obtain ⟨a, h1, _⟩ := vu hst h
    exact absurd (hj.set hij) (h1.1 j b)
   | succ n =>
    have h' : dX E rec ops o s fun s1 => dX E rec ops b s1 fun s2 => np E rec ops n (fX (fX listed i) j) s2 K :=
     dQ hE hr (fun s1 h1 => h1.2 j b (hj.set hij)) h
    obtain ⟨a, g1, g2⟩ := vu hst h'
    have g3 := BR q4 g1
    refine pr hE hr (n9 q1).symm (dM s o.dst a) ?_ g3
    intro st c _ hk
    obtain ⟨k1, k2⟩ := hk
    rw [dM, dM] at k2
    have hbk : cE s.st (put { s with st := st } b.dst c).st := by rw [dM]; exact k2
    have hlk : Looks ops o s (put { s with st := st } b.dst c) := by
     have : Looks ops o s { s with st := st } := fun _ _ => rfl
     intro t ht
     exact (this t ht).trans (n9 q2 t ht)
    have key := g2 (put { s with st := st } b.dst c) (fun s2 => np E rec ops n (fX (fX listed j) i) s2 K) hlk hbk (by
     rw [← Bs st q3, qY]; exact k1)
    exact rS hE hr n (fX listed j) _ i o (hdc.set hj) (hi.set (Ne.symm hij)) hf.set (py (E := E) hst hlk.same hbk).2.2.2 key
theorem vR {quiet : FuncId → Bool} {ops : List Oper} {listed : List Bool} {s : S} : ∀ (l : List (Nat × Oper)) {i : Nat} {o : Oper}, AD quiet ops listed s l = some (i, o) → (i, o) ∈ l ∧ nq s o = true ∧ wE quiet ops listed i o (fwd ops 0 [i]) ops 0 = true
 | [], i, o, h => by simp [AD] at h
 | (j, b) :: l, i, o, h => by
  simp only [AD] at h
  cases hb : nq s b && wE quiet ops listed j b (fwd ops 0 [j]) ops 0 with
  | true =>
   rw [hb] at h; simp at h; obtain ⟨rfl, rfl⟩ := h
   rw [aa1] at hb
   exact ⟨by simp, hb⟩
  | false =>
   rw [hb] at h
   obtain ⟨h1, h2⟩ := vR l h
   exact ⟨by simp [h1], h2⟩
theorem pM {E : Env} (hE : ai E) {rec : Rec} (hr : fb rec) {ops : List Oper} {K : S → Prop} : ∀ (n : Nat) (listed : List Bool) (s : S), DC ops listed → qj E rec ops n listed s K → np E rec ops n listed s K
 | 0, listed, s, _, h => by
  unfold qj at h
  split at h
  ·rename_i h0
   exact ⟨fun i o hi => by rw [← hH, h0] at hi; simp at hi, h⟩
  ·exact h.elim
 | n + 1, listed, s, hdc, h => by
  unfold qj at h
  split at h
  ·rename_i h0
   exact ⟨fun _ => h, fun i o hi => by rw [← hH, h0] at hi; simp at hi⟩
  ·rename_i h0
   split at h
   ·rename_i i o hp
    obtain ⟨h1, h2⟩ := oK _ hp
    have hfs : ∀ j, j ∈ fwd ops 0 [i] → j = i ∨ Cu ops i j := pV ops 0 [i] (fun m b hm => by simpa using hm) (fun j hj => .inl (by simpa using hj))
    have hfree : JA E.quiet ops listed i o := fun j b hb hij hn he => free_spec hfs ops 0 h2 j b hb (by omega) (by simpa using hn) (by simpa using he)
    exact tC hE hr n listed s i o hdc (hH.1 h1) hfree (dQ hE hr (fun s' => pM hE hr n _ s' (hdc.set (hH.1 h1))) h)
   ·split at h
    ·rename_i i o hp
     obtain ⟨h1, h2, h3⟩ := vR _ hp
     have hfs : ∀ j, j ∈ fwd ops 0 [i] → j = i ∨ Cu ops i j := pV ops 0 [i] (fun m b hm => by simpa using hm) (fun j hj => .inl (by simpa using hj))
     have hfree : zY E.quiet ops listed i o := fun j b hb hij hn he => vC hfs ops 0 h3 j b hb (by omega) (by simpa using hn) (by simpa using he)
     exact rS hE hr n listed s i o hdc (hH.1 h1) hfree h2 (dQ hE hr (fun s' => pM hE hr n _ s' (hdc.set (hH.1 h1))) h)
    have := xF _ h
    refine ⟨fun hn => ?_, fun i o hi => dQ hE hr (fun s' => pM hE hr n _ s' (hdc.set hi)) (this i o (hH.2 hi))⟩
    exfalso
    cases hrl : j6 listed ops 0 with
    | nil => exact h0 hrl
    | cons x l =>
     obtain ⟨i, o⟩ := x
     exact hn i o (hH.1 (by rw [hrl]; simp))
theorem wQ : ∀ (l : List Bool) (i : Nat), eR l i = l.getD i true
 | [], _ => rfl
 | _ :: _, 0 => rfl
 | _ :: l, i + 1 => by simpa [eR] using wQ l i
theorem A8 : ∀ (l : List Bool) (i : Nat), fX l i = l.set i true
 | [], _ => rfl
 | _ :: _, 0 => rfl
 | _ :: l, i + 1 => by simp [fX, A8 l i]
theorem xK : ∀ n, iU n = List.replicate n false
 | 0 => rfl
 | n + 1 => by simp [iU, xK n, List.replicate_succ]
theorem nT {ops : Array Oper} {listed : Array Bool} {i : Nat} : i ∈ Region.ready .any ops listed ↔ ∃ o, lg ops.toList listed.toList i o := by
 rw [mem_ready]
 have e1 : ∀ k, eR listed.toList k = listed.getD k true := fun k => by rw [wQ]; simp
 constructor
 ·rintro ⟨h1, o, h2, h3⟩
  refine ⟨o, by simpa using h2, by rw [e1]; exact h1, fun e he hb => ?_⟩
  have := h3 e (by simpa using he) hb
  rcases Nat.lt_or_ge e.on listed.size with h' | h'
  ·refine ⟨by simpa using h', ?_⟩
   rw [e1]; simp [h'] at this ⊢; exact this
  ·simp [Array.getElem?_eq_none h'] at this
 ·rintro ⟨o, h1, h2, h3⟩
  refine ⟨by rw [← e1]; exact h2, o, by simpa using h1, fun e he hb => ?_⟩
  obtain ⟨h4, h5⟩ := h3 e (by simpa using he) hb
  rw [e1] at h5
  have h4' : e.on < listed.size := by simpa using h4
  simp [h4'] at h5 ⊢; exact h5
theorem uo {E : Env} (hE : aw E) {rec : Rec} (hrec : fK E.P rec) {F : Fence} (hF : F = Fence.wide ∨ ∃ B, F = Fence.wide.inRound B) {n : Nat} {ops : Array Oper} {K : S → Prop} {lo base : Nat} {Q : Exit → Act → World → Prop} :
  ∀ (k : Nat) (listed : Array Bool) {C : Ctx}, C.P = E.P → Inv C → ∀ {s : S} {a : Act}, dn C s a → gN lo C a.defers → base ≤ s.st.length → np E rec ops.toList k listed.toList s K →
   (∀ a' w', ct lo base C K a' w' → Q .normal a' w') → wpAnyIn F n E.P .any ops Q k listed a C.w
 | 0, listed, C, hC, hI, s, a, hs, hd, hb, h, hQ => by
  refine ⟨?_, hQ _ _ ⟨C, s, rfl, rfl, hI, hs, hd, hb, Ext.refl C (by rw [hs.st]; exact hb), h.2⟩⟩
  rw [List.eq_nil_iff_forall_not_mem]
  intro i hi
  obtain ⟨o, ho⟩ := nT.1 hi
  exact h.1 i o ho
 | k + 1, listed, C, hC, hI, s, a, hs, hd, hb, h, hQ => by
  refine ⟨fun hn => hQ _ _ ⟨C, s, rfl, rfl, hI, hs, hd, hb, Ext.refl C (by rw [hs.st]; exact hb), h.1 fun i o ho => ?_⟩, fun i hi => ?_⟩
  ·have := nT.2 ⟨o, ho⟩
   rw [hn] at this; simp at this
  ·obtain ⟨o, ho⟩ := nT.1 hi
   have h1 := h.2 i o ho
   rw [eD] at h1
   have hn : ∀ a' w', ct lo base C (fun s' => np E rec ops.toList k (fX listed.toList i) s' K) a' w' → wpAnyIn F n E.P .any ops Q k (listed.setIfInBounds i true) a' w' := by
    rintro a' w' ⟨C', s', rfl, hP', hI', hs', hd', hb', he, hK⟩
    refine uo hE hrec hF k _ (hP'.trans hC) hI' hs' hd' hb' ?_ (fun a2 w2 h2 => hQ _ _ (h2.trans hP' he))
    have e : (listed.setIfInBounds i true).toList = fX listed.toList i := by rw [A8]; simp
    rw [e]; exact hK
   exact rW hI hs hd hb hF (i := i) (o := o) (by simpa using ho.1) (fun hp => Fz hE hrec hC hI hs hd hb hF hp hn) hn h1
theorem Cc {E : Env} (hE : aw E) (hM : ai E) {rec : Rec} (hrec : fK E.P rec) (hr : fb rec) : Hz E rec := by
 intro id ops s K h C a F n lo base hC hI hs hd hb hF Q hQ
 refine wpIn_region_any hE.prog.mixed ?_
 have hg : gO C.w { C.w with drawn := C.w.drawn + 1 } := ⟨Nat.le_refl _, rfl, rfl, rfl, fun _ _ => rfl⟩
 obtain ⟨g1, g2⟩ := nS hI hg
 have hs' := hs.step hI g2
 have e : ({ s with st := C.st } : S) = s := by rw [hs.st]
 have hs'' : dn { C with w := { C.w with drawn := C.w.drawn + 1 } } s a := by
  have e2 : ({ s with st := ({ C with w := { C.w with drawn := C.w.drawn + 1 } } : Ctx).st } : S) = s := e
  rw [e2] at hs'; exact hs'
 have hfull := pM hM hr _ _ _ (DC.iU _ _) h
 have := uo (C := { C with w := { C.w with drawn := C.w.drawn + 1 } }) hE hrec hF (n := n) (K := K) (lo := lo) (base := base) (Q := Q) ops.size (Array.replicate ops.size false) hC g1 hs'' (hd.ext g2) hb
  (by simpa [xK] using hfull) (fun a' w' h' => hQ _ _ (ct.trans (C := C) (C' := { C with w := { C.w with drawn := C.w.drawn + 1 } }) rfl (g2.mono (by rw [hs.st]; exact hb)) h'))
 exact this
theorem IW {E : Env} (hE : ai E) {rec : Rec} (hr : fb rec) {s : S} {d : Option Tmp} {o : Op} {K K' : S → Prop} (hK : ∀ s, K s → K' s) (h : LG E rec s d o K) : LG E rec s d o K' := by
 unfold LG at h ⊢
 split at h
 ·exact dF (hK _) h
 ·split at h
  ·split at h <;> try exact h.elim
   rename_i t _
   cases t <;> exact hK _ h
  ·split at h
   ·exact tG hE hr (fun _ _ hh => hK _ hh) h
   ·exact vD ⟨fun _ _ => rfl⟩ rfl (fun _ _ hh => hK _ hh) h
theorem rf {E : Env} (hE : ai E) {rec : Rec} (hr : fb rec) {ops : List Oper} : ∀ (l : List Oper) {s : S} {K K' : S → Prop}, (∀ s, K s → K' s) → qN E rec ops l s K → qN E rec ops l s K'
 | [], s, K, K', hK, h => hK _ h
 | o :: l, s, K, K', hK, h => by
  rw [tZ] at h ⊢
  exact kt (fun _ _ => rfl) (IW hE hr (fun s' => rf hE hr l hK)) (rf hE hr l hK) h
theorem lv {E : Env} (hE : ai E) {rec : Rec} (hr : fb rec) {ops : List Oper} {K K' : S → Prop} (hK : ∀ s, K s → K' s) : ∀ (n : Nat) (listed : List Bool) (s : S), qj E rec ops n listed s K → qj E rec ops n listed s K'
 | 0, listed, s, h => by
  unfold qj at h ⊢
  split at h
  ·exact hK _ h
  ·exact h.elim
 | n + 1, listed, s, h => by
  unfold qj at h ⊢
  split at h
  ·exact hK _ h
  ·split at h
   ·exact dQ hE hr (fun s' => lv hE hr hK n _ s') h
   ·split at h
    ·exact dQ hE hr (fun s' => lv hE hr hK n _ s') h
    generalize j6 listed ops 0 = l at h ⊢
    have : ∀ l : List (Nat × Oper), (Gn (fun i o => dX E rec ops o s fun s' => qj E rec ops n (fX listed i) s' K) l) → Gn (fun i o => dX E rec ops o s fun s' => qj E rec ops n (fX listed i) s' K') l := by
     intro l
     induction l with
     | nil => exact id
     | cons x l ih =>
      obtain ⟨i, o⟩ := x
      cases l with
      | nil => exact fun h => dQ hE hr (fun s' => lv hE hr hK n _ s') h
      | cons y l => exact fun h => ⟨dQ hE hr (fun s' => lv hE hr hK n _ s') h.1, ih h.2⟩
    exact this _ h
theorem FC {E : Env} (hE : ai E) {rec : Rec} (hr : fb rec) (f : FuncId) (rd : Option Nat) (base : Nat) : ∀ (c : Code) (s : S) (K K' : Exit → S → Prop), (∀ e s, K e s → K' e s) → jD E rec f rd base c s K → jD E rec f rd base c s K' := by
 intro c
 induction c with
 | skip => intro s K K' hK h; exact hK _ _ h
 | label l => intro s K K' hK h; exact hK _ _ h
 | region id ops d =>
  intro s K K' hK h
  cases d with
  | false => exact rf hE hr _ (hK _) h
  | true => exact lv hE hr (hK _) _ _ _ h
 | seq x y ihx ihy =>
  intro s K K' hK h
  refine ihx s _ _ ?_ h
  intro e s' hh
  cases e with
  | normal => exact ihy s' _ _ hK hh
  | _ => exact hK _ _ hh
 | cond c x y ihx ihy =>
  intro s K K' hK h
  unfold jD at h ⊢
  split at h <;> try exact h.elim
  rename_i t _
  cases t with
  | true => exact ihx _ _ _ hK h
  | false => exact ihy _ _ _ hK h
 | block id c ih =>
  intro s K K' hK h
  refine ih s _ _ ?_ h
  intro e s' hh
  cases e with
  | exit i =>
   simp only [yg] at hh ⊢
   cases hb : Nat.beq i id <;> rw [hb] at hh <;> exact hK _ _ hh
  | _ => exact hK _ _ hh
 | loop c ih =>
  intro s K K' hK h
  unfold jD at h ⊢
  split at h <;> try exact h.elim
  exact dF (fun hh => by rw [l7] at hh ⊢; exact hE.loop _ _ _ _ _ _ _ _ hK hh) h
 | rangeFunc g ps asg body iha ihb =>
  intro s K K' hK h
  unfold jD at h ⊢
  split at h <;> try exact h.elim
  have hrk : ∀ st, pg s.st.length s K st → pg s.st.length s K' st := by
   intro st hh
   unfold pg at hh ⊢
   split at hh <;> try exact hh.elim
   rename_i r hl
   cases hs : r.state <;> cases hp : r.pending <;> rw [hs, hp] at hh <;> try exact hh.elim
   all_goals first | exact hK _ _ hh | (rename_i c; cases c <;> first | exact hh.elim | exact hK _ _ hh)
  refine dF (fun hh => ?_) h
  split at hh
  ·exact hE.sM _ _ _ _ _ _ _ hrk hh
  ·exact sk hr (fun _ st => hrk st) hh
 | exit id => intro s K K' hK h; exact hK _ _ h
 | goto l => intro s K K' hK h; exact h.elim
 | scope c ih =>
  intro s K K' hK h
  refine ih s _ _ ?_ h
  intro e s' hh
  cases e with
  | goto l => exact hh.elim
  | _ => exact hK _ _ hh
 | ret => intro s K K' hK h; exact hK _ _ h
 | refuse r => intro s K K' hK h; exact h.elim
theorem sR {E : Env} (hE : ai E) : ∀ n, fb (vc E n)
 | 0 => fun _ _ _ _ _ _ _ _ h => h.elim
 | n + 1 => fun f rd base c s K K' hK h => FC hE (sR hE n) f rd base c s K K' hK h
theorem wS {E : Env} (hE : aw E) (hM : ai E) : ∀ n, fK E.P (vc E n)
 | 0 => fun _ _ _ _ _ _ h => h.elim
 | n + 1 => fun f rd base c s K h => CX hE (wS hE hM n) (Cc hE hM (wS hE hM n) (sR hM n)) f rd base c s K h
#print axioms wS
end Go.Dn
