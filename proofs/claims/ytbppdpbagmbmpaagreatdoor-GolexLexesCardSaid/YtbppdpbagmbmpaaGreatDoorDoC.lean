import Derived.Test.YtbppdpbagmbmpaaGreatDoorDoB
namespace Go.Dn
open Go
theorem setN_comm : ∀ (l : List AV) (i j : Nat) (x y : AV), i ≠ j → setN (setN l i x) j y = setN (setN l j y) i x
  | [], _, _, _, _, _ => rfl
  | a :: l, 0, 0, _, _, h => absurd rfl h
  | a :: l, 0, j + 1, _, _, _ => rfl
  | a :: l, i + 1, 0, _, _, _ => rfl
  | a :: l, i + 1, j + 1, x, y, h => by simp only [setN]; rw [setN_comm l i j x y (by omega)]
theorem put_swap {s : S} {d d' : Option Tmp} {a b : AV} (st : List Obj) (h : dstApart d d' = true) : put ({ put s d a with st := st }) d' b = put (put { s with st := st } d' b) d a := by
  cases d with
  | none => rfl
  | some t =>
    cases d' with
    | none => rfl
    | some u =>
      have : t ≠ u := by intro e; subst e; simp [dstApart] at h
      simp only [put]
      rw [setN_comm _ _ _ _ _ this]
theorem put_looks {ops : List Oper} {o : Oper} {s : S} {d : Option Tmp} {a : AV} (h : looksD ops o d = false) : Looks ops o s (put s d a) := by
  intro t ht
  cases d with
  | none => rfl
  | some u =>
    have : u ≠ t := by intro e; subst e; simp only [looksD] at h; rw [h] at ht; cases ht
    simp only [put]
    rw [nth_setN_other _ _ _ _ this]
theorem Looks.symm {ops : List Oper} {o : Oper} {s1 s2 : S} (h : Looks ops o s1 s2) : Looks ops o s2 s1 := fun t ht => (h t ht).symm
theorem make_cls {quiet : FuncId → Bool} {o : Op} (h : makeB o = true) : clsO quiet o = 2 ∧ ∀ s, calleeOf s o = none := by
  cases o with
  | alloc T => exact ⟨rfl, fun _ => rfl⟩
  | box T x => exact ⟨rfl, fun _ => rfl⟩
  | makeSlice T a b => exact ⟨rfl, fun _ => rfl⟩
  | makeMap T x => cases x <;> first | exact ⟨rfl, fun _ => rfl⟩ | cases h
  | _ => cases h
theorem put_sto (s : S) (d : Option Tmp) (a : AV) : (put s d a).st = s.st := by cases d <;> rfl
theorem make_frame {P : Pg} {s : S} {dst : Option Tmp} {o : Op} (hg : makeB o = true) {K : S → Prop} (h : writeA P s dst o K) : writeA P s dst o fun s' => K s' ∧ Kept s.st s'.st := by
  cases o with
  | alloc T =>
    simp only [writeA] at h ⊢
    split at h <;> try exact h.elim
    exact ⟨h, by rw [put_sto]; exact Kept.app _ _⟩
  | box T x =>
    simp only [writeA] at h ⊢
    split at h <;> try exact h.elim
    rename_i h1
    rw [if_pos h1]
    split at h
    · rename_i hi
      first | simp only [hi] | skip
      exact cnd_mono (fun h => ⟨h, by rw [put_sto]; exact Kept.app _ _⟩) h
    · rename_i hi
      first | simp only [hi] | skip
      exact ⟨h, by rw [put_sto]; exact Kept.app _ _⟩
  | makeSlice T a b =>
    simp only [writeA] at h ⊢
    split at h <;> try exact h.elim
    split at h <;> try exact h.elim
    exact cnd_mono (fun h => ⟨h, by rw [put_sto]; exact Kept.app _ _⟩) h
  | makeMap T x =>
    cases x with
    | some y => cases hg
    | none =>
      simp only [writeA] at h ⊢
      split at h <;> try exact h.elim
      exact ⟨h, by rw [put_sto]; exact Kept.app _ _⟩
  | _ => cases hg
theorem step_make {E : Env} {rec : Rec} {ops : List Oper} {b : Oper} {s : S} {K : S → Prop} (hb : clsO E.quiet b.op < 2 ∨ makeB b.op = true) (h : stepD E rec ops b s K) : stepD E rec ops b s fun s' => K s' ∧ Kept s.st s'.st := by
  rcases hb with hb | hb
  · obtain ⟨a, h1, h2⟩ := stepD_val hb h
    exact h2 s _ (fun _ _ => rfl) (fun _ => .refl _) ⟨h1, by rw [put_sto]; exact .refl _⟩
  · rw [stepD_guard] at h ⊢
    refine guardK_cong (fun _ _ => rfl) (fun h => ?_) (fun h => ⟨h, by rw [put_sto]; exact .refl _⟩) h
    obtain ⟨e1, e2⟩ := make_cls (quiet := E.quiet) hb
    unfold opD at h ⊢
    rw [e1] at h ⊢
    simp only [e2] at h ⊢
    exact make_frame hb h
theorem swap_step {E : Env} (hE : EnvMono E) {rec : Rec} (hr : RecMono rec) {ops : List Oper} {i j : Oper} (hsw : swapB E.quiet ops i j = true) {s : S} {K : S → Prop}
    (h : stepD E rec ops i s fun s1 => stepD E rec ops j s1 K) : stepD E rec ops j s fun s2 => stepD E rec ops i s2 K := by
  simp only [swapB, apartB, Bool.and_eq_true, Bool.not_eq_true'] at hsw
  obtain ⟨⟨⟨h1, h2⟩, h3⟩, h4⟩ := hsw
  have hc : clsO E.quiet i.op < 2 := by
    split at h4
    · omega
    · omega
    · cases h4
  have hj : clsO E.quiet i.op = 1 → clsO E.quiet j.op < 2 ∨ makeB j.op = true := by
    intro e
    rw [e] at h4
    simpa using h4
  obtain ⟨a, g1, g2⟩ := stepD_val hc h
  have hst : (put s i.dst a).st = s.st := by cases i.dst <;> rfl
  have g3 : stepD E rec ops j (put s i.dst a) fun s' => K s' ∧ (clsO E.quiet i.op = 1 → Kept s.st s'.st) := by
    rcases Nat.eq_zero_or_pos (clsO E.quiet i.op) with e | e
    · exact stepD_mono hE hr (fun s' hk => ⟨hk, fun e2 => by omega⟩) g1
    · refine stepD_mono hE hr (fun s' hk => ⟨hk.1, fun _ => ?_⟩) (step_make (hj (by omega)) g1)
      rw [← hst]; exact hk.2
  refine stepD_cong hE hr (put_looks h1).symm hst ?_ g3
  intro st b hs hk
  refine g2 _ _ ?_ ?_ ?_
  · have : Looks ops i s { s with st := st } := fun _ _ => rfl
    intro t ht
    exact (this t ht).trans (put_looks h2 t ht)
  · intro e
    have := hk.2 e
    rw [put_sto] at this ⊢
    exact this
  · rw [← put_swap st h3]; exact hk.1
theorem setB_length : ∀ (l : List Bool) (i : Nat), (setB l i).length = l.length
  | [], _ => rfl
  | _ :: _, 0 => rfl
  | _ :: l, i + 1 => by simp [setB, setB_length l i]
theorem nthB_setB_same : ∀ (l : List Bool) (i : Nat), nthB (setB l i) i = true
  | [], _ => rfl
  | _ :: _, 0 => rfl
  | _ :: l, i + 1 => by simp only [setB, nthB]; exact nthB_setB_same l i
theorem nthB_setB_other : ∀ (l : List Bool) (i j : Nat), i ≠ j → nthB (setB l i) j = nthB l j
  | [], _, _, _ => rfl
  | _ :: _, 0, j, h => by cases j with | zero => exact absurd rfl h | succ j => rfl
  | _ :: l, i + 1, j, h => by
    cases j with
    | zero => rfl
    | succ j => simp only [setB, nthB]; exact nthB_setB_other l i j (by omega)
theorem setB_comm : ∀ (l : List Bool) (i j : Nat), setB (setB l i) j = setB (setB l j) i
  | [], _, _ => rfl
  | _ :: _, 0, 0 => rfl
  | _ :: _, 0, j + 1 => rfl
  | _ :: _, i + 1, 0 => rfl
  | _ :: l, i + 1, j + 1 => by simp only [setB]; rw [setB_comm l i j]
theorem listedE_iff (listed : List Bool) : ∀ l : List Edge, listedE listed l = true ↔ ∀ e, e ∈ l → Region.binds .any e = true → e.on < listed.length ∧ nthB listed e.on = true
  | [] => by simp [listedE]
  | e :: l => by
    simp only [listedE, Bool.and_eq_true, listedE_iff listed l, List.forall_mem_cons, Bool.or_eq_true, Bool.not_eq_true', Nat.blt_eq]
    constructor
    · rintro ⟨h1, h2⟩
      refine ⟨fun hb => ?_, h2⟩
      rcases h1 with h1 | h1
      · rw [h1] at hb; cases hb
      · exact h1
    · rintro ⟨h1, h2⟩
      refine ⟨?_, h2⟩
      cases hb : Region.binds .any e with
      | false => exact .inl rfl
      | true => exact .inr (h1 hb)
theorem readyL_iff (listed : List Bool) : ∀ (l : List Oper) (k i : Nat) (o : Oper), (i, o) ∈ readyL listed l k ↔ ∃ m, i = k + m ∧ l[m]? = some o ∧ nthB listed i = false ∧ listedE listed o.after.toList = true
  | [], k, i, o => by simp [readyL]
  | b :: l, k, i, o => by
    have ih := readyL_iff listed l (k + 1) i o
    have tail : (i, o) ∈ readyL listed l (k + 1) ↔ ∃ m, i = k + (m + 1) ∧ (b :: l)[m + 1]? = some o ∧ nthB listed i = false ∧ listedE listed o.after.toList = true := by
      rw [ih]
      constructor
      · rintro ⟨m, h1, h2, h3⟩; exact ⟨m, by omega, by simpa using h2, h3⟩
      · rintro ⟨m, h1, h2, h3⟩; exact ⟨m, by omega, by simpa using h2, h3⟩
    simp only [readyL]
    cases hb : (!nthB listed k && listedE listed b.after.toList) with
    | true =>
      simp only [cond_true, List.mem_cons, tail, Prod.mk.injEq]
      simp only [Bool.and_eq_true, Bool.not_eq_true'] at hb
      constructor
      · rintro (⟨rfl, rfl⟩ | ⟨m, h⟩)
        · exact ⟨0, by omega, rfl, hb.1, hb.2⟩
        · exact ⟨m + 1, h⟩
      · rintro ⟨m, h1, h2, h3⟩
        cases m with
        | zero => simp at h2; exact .inl ⟨by omega, h2.symm⟩
        | succ m => exact .inr ⟨m, h1, h2, h3⟩
    | false =>
      simp only [cond_false, tail]
      constructor
      · rintro ⟨m, h⟩; exact ⟨m + 1, h⟩
      · rintro ⟨m, h1, h2, h3, h4⟩
        cases m with
        | zero =>
          simp at h2; subst h2
          simp only [Nat.add_zero] at h1; subst h1
          rw [h3, h4] at hb; simp at hb
        | succ m => exact ⟨m, h1, h2, h3, h4⟩
def Ready (ops : List Oper) (listed : List Bool) (i : Nat) (o : Oper) : Prop := ops[i]? = some o ∧ nthB listed i = false ∧ ∀ e, e ∈ o.after.toList → Region.binds .any e = true → e.on < listed.length ∧ nthB listed e.on = true
theorem ready_iff {ops : List Oper} {listed : List Bool} {i : Nat} {o : Oper} : (i, o) ∈ readyL listed ops 0 ↔ Ready ops listed i o := by
  rw [readyL_iff]
  constructor
  · rintro ⟨m, h1, h2, h3, h4⟩
    obtain rfl : i = m := by omega
    exact ⟨h2, h3, (listedE_iff _ _).1 h4⟩
  · rintro ⟨h1, h2, h3⟩
    exact ⟨i, by omega, h1, h2, (listedE_iff _ _).2 h3⟩
theorem Ready.set {ops : List Oper} {listed : List Bool} {i j : Nat} {o : Oper} (h : Ready ops listed i o) (hij : j ≠ i) : Ready ops (setB listed j) i o := by
  refine ⟨h.1, by rw [nthB_setB_other _ _ _ hij]; exact h.2.1, fun e he hb => ?_⟩
  obtain ⟨h1, h2⟩ := h.2.2 e he hb
  refine ⟨by rw [setB_length]; exact h1, ?_⟩
  by_cases e' : j = e.on
  · subst e'; exact nthB_setB_same _ _
  · rw [nthB_setB_other _ _ _ e']; exact h2
inductive Dep (ops : List Oper) (i : Nat) : Nat → Prop
  | base (j : Nat) (b : Oper) (e : Edge) (h1 : ops[j]? = some b) (h2 : e ∈ b.after.toList) (h3 : Region.binds .any e = true) (h4 : e.on = i) : Dep ops i j
  | step (j : Nat) (b : Oper) (e : Edge) (h1 : ops[j]? = some b) (h2 : e ∈ b.after.toList) (h3 : Region.binds .any e = true) (h4 : Dep ops i e.on) : Dep ops i j
def DC (ops : List Oper) (listed : List Bool) : Prop := ∀ j b, ops[j]? = some b → j < listed.length → nthB listed j = true → ∀ e, e ∈ b.after.toList → Region.binds .any e = true → e.on < listed.length ∧ nthB listed e.on = true
theorem dep_listed {ops : List Oper} {listed : List Bool} (hd : DC ops listed) {i j : Nat} (h : Dep ops i j) : j < listed.length → nthB listed j = true → nthB listed i = true := by
  induction h with
  | base j b e h1 h2 h3 h4 => intro hl hn; rw [← h4]; exact (hd j b h1 hl hn e h2 h3).2
  | step j b e h1 h2 h3 _ ih => intro hl hn; exact ih (hd j b h1 hl hn e h2 h3).1 (hd j b h1 hl hn e h2 h3).2
theorem Ready.dep {ops : List Oper} {listed : List Bool} (hd : DC ops listed) {i j : Nat} {b : Oper} (h : Ready ops listed j b) (hp : Dep ops i j) : nthB listed i = true := by
  cases hp with
  | base _ b' e h1 h2 h3 h4 =>
    have : b' = b := Option.some.inj (h1.symm.trans h.1)
    subst this
    rw [← h4]; exact (h.2.2 e h2 h3).2
  | step _ b' e h1 h2 h3 h4 =>
    have : b' = b := Option.some.inj (h1.symm.trans h.1)
    subst this
    exact dep_listed hd h4 (h.2.2 e h2 h3).1 (h.2.2 e h2 h3).2
theorem DC.falses (ops : List Oper) (n : Nat) : DC ops (falses n) := fun j b _ hl hn => by
  have : ∀ (n j : Nat), j < (Go.Dn.falses n).length → nthB (Go.Dn.falses n) j = false := by
    intro n
    induction n with
    | zero => intro j h; simp [Go.Dn.falses] at h
    | succ n ih => intro j h; cases j with | zero => rfl | succ j => simp only [Go.Dn.falses, nthB]; exact ih j (by simpa [Go.Dn.falses] using h)
  rw [this n j hl] at hn; cases hn
theorem DC.set {ops : List Oper} {listed : List Bool} (hd : DC ops listed) {i : Nat} {o : Oper} (h : Ready ops listed i o) : DC ops (setB listed i) := by
  intro j b hb hl hn e he hbi
  rw [setB_length] at hl ⊢
  have key : e.on < listed.length ∧ nthB listed e.on = true := by
    by_cases hij : i = j
    · subst hij
      have : b = o := Option.some.inj (hb.symm.trans h.1)
      subst this
      exact h.2.2 e he hbi
    · rw [nthB_setB_other _ _ _ hij] at hn
      exact hd j b hb hl hn e he hbi
  refine ⟨key.1, ?_⟩
  by_cases e' : i = e.on
  · subst e'; exact nthB_setB_same _ _
  · rw [nthB_setB_other _ _ _ e']; exact key.2
theorem onAny_iff (acc : List Nat) : ∀ l : List Edge, onAny acc l = true → ∃ e, e ∈ l ∧ Region.binds .any e = true ∧ e.on ∈ acc
  | [], h => by simp [onAny] at h
  | e :: l, h => by
    simp only [onAny, Bool.or_eq_true, Bool.and_eq_true] at h
    rcases h with ⟨h1, h2⟩ | h
    · exact ⟨e, by simp, h1, (memN_iff _ _).1 h2⟩
    · obtain ⟨e', h1, h2⟩ := onAny_iff acc l h
      exact ⟨e', by simp [h1], h2⟩
theorem fwd_spec {ops : List Oper} {i : Nat} : ∀ (l : List Oper) (k : Nat) (acc : List Nat), (∀ m b, l[m]? = some b → ops[k + m]? = some b) → (∀ j, j ∈ acc → j = i ∨ Dep ops i j) → ∀ j, j ∈ fwd l k acc → j = i ∨ Dep ops i j
  | [], _, _, _, ha, j, hj => ha j hj
  | o :: l, k, acc, hl, ha, j, hj => by
    simp only [fwd] at hj
    have hl' : ∀ m b, l[m]? = some b → ops[k + 1 + m]? = some b := fun m b hm => by
      have := hl (m + 1) b (by simpa using hm)
      rwa [show k + 1 + m = k + (m + 1) by omega]
    cases hb : onAny acc o.after.toList with
    | false => rw [hb] at hj; exact fwd_spec l (k + 1) acc hl' ha j hj
    | true =>
      rw [hb] at hj
      refine fwd_spec l (k + 1) (k :: acc) hl' (fun j' hj' => ?_) j hj
      rcases List.mem_cons.1 hj' with rfl | hj'
      · obtain ⟨e, h1, h2, h3⟩ := onAny_iff _ _ hb
        rcases ha _ h3 with h4 | h4
        · exact .inr (.base _ o e (hl 0 o rfl) h1 h2 h4)
        · exact .inr (.step _ o e (hl 0 o rfl) h1 h2 h4)
      · exact ha j' hj'
def Free (quiet : FuncId → Bool) (ops : List Oper) (listed : List Bool) (i : Nat) (o : Oper) : Prop :=
  ∀ j b, ops[j]? = some b → i ≠ j → nthB listed j = false → ¬ Dep ops i j → swapB quiet ops o b = true
theorem free_spec {quiet : FuncId → Bool} {ops : List Oper} {listed : List Bool} {i : Nat} {o : Oper} {fs : List Nat} (hfs : ∀ j, j ∈ fs → j = i ∨ Dep ops i j) : ∀ (l : List Oper) (k : Nat), freeB quiet ops listed i o fs l k = true → ∀ m b, l[m]? = some b → i ≠ k + m → nthB listed (k + m) = false → ¬ Dep ops i (k + m) → swapB quiet ops o b = true
  | [], _, _, m, b, h, _, _, _ => by simp at h
  | x :: l, k, h, m, b, hm, hi, hn, he => by
    simp only [freeB, Bool.and_eq_true, Bool.or_eq_true] at h
    cases m with
    | zero =>
      simp at hm; subst hm
      rcases h.1 with ((h1 | h1) | h1) | h1
      · exact absurd (Nat.eq_of_beq_eq_true h1) (by simpa using hi)
      · rw [show k + 0 = k from rfl] at hn; rw [hn] at h1; cases h1
      · rcases hfs _ ((memN_iff _ _).1 h1) with h2 | h2
        · exact absurd h2.symm (by simpa using hi)
        · exact absurd h2 (by simpa using he)
      · exact h1
    | succ m =>
      refine free_spec hfs l (k + 1) h.2 m b (by simpa using hm) (by omega) ?_ ?_
      · rw [show k + 1 + m = k + (m + 1) by omega]; exact hn
      · rw [show k + 1 + m = k + (m + 1) by omega]; exact he
theorem Free.set {quiet : FuncId → Bool} {ops : List Oper} {listed : List Bool} {i j : Nat} {o : Oper} (h : Free quiet ops listed i o) : Free quiet ops (setB listed j) i o := by
  intro k b hb hk hn he
  refine h k b hb hk ?_ he
  by_cases e : j = k
  · subst e; rw [nthB_setB_same] at hn; cases hn
  · rwa [nthB_setB_other _ _ _ e] at hn
def fullD (E : Env) (rec : Rec) (ops : List Oper) : Nat → List Bool → S → (S → Prop) → Prop
  | 0, listed, s, K => (∀ i o, ¬ Ready ops listed i o) ∧ K s
  | n + 1, listed, s, K => ((∀ i o, ¬ Ready ops listed i o) → K s) ∧ ∀ i o, Ready ops listed i o → stepD E rec ops o s fun s' => fullD E rec ops n (setB listed i) s' K
theorem full_first {E : Env} (hE : EnvMono E) {rec : Rec} (hr : RecMono rec) {ops : List Oper} {K : S → Prop} : ∀ (n : Nat) (listed : List Bool) (s : S) (i : Nat) (o : Oper), DC ops listed → Ready ops listed i o → Free E.quiet ops listed i o →
    (stepD E rec ops o s fun s' => fullD E rec ops n (setB listed i) s' K) → fullD E rec ops (n + 1) listed s K
  | n, listed, s, i, o, hdc, hi, hf, h => by
    refine ⟨fun hn => absurd hi (hn i o), fun j b hj => ?_⟩
    by_cases hij : i = j
    · subst hij
      have : o = b := Option.some.inj (hi.1.symm.trans hj.1)
      subst this; exact h
    · have hsw : swapB E.quiet ops o b = true := hf j b hj.1 hij hj.2.1 (fun hp => by
        have := hj.dep hdc hp
        rw [hi.2.1] at this; cases this)
      cases n with
      | zero =>
        have hc : clsO E.quiet o.op < 2 := by
          simp only [swapB, Bool.and_eq_true] at hsw
          have h4 := hsw.2
          split at h4
          · omega
          · omega
          · cases h4
        obtain ⟨a, h1, _⟩ := stepD_val hc h
        exact absurd (hj.set hij) (h1.1 j b)
      | succ n =>
        have h' : stepD E rec ops o s fun s1 => stepD E rec ops b s1 fun s2 => fullD E rec ops n (setB (setB listed i) j) s2 K :=
          stepD_mono hE hr (fun s1 h1 => h1.2 j b (hj.set hij)) h
        refine stepD_mono hE hr (fun s2 h2 => ?_) (swap_step hE hr hsw h')
        rw [setB_comm] at h2
        exact full_first hE hr n (setB listed j) s2 i o (hdc.set hj) (hi.set (Ne.symm hij)) hf.set h2
theorem allD_spec {p : Nat → Oper → Prop} : ∀ (l : List (Nat × Oper)), allD p l → ∀ i o, (i, o) ∈ l → p i o
  | [], _, i, o, h => by simp at h
  | [(j, b)], h, i, o, hi => by
    simp only [List.mem_singleton, Prod.mk.injEq] at hi
    obtain ⟨rfl, rfl⟩ := hi; exact h
  | (j, b) :: x :: l, h, i, o, hi => by
    simp only [allD] at h
    rcases List.mem_cons.1 hi with hi | hi
    · cases hi; exact h.1
    · exact allD_spec (x :: l) h.2 i o hi
theorem pickFree_spec {quiet : FuncId → Bool} {ops : List Oper} {listed : List Bool} : ∀ (l : List (Nat × Oper)) {i : Nat} {o : Oper}, pickFree quiet ops listed l = some (i, o) → (i, o) ∈ l ∧ freeB quiet ops listed i o (fwd ops 0 [i]) ops 0 = true
  | [], i, o, h => by simp [pickFree] at h
  | (j, b) :: l, i, o, h => by
    simp only [pickFree] at h
    cases hb : freeB quiet ops listed j b (fwd ops 0 [j]) ops 0 with
    | true => rw [hb] at h; simp at h; obtain ⟨rfl, rfl⟩ := h; exact ⟨by simp, hb⟩
    | false =>
      rw [hb] at h
      obtain ⟨h1, h2⟩ := pickFree_spec l h
      exact ⟨by simp [h1], h2⟩
def BoxKept (st st' : List Obj) : Prop := (∀ k, isBoxO (nthO st k) = true → nthO st' k = nthO st k) ∧ ∀ k T E ls pd, nthO st k = .rows T E ls pd → ∃ ls' pd', nthO st' k = .rows T E ls' pd'
theorem nd_lt {st : List Obj} {k : Nat} (h : nthO st k ≠ .dead) : k < st.length := by
  rcases Nat.lt_or_ge k st.length with h1 | h1
  · exact h1
  · exact absurd (nthO_out _ _ h1) h
theorem BoxKept.refl (st : List Obj) : BoxKept st st := ⟨fun _ _ => rfl, fun _ _ _ ls pd h => ⟨ls, pd, h⟩⟩
theorem BoxKept.trans {a b c : List Obj} (h1 : BoxKept a b) (h2 : BoxKept b c) : BoxKept a c := ⟨fun k hk => by
  rw [h2.1 k (by rw [h1.1 k hk]; exact hk), h1.1 k hk], fun k T E ls pd h => by
  obtain ⟨_, _, h⟩ := h1.2 k T E ls pd h
  exact h2.2 k T E _ _ h⟩
theorem BoxKept.of {st st' : List Obj} (h : ∀ k, nthO st k ≠ .dead → isBoxO (nthO st k) = true ∨ isRowsO (nthO st k) = true → nthO st' k = nthO st k) : BoxKept st st' :=
  ⟨fun k hk => h k (by intro e; rw [e] at hk; cases hk) (.inl hk), fun k T E ls pd hk => ⟨ls, pd, by rw [h k (by rw [hk]; simp) (.inr (by rw [hk]; rfl)), hk]⟩⟩
theorem BoxKept.app (st l : List Obj) : BoxKept st (st ++ l) := .of fun _ hk _ => nthO_append_left _ _ _ (nd_lt hk)
theorem BoxKept.set {st : List Obj} {i : Nat} {T : TypeId} {xs : List AV} {o : Obj} (h : nthO st i = .row T xs) : BoxKept st (setO st i o) := .of fun k _ hk => by
  refine nthO_setO_other _ _ _ _ (fun e => ?_)
  subst e
  rw [h] at hk
  rcases hk with hk | hk <;> cases hk
theorem BoxKept.rows {st : List Obj} {i : Nat} {T E : TypeId} {ls ls' : List (List Value)} {pd pd' : Option Nat} (h : nthO st i = .rows T E ls pd) : BoxKept st (setO st i (.rows T E ls' pd')) := by
  refine ⟨fun k hk => nthO_setO_other _ _ _ _ (fun e => ?_), fun k T' E' l p hk => ?_⟩
  · subst e; rw [h] at hk; cases hk
  · by_cases e : i = k
    · subst e
      rw [h] at hk; cases hk
      exact ⟨_, _, nthO_setO_same _ _ _ (nd_lt (by rw [h]; simp))⟩
    · exact ⟨l, p, by rw [nthO_setO_other _ _ _ _ e]; exact hk⟩
theorem BoxKept.freeze : ∀ (is : List Nat) (st : List Obj), BoxKept st (freezeSt st is)
  | [], st => .refl st
  | i :: is, st => by
    refine BoxKept.trans (.of ?_) (BoxKept.freeze is _)
    intro k hd hk
    by_cases e : i = k
    · subst e
      rw [nthO_setO_same _ _ _ (nd_lt hd)]
      cases ho : nthO st i <;> rw [ho] at hk <;> first | rfl | (rcases hk with hk | hk <;> cases hk)
    · exact nthO_setO_other _ _ _ _ e
theorem boxSame_kept : ∀ {st st' : List Obj}, boxSame st st' → ∀ k, nthO st k ≠ .dead → isBoxO (nthO st k) = true ∨ isRowsO (nthO st k) = true → nthO st' k = nthO st k
  | [], _, _, k, hd, _ => absurd rfl hd
  | a :: l, [], h, _, _, _ => by cases a <;> exact h.elim
  | a :: l, o :: l', h, 0, _, hk => by
    cases a <;> first | exact h.1 | (rcases hk with hk | hk <;> cases hk)
  | a :: l, o :: l', h, k + 1, hd, hk => boxSame_kept (st := l) (st' := l') (by cases a <;> first | exact h.2 | exact h) k hd hk
theorem grow_cls {quiet : FuncId → Bool} {o : Op} (h : growB o = true) : clsO quiet o = 2 ∧ ∀ s, calleeOf s o = none := by
  cases o with
  | call c =>
    obtain ⟨callee, args, ats⟩ := c
    cases callee with
    | builtin b => cases b <;> first | exact ⟨rfl, fun _ => rfl⟩ | cases h
    | value g => cases h
    | invoke r m => cases h
  | buildSlice T n ps => exact ⟨rfl, fun _ => rfl⟩
  | makeSlice T a b => exact ⟨rfl, fun _ => rfl⟩
  | alloc T => exact ⟨rfl, fun _ => rfl⟩
  | box T x => exact ⟨rfl, fun _ => rfl⟩
  | makeMap T x => cases x <;> first | exact ⟨rfl, fun _ => rfl⟩ | cases h
  | _ => cases h
theorem write_frame {P : Pg} {s : S} {dst : Option Tmp} {o : Op} (hg : growB o = true) {K : S → Prop} (h : writeA P s dst o K) : writeA P s dst o fun s' => K s' ∧ BoxKept s.st s'.st := by
  cases o with
  | alloc T =>
    simp only [writeA] at h ⊢
    split at h <;> try exact h.elim
    exact ⟨h, by rw [put_sto]; exact BoxKept.app _ _⟩
  | box T x =>
    simp only [writeA] at h ⊢
    split at h <;> try exact h.elim
    rename_i h1
    rw [if_pos h1]
    split at h
    · rename_i hi
      first | simp only [hi] | skip
      exact cnd_mono (fun h => ⟨h, by rw [put_sto]; exact BoxKept.app _ _⟩) h
    · rename_i hi
      first | simp only [hi] | skip
      exact ⟨h, by rw [put_sto]; exact BoxKept.app _ _⟩
  | makeMap T x =>
    cases x with
    | some y => cases hg
    | none =>
      simp only [writeA] at h ⊢
      split at h <;> try exact h.elim
      exact ⟨h, by rw [put_sto]; exact BoxKept.app _ _⟩
  | buildSlice T n ps =>
    simp only [writeA] at h ⊢
    split at h <;> try exact h.elim
    split at h <;> try exact h.elim
    split at h <;> try exact h.elim
    split at h <;> try exact h.elim
    rename_i h4
    rw [if_pos h4]
    exact ⟨h, by rw [put_sto]; exact (BoxKept.freeze _ _).trans (BoxKept.app _ _)⟩
  | makeSlice T a b =>
    simp only [writeA] at h ⊢
    split at h <;> try exact h.elim
    split at h <;> try exact h.elim
    exact cnd_mono (fun h => ⟨h, by rw [put_sto]; exact BoxKept.app _ _⟩) h
  | call c =>
    obtain ⟨callee, args, ats⟩ := c
    cases callee with
    | builtin b =>
      cases b <;> try (cases hg; done)
      simp only [writeA] at h ⊢
      split at h <;> try exact h.elim
      split at h <;> try exact h.elim
      rename_i h3
      rw [if_pos h3]
      unfold appendA at h ⊢
      split at h <;> try exact h.elim
      split at h <;> try exact h.elim
      split at h <;> try exact h.elim
      split at h <;> try exact h.elim
      · exact cnd_mono (fun h => ⟨h, by rw [put_sto]; exact BoxKept.app _ _⟩) h
      · split at h <;> try exact h.elim
        · split at h <;> try exact h.elim
          rename_i k1 k2
          rw [if_pos k2]
          exact cnd_mono (fun h => ⟨h, by rw [put_sto]; exact (BoxKept.set k1).trans (BoxKept.app _ _)⟩) h
        · rename_i k1
          split at h <;> try exact h.elim
          rename_i k2
          simp only
          split at h <;> try exact h.elim
          rename_i k3
          rw [if_pos k3]
          exact cnd_mono (fun h => ⟨h, by rw [put_sto]; exact BoxKept.rows k1⟩) h
    | value g => cases hg
    | invoke r m => cases hg
  | _ => cases hg
theorem callA_lit {E : Env} (hE : EnvMono E) {rec : Rec} {g : AV} {args : List AV} {st : List Obj} {K : AV → List Obj → Prop} (hl : litB E g args st = true) (h : callA E rec g args st K) : callA E rec g args st fun a st' => K a st' ∧ BoxKept st st' := by
  unfold litB at hl
  split at hl
  · rename_i f caps
    simp only [Bool.and_eq_true, Bool.not_eq_true'] at hl
    obtain ⟨⟨h1, h2⟩, h3⟩ := hl
    unfold callA at h ⊢
    simp only [h1, h2, Bool.false_eq_true, if_false] at h ⊢
    split at h3
    · rename_i as hle
      rw [hle] at h ⊢
      simp only [freezeSt] at h ⊢
      have hr : refsL (formL E.P (paramsOf E.P f) as) = [] := by
        unfold nilN at h3
        split at h3
        · rename_i he; exact he
        · cases h3
      unfold tableA at h ⊢
      refine cnd_mono (fun h => ?_) h
      rw [frcS_eq] at h ⊢
      refine hE.call _ _ _ _ _ (fun r sub h => ?_) h
      rw [frcA_eq, frcOs_eq] at h ⊢
      refine ⟨h, ?_⟩
      have hi : reach st (st.length * st.length + st.length + 20) (refsL (formL E.P (paramsOf E.P f) as)) [] = [] := by
        rw [hr, show st.length * st.length + st.length + 20 = (st.length * st.length + st.length + 19) + 1 from rfl, reach]
      rw [hi]
      simp only [mergeSt, mergeSt.go]
      exact BoxKept.app _ _
    · cases h3
  · cases hl
theorem step_frame {E : Env} (hE : EnvMono E) {rec : Rec} (hr : RecMono rec) {ops : List Oper} {b : Oper} {s : S} {K : S → Prop} (hb : (clsO E.quiet b.op < 2 ∨ growB b.op = true) ∨ calmO E.calm b.op = true) (h : stepD E rec ops b s K) : stepD E rec ops b s fun s' => K s' ∧ BoxKept s.st s'.st := by
  have small : clsO E.quiet b.op < 2 → stepD E rec ops b s fun s' => K s' ∧ BoxKept s.st s'.st := fun hb => by
    obtain ⟨a, h1, h2⟩ := stepD_val hb h
    exact h2 s _ (fun _ _ => rfl) (fun _ => Kept.refl _) ⟨h1, by rw [put_sto]; exact .refl _⟩
  rcases hb with (hb | hb) | hb
  · exact small hb
  · rw [stepD_guard] at h ⊢
    refine guardK_cong (fun _ _ => rfl) (fun h => ?_) (fun h => ⟨h, by rw [put_sto]; exact .refl _⟩) h
    obtain ⟨e1, e2⟩ := grow_cls (quiet := E.quiet) hb
    unfold opD at h ⊢
    rw [e1] at h ⊢
    simp only [e2] at h ⊢
    exact write_frame hb h
  · by_cases hlt : clsO E.quiet b.op < 2
    · exact small hlt
    · rw [stepD_guard] at h ⊢
      refine guardK_cong (fun _ _ => rfl) (fun h => ?_) (fun h => ⟨h, by rw [put_sto]; exact .refl _⟩) h
      have e1 : clsO E.quiet b.op = 2 ∧ ∃ g args, ∀ s, calleeOf s b.op = some (ev s g, evL s args) := by
        cases ho : b.op with
        | call c =>
          obtain ⟨callee, args, ats⟩ := c
          rw [ho] at hb hlt
          cases callee with
          | value g =>
            cases g with
            | func f =>
              simp only [clsO] at hlt ⊢
              cases hq : E.quiet f with
              | true =>
                rw [hq, cond_true] at hlt
                exfalso; apply hlt
                cases allC args.toList <;> decide
              | false => exact ⟨rfl, _, _, fun _ => rfl⟩
            | _ => cases hb
          | _ => cases hb
        | _ => rw [ho] at hb; cases hb
      obtain ⟨e1, g, args, e2⟩ := e1
      unfold opD at h ⊢
      rw [e1] at h ⊢
      simp only [e2] at h ⊢
      cases hL : litB E (ev s g) (evL s args) s.st with
      | false =>
        refine callA_mono hE hr (fun a st h => ?_) h
        rw [hb] at h ⊢
        try rw [hL] at h
        exact ⟨h.1, h.2, by rw [put_sto]; exact .of (boxSame_kept h.1)⟩
      | true =>
        refine callA_mono hE hr (fun a st h => ?_) (callA_lit hE hL h)
        rw [hb] at h ⊢
        try rw [hL] at h
        exact ⟨h.1, by rw [put_sto]; exact h.2⟩
theorem load_kept {P : Program} {st st' : List Obj} {T : TypeId} {k : Nat} {i : Nat} {p : List Nat} {off : Nat} (h : nthO st' i = nthO st i) : loadA P st' T (.ptr i k p off) = loadA P st T (.ptr i k p off) := by
  simp only [loadA, h]
theorem len_kept {P : Program} {st st' : List Obj} {T : TypeId} (U : TypeId) (l : List AV) : lenA P st' T (.lst U l) = lenA P st T (.lst U l) := by
  unfold lenA
  cases P.underlying T with
  | none => rfl
  | some d => cases d <;> rfl
theorem still_spec {E : Env} {s s' : S} {o : Oper} (h : stillB s o = true) (hs : Same o.op s s') (hk : BoxKept s.st s'.st) : o.guard = none ∧ (clsO E.quiet o.op = 1 ∧ ∀ c a b, o.op ≠ .pick c a b) ∧ readA E s' o.op = readA E s o.op ∧ stillB s' o = true := by
  unfold stillB at h ⊢
  split at h <;> try (cases h; done)
  · rename_i T x hg ho
    have he : ev s x = ev s' x := hs.ev x (by rw [ho]; simp [opsOf])
    refine ⟨hg, ⟨by rw [ho]; rfl, fun c a b e => by rw [ho] at e; cases e⟩, ?_, ?_⟩
    · rw [ho]; simp only [readA]; rw [← he]
      split at h <;> try (cases h; done)
      · rename_i hx; rw [hx, load_kept (hk.1 _ h)]
      · rename_i hx; rw [hx]; rfl
      · rename_i hx; rw [hx]; rfl
    · rw [← he]
      split at h <;> try (cases h; done)
      · rw [hk.1 _ h]; exact h
      · rename_i hx; simp only
      · rename_i hx; simp only
  · rename_i args ats hg ho
    have he : evL s args.toList = evL s' args.toList := evL_same (fun x hx => hs.ev x (by rw [ho]; simpa only [opsOf] using hx))
    refine ⟨hg, ⟨by rw [ho]; rfl, fun c a b e => by rw [ho] at e; cases e⟩, ?_, ?_⟩
    · rw [ho]; simp only [readA]; rw [← he]
      split at h <;> try (cases h; done)
      rename_i hx; rw [hx]
      cases ats.toList with
      | nil => rfl
      | cons T l => simp only [len_kept (st := s.st) (st' := s'.st)]
    · rw [← he]; exact h
  · rename_i x hg ho
    have he : ev s x = ev s' x := hs.ev x (by rw [ho]; simp [opsOf])
    refine ⟨hg, ⟨by rw [ho]; rfl, fun c a b e => by rw [ho] at e; cases e⟩, ?_, ?_⟩
    · rw [ho]; simp only [readA]; rw [← he]
      split at h <;> try (cases h; done)
      rename_i hx; rw [hx]; simp only [liveP, hk.1 _ h]; rfl
    · rw [← he]
      split at h <;> try (cases h; done)
      rw [hk.1 _ h]; exact h
  · rename_i T x f hg ho
    have he : ev s x = ev s' x := hs.ev x (by rw [ho]; simp [opsOf])
    refine ⟨hg, ⟨by rw [ho]; rfl, fun c a b e => by rw [ho] at e; cases e⟩, ?_, ?_⟩
    · rw [ho]; simp only [readA]; rw [← he]
      split at h <;> try (cases h; done)
      rename_i hx; rw [hx]; simp only [fieldAddrA, liveP, hk.1 _ h]; rfl
    · rw [← he]
      split at h <;> try (cases h; done)
      rw [hk.1 _ h]; exact h
  · rename_i T x i hg ho
    have he : ev s x = ev s' x := hs.ev x (by rw [ho]; simp [opsOf])
    have hi : ev s i = ev s' i := hs.ev i (by rw [ho]; simp [opsOf])
    refine ⟨hg, ⟨by rw [ho]; rfl, fun c a b e => by rw [ho] at e; cases e⟩, ?_, ?_⟩
    · rw [ho]; simp only [readA]; rw [← he, ← hi]
      split at h <;> try (cases h; done)
      rename_i k n hx
      cases ho' : nthO s.st k <;> rw [ho'] at h <;> try (cases h; done)
      obtain ⟨ls', pd', e⟩ := hk.2 k _ _ _ _ ho'
      rw [hx]; simp only [indexAddrA, ho', e, elT]
    · rw [← he]
      split at h <;> try (cases h; done)
      rename_i k n hx
      cases ho' : nthO s.st k <;> rw [ho'] at h <;> try (cases h; done)
      obtain ⟨ls', pd', e⟩ := hk.2 k _ _ _ _ ho'
      rw [e]; rfl
theorem load_still {E : Env} {rec : Rec} {ops : List Oper} {o : Oper} {s : S} {K : S → Prop} (hs : stillB s o = true) (h : stepD E rec ops o s K) : ∃ a, K (put s o.dst a) ∧ ∀ (s' : S) (K' : S → Prop), Looks ops o s s' → BoxKept s.st s'.st → K' (put s' o.dst a) → stepD E rec ops o s' K' := by
  obtain ⟨hg, ⟨hcl, hnp⟩, _, _⟩ := still_spec (E := E) hs (Looks.same (ops := ops) (s2 := s) (fun _ _ => rfl)) (.refl _)
  have h0 : opD E rec s o.dst o.op K := by
    unfold stepD at h; rw [hg] at h; exact h
  have h1 : ∃ c a, readA E s o.op = some (c, a) ∧ c = true ∧ K (put s o.dst a) := by
    unfold opD at h0
    rw [hcl] at h0
    simp only [] at h0
    split at h0
    · rename_i c a hr
      obtain ⟨q1, q2⟩ := cnd_iff.1 h0
      exact ⟨c, a, hr, q1, q2⟩
    · exact h0.elim
  obtain ⟨c, a, hr, hc, hk⟩ := h1
  refine ⟨a, hk, fun s' K' hl hb hk' => ?_⟩
  obtain ⟨_, _, hr', _⟩ := still_spec (E := E) hs hl.same hb
  rw [hr] at hr'
  unfold stepD
  rw [hg]
  unfold opD
  rw [hcl]
  simp only [hr']
  exact cnd_iff.2 ⟨hc, hk'⟩
def FreeS (quiet calm : FuncId → Bool) (ops : List Oper) (listed : List Bool) (i : Nat) (o : Oper) : Prop :=
  ∀ j b, ops[j]? = some b → i ≠ j → nthB listed j = false → ¬ Dep ops i j → apartS quiet calm ops o b = true
theorem freeS_spec {quiet calm : FuncId → Bool} {ops : List Oper} {listed : List Bool} {i : Nat} {o : Oper} {fs : List Nat} (hfs : ∀ j, j ∈ fs → j = i ∨ Dep ops i j) : ∀ (l : List Oper) (k : Nat), freeS quiet calm ops listed i o fs l k = true → ∀ m b, l[m]? = some b → i ≠ k + m → nthB listed (k + m) = false → ¬ Dep ops i (k + m) → apartS quiet calm ops o b = true
  | [], _, _, m, b, h, _, _, _ => by simp at h
  | x :: l, k, h, m, b, hm, hi, hn, he => by
    simp only [freeS, Bool.and_eq_true, Bool.or_eq_true] at h
    cases m with
    | zero =>
      simp at hm; subst hm
      rcases h.1 with ((h1 | h1) | h1) | h1
      · exact absurd (Nat.eq_of_beq_eq_true h1) (by simpa using hi)
      · rw [show k + 0 = k from rfl] at hn; rw [hn] at h1; cases h1
      · rcases hfs _ ((memN_iff _ _).1 h1) with h2 | h2
        · exact absurd h2.symm (by simpa using hi)
        · exact absurd h2 (by simpa using he)
      · exact h1
    | succ m =>
      refine freeS_spec hfs l (k + 1) h.2 m b (by simpa using hm) (by omega) ?_ ?_
      · rw [show k + 1 + m = k + (m + 1) by omega]; exact hn
      · rw [show k + 1 + m = k + (m + 1) by omega]; exact he
theorem FreeS.set {quiet calm : FuncId → Bool} {ops : List Oper} {listed : List Bool} {i j : Nat} {o : Oper} (h : FreeS quiet calm ops listed i o) : FreeS quiet calm ops (setB listed j) i o := by
  intro k b hb hk hn he
  refine h k b hb hk ?_ he
  by_cases e : j = k
  · subst e; rw [nthB_setB_same] at hn; cases hn
  · rwa [nthB_setB_other _ _ _ e] at hn
theorem full_firstS {E : Env} (hE : EnvMono E) {rec : Rec} (hr : RecMono rec) {ops : List Oper} {K : S → Prop} : ∀ (n : Nat) (listed : List Bool) (s : S) (i : Nat) (o : Oper), DC ops listed → Ready ops listed i o → FreeS E.quiet E.calm ops listed i o → stillB s o = true →
    (stepD E rec ops o s fun s' => fullD E rec ops n (setB listed i) s' K) → fullD E rec ops (n + 1) listed s K
  | n, listed, s, i, o, hdc, hi, hf, hst, h => by
    refine ⟨fun hn => absurd hi (hn i o), fun j b hj => ?_⟩
    by_cases hij : i = j
    · subst hij
      have : o = b := Option.some.inj (hi.1.symm.trans hj.1)
      subst this; exact h
    · have hsw : apartS E.quiet E.calm ops o b = true := hf j b hj.1 hij hj.2.1 (fun hp => by
        have := hj.dep hdc hp
        rw [hi.2.1] at this; cases this)
      simp only [apartS, apartB, Bool.and_eq_true, Bool.or_eq_true, Bool.not_eq_true', Nat.blt_eq] at hsw
      obtain ⟨⟨⟨q1, q2⟩, q3⟩, q4⟩ := hsw
      cases n with
      | zero =>
        obtain ⟨a, h1, _⟩ := load_still hst h
        exact absurd (hj.set hij) (h1.1 j b)
      | succ n =>
        have h' : stepD E rec ops o s fun s1 => stepD E rec ops b s1 fun s2 => fullD E rec ops n (setB (setB listed i) j) s2 K :=
          stepD_mono hE hr (fun s1 h1 => h1.2 j b (hj.set hij)) h
        obtain ⟨a, g1, g2⟩ := load_still hst h'
        have g3 := step_frame hE hr q4 g1
        refine stepD_cong hE hr (put_looks q1).symm (put_sto s o.dst a) ?_ g3
        intro st c _ hk
        obtain ⟨k1, k2⟩ := hk
        rw [put_sto, put_sto] at k2
        have hbk : BoxKept s.st (put { s with st := st } b.dst c).st := by rw [put_sto]; exact k2
        have hlk : Looks ops o s (put { s with st := st } b.dst c) := by
          have : Looks ops o s { s with st := st } := fun _ _ => rfl
          intro t ht
          exact (this t ht).trans (put_looks q2 t ht)
        have key := g2 (put { s with st := st } b.dst c) (fun s2 => fullD E rec ops n (setB (setB listed j) i) s2 K) hlk hbk (by
          rw [← put_swap st q3, setB_comm]; exact k1)
        exact full_firstS hE hr n (setB listed j) _ i o (hdc.set hj) (hi.set (Ne.symm hij)) hf.set (still_spec (E := E) hst hlk.same hbk).2.2.2 key
def TKept (P : Program) (T : Option TypeId) (st st' : List Obj) : Prop := ∀ k Tb a, nthO st k = .box Tb a → ∃ a', nthO st' k = .box Tb a' ∧
  ∀ T1, T = some T1 → isAggT P T1 = false → ∀ path, pathTy P Tb path = some T1 → atP a' path = atP a path ∧ inP a' path = inP a path ∧ offP a' path = offP a path
theorem TKept.refl (P : Program) (T : Option TypeId) (st : List Obj) : TKept P T st st := fun _ _ a h => ⟨a, h, fun _ _ _ _ _ => ⟨rfl, rfl, rfl⟩⟩
theorem TKept.of {P : Program} {T : Option TypeId} {st st' : List Obj} (h : BoxKept st st') : TKept P T st st' := fun k Tb a hk => ⟨a, by rw [h.1 k (by rw [hk]; rfl), hk], fun _ _ _ _ _ => ⟨rfl, rfl, rfl⟩⟩
theorem flds_nil {P : Program} {T : TypeId} (h : isAggT P T = false) : fieldsOf P T = [] := by
  unfold isAggT at h
  unfold fieldsOf
  split at h <;> simp_all
theorem setP_other {P : Program} {T1 T2 : TypeId} (h1 : isAggT P T1 = false) (h2 : isAggT P T2 = false) (hne : T1 ≠ T2) : ∀ (q p : List Nat) (Tb : TypeId) (a x : AV), pathTy P Tb p = some T1 → pathTy P Tb q = some T2 → inP a q = true → wid x = wid (atP a q) →
    atP (setP a q x) p = atP a p ∧ inP (setP a q x) p = inP a p ∧ offP (setP a q x) p = offP a p
  | [], p, Tb, a, x, e1, e2, _, _ => by
    simp only [pathTy, Option.some.injEq] at e2
    subst e2
    cases p with
    | nil => simp only [pathTy, Option.some.injEq] at e1; exact absurd e1.symm hne
    | cons i p => simp only [pathTy, flds_nil h2, nthF] at e1; cases e1
  | j :: q, [], Tb, a, x, e1, e2, _, _ => by
    simp only [pathTy, Option.some.injEq] at e1
    subst e1
    simp only [pathTy, flds_nil h1, nthF] at e2; cases e2
  | j :: q, i :: p, Tb, a, x, e1, e2, hi, hw => by
    cases a with
    | agg l =>
      simp only [inP, Bool.and_eq_true, decide_eq_true_eq] at hi
      simp only [atP, fld] at hw
      have hwj : wid (setP (nth l j) q x) = wid (nth l j) := wid_setP q _ _ hi.2 hw
      simp only [setP, atP, fld, inP, offP, setN_length]
      by_cases e : j = i
      · subst e
        simp only [pathTy] at e1 e2
        cases hf : nthF (fieldsOf P Tb) j with
        | none => rw [hf] at e1; cases e1
        | some fd =>
          rw [hf] at e1 e2
          have := setP_other h1 h2 hne q p fd.type (nth l j) x e1 e2 hi.2 hw
          rw [nth_setN_same _ _ _ hi.1, this.1, this.2.1, this.2.2, setN_off _ _ _ _ hwj]
          exact ⟨rfl, rfl, rfl⟩
      · rw [nth_setN_other _ _ _ _ e, setN_off _ _ _ _ hwj]
        exact ⟨rfl, rfl, rfl⟩
    | _ => simp [inP] at hi
theorem store_frame {P : Pg} {T : Option TypeId} {s : S} {dst : Option Tmp} {o : Op} (hb : otherB P.toProgram T o = true) {K : S → Prop} (h : writeA P s dst o K) : writeA P s dst o fun s' => K s' ∧ TKept P.toProgram T s.st s'.st := by
  cases o with
  | store U p x =>
    simp only [writeA] at h ⊢
    unfold storeA at h ⊢
    have rowT : ∀ i (ob ob' : Obj), nthO s.st i = ob → isBoxO ob = false → TKept P.toProgram T s.st (setO s.st i ob') := fun i ob ob' h1 h2 k Tb a hk => by
      refine ⟨a, ?_, fun _ _ _ _ _ => ⟨rfl, rfl, rfl⟩⟩
      rw [nthO_setO_other _ _ _ _ (fun e => by subst e; rw [h1] at hk; subst hk; cases h2)]; exact hk
    have frzT : ∀ is i (ob ob' : Obj), nthO (freezeSt s.st is) i = ob → isBoxO ob = false → TKept P.toProgram T s.st (setO (freezeSt s.st is) i ob') := fun is i ob ob' h1 h2 k Tb a hk => by
      have hz : nthO (freezeSt s.st is) k = .box Tb a := by rw [(BoxKept.freeze is s.st).1 k (by rw [hk]; rfl), hk]
      refine ⟨a, ?_, fun _ _ _ _ _ => ⟨rfl, rfl, rfl⟩⟩
      rw [nthO_setO_other _ _ _ _ (fun e => by subst e; rw [h1] at hz; subst hz; cases h2)]; exact hz
    split at h <;> try exact h.elim
    rename_i i k path off hev
    split at h <;> try exact h.elim
    · rename_i Tb a hst
      split at h <;> try exact h.elim
      rename_i hc
      rw [if_pos hc]
      refine ⟨h, ?_⟩
      rw [put_sto]
      simp only [Bool.and_eq_true, beq_iff_eq] at hc
      obtain ⟨⟨⟨⟨⟨⟨c1, c2⟩, c3⟩, c4⟩, _⟩, _⟩, c7⟩ := hc
      intro k' Tb' a' hk'
      by_cases e : i = k'
      · subst e
        rw [hst] at hk'; cases hk'
        refine ⟨_, nthO_setO_same _ _ _ (nd_lt (by rw [hst]; simp)), fun T1 hT hA p hp => ?_⟩
        subst hT
        simp only [otherB, Bool.and_eq_true, Bool.not_eq_true'] at hb
        have hU : pathTy P.toProgram Tb path = some U := by
          unfold pathIs at c7
          split at c7
          · rename_i V hV; rw [hV, Nat.eq_of_beq_eq_true c7]
          · cases c7
        exact setP_other hA hb.2 (fun e => by subst e; rw [Nat.beq_refl] at hb; cases hb.1) path p Tb a (ev s x) hp hU c1 (by rw [c3, c4])
      · exact ⟨a', by rw [nthO_setO_other _ _ _ _ e]; exact hk', fun _ _ _ _ _ => ⟨rfl, rfl, rfl⟩⟩
    · split at h <;> try exact h.elim
      rename_i x' Tr xs hx' hst
      split at h <;> try exact h.elim
      rename_i hc
      simp only
      rw [if_pos hc]
      exact ⟨h, by rw [put_sto]; exact frzT _ _ _ _ hst rfl⟩
    · rename_i Tr E ls kp hst
      split at h <;> try exact h.elim
      split at h <;> try exact h.elim
      rename_i hc
      rw [if_pos hc]
      exact cnd_mono (fun h => ⟨h, by rw [put_sto]; exact rowT _ _ _ hst rfl⟩) h
  | _ => cases T <;> cases hb
theorem step_frameT {E : Env} (hE : EnvMono E) {rec : Rec} (hr : RecMono rec) {ops : List Oper} {b : Oper} {s : S} {T : Option TypeId} {K : S → Prop} (hb : ((clsO E.quiet b.op < 2 ∨ growB b.op = true) ∨ calmO E.calm b.op = true) ∨ otherB E.P.toProgram T b.op = true) (h : stepD E rec ops b s K) : stepD E rec ops b s fun s' => K s' ∧ TKept E.P.toProgram T s.st s'.st := by
  rcases hb with hb | hb
  · exact stepD_mono hE hr (fun _ h => ⟨h.1, .of h.2⟩) (step_frame hE hr hb h)
  · rw [stepD_guard] at h ⊢
    refine guardK_cong (fun _ _ => rfl) (fun h => ?_) (fun h => ⟨h, by rw [put_sto]; exact .refl _ _ _⟩) h
    have e1 : clsO E.quiet b.op = 2 ∧ ∀ s, calleeOf s b.op = none := by
      cases ho : b.op with
      | store U p x => exact ⟨rfl, fun _ => rfl⟩
      | _ => rw [ho] at hb; cases T <;> cases hb
    obtain ⟨e1, e2⟩ := e1
    unfold opD at h ⊢
    rw [e1] at h ⊢
    simp only [e2] at h ⊢
    exact store_frame hb h
theorem typed_spec {E : Env} {s s' : S} {o : Oper} {T : Option TypeId} (h : typedB E.P.toProgram s o = some T) (hs : Same o.op s s') (hk : TKept E.P.toProgram T s.st s'.st) : o.guard = none ∧ (clsO E.quiet o.op = 1 ∧ ∀ c a b, o.op ≠ .pick c a b) ∧ readA E s' o.op = readA E s o.op ∧ typedB E.P.toProgram s' o = some T := by
  unfold typedB at h ⊢
  split at h <;> try (cases h; done)
  · rename_i U x hg ho
    have he : ev s x = ev s' x := hs.ev x (by rw [ho]; simp [opsOf])
    rw [← he]
    split at h <;> try (cases h; done)
    rename_i k j path off hx
    split at h <;> try (cases h; done)
    rename_i Tb a hst
    cases hc : pathIs E.P.toProgram Tb path U && !isAggT E.P.toProgram U with
    | false => rw [hc] at h; cases h
    | true =>
      rw [hc] at h
      simp only [cond_true, Option.some.injEq] at h
      subst h
      obtain ⟨a', k1, k2⟩ := hk k Tb a hst
      have hc' := hc
      simp only [Bool.and_eq_true, Bool.not_eq_true'] at hc'
      have hU : pathTy E.P.toProgram Tb path = some U := by
        have c7 := hc'.1
        unfold pathIs at c7
        split at c7
        · rename_i V hV; rw [hV, Nat.eq_of_beq_eq_true c7]
        · cases c7
      obtain ⟨r1, r2, r3⟩ := k2 U rfl hc'.2 path hU
      refine ⟨hg, ⟨by rw [ho]; rfl, fun c a b e => by rw [ho] at e; cases e⟩, ?_, ?_⟩
      · rw [ho]; simp only [readA]; rw [← he, hx]
        simp only [loadA, hst, k1, r1, r2, r3]
      · simp only [k1, hc, cond_true]
  · rename_i x hg ho
    have he : ev s x = ev s' x := hs.ev x (by rw [ho]; simp [opsOf])
    rw [← he]
    split at h <;> try (cases h; done)
    rename_i k j path off hx
    cases hc : isBoxO (nthO s.st k) with
    | false => rw [hc] at h; cases h
    | true =>
      rw [hc] at h
      cases h
      cases hst : nthO s.st k <;> rw [hst] at hc <;> try (cases hc; done)
      obtain ⟨a', k1, _⟩ := hk k _ _ hst
      refine ⟨hg, ⟨by rw [ho]; rfl, fun c a b e => by rw [ho] at e; cases e⟩, ?_, ?_⟩
      · rw [ho]; simp only [readA]; rw [← he, hx]; simp only [liveP, k1, hst]
      · simp only [k1]; rfl
  · rename_i U x f hg ho
    have he : ev s x = ev s' x := hs.ev x (by rw [ho]; simp [opsOf])
    rw [← he]
    split at h <;> try (cases h; done)
    rename_i k j path off hx
    cases hc : isBoxO (nthO s.st k) with
    | false => rw [hc] at h; cases h
    | true =>
      rw [hc] at h
      cases h
      cases hst : nthO s.st k <;> rw [hst] at hc <;> try (cases hc; done)
      obtain ⟨a', k1, _⟩ := hk k _ _ hst
      refine ⟨hg, ⟨by rw [ho]; rfl, fun c a b e => by rw [ho] at e; cases e⟩, ?_, ?_⟩
      · rw [ho]; simp only [readA]; rw [← he, hx]; simp only [fieldAddrA, liveP, k1, hst]
      · simp only [k1]; rfl
theorem load_typed {E : Env} {rec : Rec} {ops : List Oper} {o : Oper} {s : S} {T : Option TypeId} {K : S → Prop} (hs : typedB E.P.toProgram s o = some T) (h : stepD E rec ops o s K) : ∃ a, K (put s o.dst a) ∧ ∀ (s' : S) (K' : S → Prop), Looks ops o s s' → TKept E.P.toProgram T s.st s'.st → K' (put s' o.dst a) → stepD E rec ops o s' K' := by
  obtain ⟨hg, ⟨hcl, hnp⟩, _, _⟩ := typed_spec (E := E) hs (Looks.same (ops := ops) (s2 := s) (fun _ _ => rfl)) (.refl _ _ _)
  have h0 : opD E rec s o.dst o.op K := by
    unfold stepD at h; rw [hg] at h; exact h
  have h1 : ∃ c a, readA E s o.op = some (c, a) ∧ c = true ∧ K (put s o.dst a) := by
    unfold opD at h0
    rw [hcl] at h0
    simp only [] at h0
    split at h0
    · rename_i c a hr
      obtain ⟨q1, q2⟩ := cnd_iff.1 h0
      exact ⟨c, a, hr, q1, q2⟩
    · exact h0.elim
  obtain ⟨c, a, hr, hc, hk⟩ := h1
  refine ⟨a, hk, fun s' K' hl hb hk' => ?_⟩
  obtain ⟨_, _, hr', _⟩ := typed_spec (E := E) hs hl.same hb
  rw [hr] at hr'
  unfold stepD
  rw [hg]
  unfold opD
  rw [hcl]
  simp only [hr']
  exact cnd_iff.2 ⟨hc, hk'⟩
def FreeT (P : Program) (quiet calm : FuncId → Bool) (T : Option TypeId) (ops : List Oper) (listed : List Bool) (i : Nat) (o : Oper) : Prop :=
  ∀ j b, ops[j]? = some b → i ≠ j → nthB listed j = false → ¬ Dep ops i j → apartT P quiet calm T ops o b = true
theorem freeT_spec {P : Program} {quiet calm : FuncId → Bool} {T : Option TypeId} {ops : List Oper} {listed : List Bool} {i : Nat} {o : Oper} {fs : List Nat} (hfs : ∀ j, j ∈ fs → j = i ∨ Dep ops i j) : ∀ (l : List Oper) (k : Nat), freeT P quiet calm T ops listed i o fs l k = true → ∀ m b, l[m]? = some b → i ≠ k + m → nthB listed (k + m) = false → ¬ Dep ops i (k + m) → apartT P quiet calm T ops o b = true
  | [], _, _, m, b, h, _, _, _ => by simp at h
  | x :: l, k, h, m, b, hm, hi, hn, he => by
    simp only [freeT, Bool.and_eq_true, Bool.or_eq_true] at h
    cases m with
    | zero =>
      simp at hm; subst hm
      rcases h.1 with ((h1 | h1) | h1) | h1
      · exact absurd (Nat.eq_of_beq_eq_true h1) (by simpa using hi)
      · rw [show k + 0 = k from rfl] at hn; rw [hn] at h1; cases h1
      · rcases hfs _ ((memN_iff _ _).1 h1) with h2 | h2
        · exact absurd h2.symm (by simpa using hi)
        · exact absurd h2 (by simpa using he)
      · exact h1
    | succ m =>
      refine freeT_spec hfs l (k + 1) h.2 m b (by simpa using hm) (by omega) ?_ ?_
      · rw [show k + 1 + m = k + (m + 1) by omega]; exact hn
      · rw [show k + 1 + m = k + (m + 1) by omega]; exact he
theorem FreeT.set {P : Program} {quiet calm : FuncId → Bool} {T : Option TypeId} {ops : List Oper} {listed : List Bool} {i j : Nat} {o : Oper} (h : FreeT P quiet calm T ops listed i o) : FreeT P quiet calm T ops (setB listed j) i o := by
  intro k b hb hk hn he
  refine h k b hb hk ?_ he
  by_cases e : j = k
  · subst e; rw [nthB_setB_same] at hn; cases hn
  · rwa [nthB_setB_other _ _ _ e] at hn
theorem full_firstT {E : Env} (hE : EnvMono E) {rec : Rec} (hr : RecMono rec) {ops : List Oper} {T : Option TypeId} {K : S → Prop} : ∀ (n : Nat) (listed : List Bool) (s : S) (i : Nat) (o : Oper), DC ops listed → Ready ops listed i o → FreeT E.P.toProgram E.quiet E.calm T ops listed i o → typedB E.P.toProgram s o = some T →
    (stepD E rec ops o s fun s' => fullD E rec ops n (setB listed i) s' K) → fullD E rec ops (n + 1) listed s K
  | n, listed, s, i, o, hdc, hi, hf, hst, h => by
    refine ⟨fun hn => absurd hi (hn i o), fun j b hj => ?_⟩
    by_cases hij : i = j
    · subst hij
      have : o = b := Option.some.inj (hi.1.symm.trans hj.1)
      subst this; exact h
    · have hsw : apartT E.P.toProgram E.quiet E.calm T ops o b = true := hf j b hj.1 hij hj.2.1 (fun hp => by
        have := hj.dep hdc hp
        rw [hi.2.1] at this; cases this)
      simp only [apartT, apartB, Bool.and_eq_true, Bool.or_eq_true, Bool.not_eq_true', Nat.blt_eq] at hsw
      obtain ⟨⟨⟨q1, q2⟩, q3⟩, q4⟩ := hsw
      cases n with
      | zero =>
        obtain ⟨a, h1, _⟩ := load_typed hst h
        exact absurd (hj.set hij) (h1.1 j b)
      | succ n =>
        have h' : stepD E rec ops o s fun s1 => stepD E rec ops b s1 fun s2 => fullD E rec ops n (setB (setB listed i) j) s2 K :=
          stepD_mono hE hr (fun s1 h1 => h1.2 j b (hj.set hij)) h
        obtain ⟨a, g1, g2⟩ := load_typed hst h'
        have g3 := step_frameT (T := T) hE hr q4 g1
        refine stepD_cong hE hr (put_looks q1).symm (put_sto s o.dst a) ?_ g3
        intro st c _ hk
        obtain ⟨k1, k2⟩ := hk
        rw [put_sto, put_sto] at k2
        have hbk : TKept E.P.toProgram T s.st (put { s with st := st } b.dst c).st := by rw [put_sto]; exact k2
        have hlk : Looks ops o s (put { s with st := st } b.dst c) := by
          have : Looks ops o s { s with st := st } := fun _ _ => rfl
          intro t ht
          exact (this t ht).trans (put_looks q2 t ht)
        have key := g2 (put { s with st := st } b.dst c) (fun s2 => fullD E rec ops n (setB (setB listed j) i) s2 K) hlk hbk (by
          rw [← put_swap st q3, setB_comm]; exact k1)
        exact full_firstT hE hr n (setB listed j) _ i o (hdc.set hj) (hi.set (Ne.symm hij)) hf.set (typed_spec (E := E) hst hlk.same hbk).2.2.2 key
theorem pickT_spec {P : Program} {quiet calm : FuncId → Bool} {ops : List Oper} {listed : List Bool} {s : S} : ∀ (l : List (Nat × Oper)) {i : Nat} {o : Oper}, pickT P quiet calm ops listed s l = some (i, o) → ∃ T, (i, o) ∈ l ∧ typedB P s o = some T ∧ freeT P quiet calm T ops listed i o (fwd ops 0 [i]) ops 0 = true
  | [], i, o, h => by simp [pickT] at h
  | (j, b) :: l, i, o, h => by
    simp only [pickT] at h
    have rest : pickT P quiet calm ops listed s l = some (i, o) → ∃ T, (i, o) ∈ (j, b) :: l ∧ typedB P s o = some T ∧ freeT P quiet calm T ops listed i o (fwd ops 0 [i]) ops 0 = true := fun h => by
      obtain ⟨T, h1, h2⟩ := pickT_spec l h
      exact ⟨T, by simp [h1], h2⟩
    split at h
    · rename_i T hT
      cases hb : freeT P quiet calm T ops listed j b (fwd ops 0 [j]) ops 0 with
      | true =>
        rw [hb] at h; simp at h; obtain ⟨rfl, rfl⟩ := h
        exact ⟨T, by simp, hT, hb⟩
      | false => rw [hb] at h; exact rest h
    · exact rest h
theorem pickS_spec {quiet calm : FuncId → Bool} {ops : List Oper} {listed : List Bool} {s : S} : ∀ (l : List (Nat × Oper)) {i : Nat} {o : Oper}, pickS quiet calm ops listed s l = some (i, o) → (i, o) ∈ l ∧ stillB s o = true ∧ freeS quiet calm ops listed i o (fwd ops 0 [i]) ops 0 = true
  | [], i, o, h => by simp [pickS] at h
  | (j, b) :: l, i, o, h => by
    simp only [pickS] at h
    cases hb : stillB s b && freeS quiet calm ops listed j b (fwd ops 0 [j]) ops 0 with
    | true =>
      rw [hb] at h; simp at h; obtain ⟨rfl, rfl⟩ := h
      rw [Bool.and_eq_true] at hb
      exact ⟨by simp, hb⟩
    | false =>
      rw [hb] at h
      obtain ⟨h1, h2⟩ := pickS_spec l h
      exact ⟨by simp [h1], h2⟩
theorem any_full {E : Env} (hE : EnvMono E) {rec : Rec} (hr : RecMono rec) {ops : List Oper} {K : S → Prop} : ∀ (n : Nat) (listed : List Bool) (s : S), DC ops listed → anyD E rec ops n listed s K → fullD E rec ops n listed s K
  | 0, listed, s, _, h => by
    unfold anyD at h
    split at h
    · rename_i h0
      exact ⟨fun i o hi => by rw [← ready_iff, h0] at hi; simp at hi, h⟩
    · exact h.elim
  | n + 1, listed, s, hdc, h => by
    unfold anyD at h
    split at h
    · rename_i h0
      exact ⟨fun _ => h, fun i o hi => by rw [← ready_iff, h0] at hi; simp at hi⟩
    · rename_i h0
      split at h
      · rename_i i o hp
        obtain ⟨h1, h2⟩ := pickFree_spec _ hp
        have hfs : ∀ j, j ∈ fwd ops 0 [i] → j = i ∨ Dep ops i j := fwd_spec ops 0 [i] (fun m b hm => by simpa using hm) (fun j hj => .inl (by simpa using hj))
        have hfree : Free E.quiet ops listed i o := fun j b hb hij hn he => free_spec hfs ops 0 h2 j b hb (by omega) (by simpa using hn) (by simpa using he)
        exact full_first hE hr n listed s i o hdc (ready_iff.1 h1) hfree (stepD_mono hE hr (fun s' => any_full hE hr n _ s' (hdc.set (ready_iff.1 h1))) h)
      · split at h
        · rename_i i o hp
          obtain ⟨h1, h2, h3⟩ := pickS_spec _ hp
          have hfs : ∀ j, j ∈ fwd ops 0 [i] → j = i ∨ Dep ops i j := fwd_spec ops 0 [i] (fun m b hm => by simpa using hm) (fun j hj => .inl (by simpa using hj))
          have hfree : FreeS E.quiet E.calm ops listed i o := fun j b hb hij hn he => freeS_spec hfs ops 0 h3 j b hb (by omega) (by simpa using hn) (by simpa using he)
          exact full_firstS hE hr n listed s i o hdc (ready_iff.1 h1) hfree h2 (stepD_mono hE hr (fun s' => any_full hE hr n _ s' (hdc.set (ready_iff.1 h1))) h)
        split at h
        · rename_i i o hp
          have hp : pickT E.P.toProgram E.quiet E.calm ops listed s (readyL listed ops 0) = some (i, o) := by
            cases hc : E.calm 888888 <;> rw [hc] at hp
            · cases hp
            · exact hp
          obtain ⟨T, h1, h2, h3⟩ := pickT_spec _ hp
          have hfs : ∀ j, j ∈ fwd ops 0 [i] → j = i ∨ Dep ops i j := fwd_spec ops 0 [i] (fun m b hm => by simpa using hm) (fun j hj => .inl (by simpa using hj))
          have hfree : FreeT E.P.toProgram E.quiet E.calm T ops listed i o := fun j b hb hij hn he => freeT_spec hfs ops 0 h3 j b hb (by omega) (by simpa using hn) (by simpa using he)
          exact full_firstT hE hr n listed s i o hdc (ready_iff.1 h1) hfree h2 (stepD_mono hE hr (fun s' => any_full hE hr n _ s' (hdc.set (ready_iff.1 h1))) h)
        have := allD_spec _ h
        refine ⟨fun hn => ?_, fun i o hi => stepD_mono hE hr (fun s' => any_full hE hr n _ s' (hdc.set hi)) (this i o (ready_iff.2 hi))⟩
        exfalso
        cases hrl : readyL listed ops 0 with
        | nil => exact h0 hrl
        | cons x l =>
          obtain ⟨i, o⟩ := x
          exact hn i o (ready_iff.1 (by rw [hrl]; simp))
theorem nthB_getD : ∀ (l : List Bool) (i : Nat), nthB l i = l.getD i true
  | [], _ => rfl
  | _ :: _, 0 => rfl
  | _ :: l, i + 1 => by simpa [nthB] using nthB_getD l i
theorem setB_set : ∀ (l : List Bool) (i : Nat), setB l i = l.set i true
  | [], _ => rfl
  | _ :: _, 0 => rfl
  | _ :: l, i + 1 => by simp [setB, setB_set l i]
theorem falses_eq : ∀ n, falses n = List.replicate n false
  | 0 => rfl
  | n + 1 => by simp [falses, falses_eq n, List.replicate_succ]
theorem ready_array {ops : Array Oper} {listed : Array Bool} {i : Nat} : i ∈ Region.ready .any ops listed ↔ ∃ o, Ready ops.toList listed.toList i o := by
  rw [mem_ready]
  have e1 : ∀ k, nthB listed.toList k = listed.getD k true := fun k => by rw [nthB_getD]; simp
  constructor
  · rintro ⟨h1, o, h2, h3⟩
    refine ⟨o, by simpa using h2, by rw [e1]; exact h1, fun e he hb => ?_⟩
    have := h3 e (by simpa using he) hb
    rcases Nat.lt_or_ge e.on listed.size with h' | h'
    · refine ⟨by simpa using h', ?_⟩
      rw [e1]; simp [h'] at this ⊢; exact this
    · simp [Array.getElem?_eq_none h'] at this
  · rintro ⟨o, h1, h2, h3⟩
    refine ⟨by rw [← e1]; exact h2, o, by simpa using h1, fun e he hb => ?_⟩
    obtain ⟨h4, h5⟩ := h3 e (by simpa using he) hb
    rw [e1] at h5
    have h4' : e.on < listed.size := by simpa using h4
    simp [h4'] at h5 ⊢; exact h5
theorem full_sound {E : Env} (hE : EnvOK E) {rec : Rec} (hrec : RecSound E.P rec) {F : Fence} (hF : F = Fence.wide ∨ ∃ B, F = Fence.wide.inRound B) {n : Nat} {ops : Array Oper} {K : S → Prop} {lo base : Nat} {Q : Exit → Act → World → Prop} :
    ∀ (k : Nat) (listed : Array Bool) {C : Ctx}, C.P = E.P → Inv C → ∀ {s : S} {a : Act}, SRel C s a → DefOK lo C a.defers → base ≤ s.st.length → fullD E rec ops.toList k listed.toList s K →
      (∀ a' w', StateOK lo base C K a' w' → Q .normal a' w') → wpAnyIn F n E.P .any ops Q k listed a C.w
  | 0, listed, C, hC, hI, s, a, hs, hd, hb, h, hQ => by
    refine ⟨?_, hQ _ _ ⟨C, s, rfl, rfl, hI, hs, hd, hb, Ext.refl C (by rw [hs.st]; exact hb), h.2⟩⟩
    rw [List.eq_nil_iff_forall_not_mem]
    intro i hi
    obtain ⟨o, ho⟩ := ready_array.1 hi
    exact h.1 i o ho
  | k + 1, listed, C, hC, hI, s, a, hs, hd, hb, h, hQ => by
    refine ⟨fun hn => hQ _ _ ⟨C, s, rfl, rfl, hI, hs, hd, hb, Ext.refl C (by rw [hs.st]; exact hb), h.1 fun i o ho => ?_⟩, fun i hi => ?_⟩
    · have := ready_array.2 ⟨o, ho⟩
      rw [hn] at this; simp at this
    · obtain ⟨o, ho⟩ := ready_array.1 hi
      have h1 := h.2 i o ho
      rw [stepD_guard] at h1
      have hn : ∀ a' w', StateOK lo base C (fun s' => fullD E rec ops.toList k (setB listed.toList i) s' K) a' w' → wpAnyIn F n E.P .any ops Q k (listed.setIfInBounds i true) a' w' := by
        rintro a' w' ⟨C', s', rfl, hP', hI', hs', hd', hb', he, hK⟩
        refine full_sound hE hrec hF k _ (hP'.trans hC) hI' hs' hd' hb' ?_ (fun a2 w2 h2 => hQ _ _ (h2.trans hP' he))
        have e : (listed.setIfInBounds i true).toList = setB listed.toList i := by rw [setB_set]; simp
        rw [e]; exact hK
      exact guard_sound hI hs hd hb hF (i := i) (o := o) (by simpa using ho.1) (fun hp => opD_sound hE hrec hC hI hs hd hb hF hp hn) hn h1
theorem draw_sound {E : Env} (hE : EnvOK E) (hM : EnvMono E) {rec : Rec} (hrec : RecSound E.P rec) (hr : RecMono rec) : DrawOK E rec := by
  intro id ops s K h C a F n lo base hC hI hs hd hb hF Q hQ
  refine wpIn_region_any hE.prog.mixed ?_
  have hg : Grows C.w { C.w with drawn := C.w.drawn + 1 } := ⟨Nat.le_refl _, rfl, rfl, rfl, fun _ _ => rfl⟩
  obtain ⟨g1, g2⟩ := grow_ctx hI hg
  have hs' := hs.step hI g2
  have e : ({ s with st := C.st } : S) = s := by rw [hs.st]
  have hs'' : SRel { C with w := { C.w with drawn := C.w.drawn + 1 } } s a := by
    have e2 : ({ s with st := ({ C with w := { C.w with drawn := C.w.drawn + 1 } } : Ctx).st } : S) = s := e
    rw [e2] at hs'; exact hs'
  have hfull := any_full hM hr _ _ _ (DC.falses _ _) h
  have := full_sound (C := { C with w := { C.w with drawn := C.w.drawn + 1 } }) hE hrec hF (n := n) (K := K) (lo := lo) (base := base) (Q := Q) ops.size (Array.replicate ops.size false) hC g1 hs'' (hd.ext g2) hb
    (by simpa [falses_eq] using hfull) (fun a' w' h' => hQ _ _ (StateOK.trans (C := C) (C' := { C with w := { C.w with drawn := C.w.drawn + 1 } }) rfl (g2.mono (by rw [hs.st]; exact hb)) h'))
  exact this
theorem opA_mono {E : Env} (hE : EnvMono E) {rec : Rec} (hr : RecMono rec) {s : S} {d : Option Tmp} {o : Op} {K K' : S → Prop} (hK : ∀ s, K s → K' s) (h : opA E rec s d o K) : opA E rec s d o K' := by
  unfold opA at h ⊢
  split at h
  · exact cnd_mono (hK _) h
  · split at h
    · split at h <;> try exact h.elim
      rename_i t _
      cases t <;> exact hK _ h
    · split at h
      · exact callA_mono hE hr (fun _ _ hh => hK _ hh) h
      · exact write_cong ⟨fun _ _ => rfl⟩ rfl (fun _ _ hh => hK _ hh) h
theorem opsA_mono {E : Env} (hE : EnvMono E) {rec : Rec} (hr : RecMono rec) {ops : List Oper} : ∀ (l : List Oper) {s : S} {K K' : S → Prop}, (∀ s, K s → K' s) → opsA E rec ops l s K → opsA E rec ops l s K'
  | [], s, K, K', hK, h => hK _ h
  | o :: l, s, K, K', hK, h => by
    rw [opsA_guard] at h ⊢
    exact guardK_cong (fun _ _ => rfl) (opA_mono hE hr (fun s' => opsA_mono hE hr l hK)) (opsA_mono hE hr l hK) h
theorem anyD_mono {E : Env} (hE : EnvMono E) {rec : Rec} (hr : RecMono rec) {ops : List Oper} {K K' : S → Prop} (hK : ∀ s, K s → K' s) : ∀ (n : Nat) (listed : List Bool) (s : S), anyD E rec ops n listed s K → anyD E rec ops n listed s K'
  | 0, listed, s, h => by
    unfold anyD at h ⊢
    split at h
    · exact hK _ h
    · exact h.elim
  | n + 1, listed, s, h => by
    unfold anyD at h ⊢
    split at h
    · exact hK _ h
    · split at h
      · exact stepD_mono hE hr (fun s' => anyD_mono hE hr hK n _ s') h
      · split at h
        · exact stepD_mono hE hr (fun s' => anyD_mono hE hr hK n _ s') h
        split at h
        · exact stepD_mono hE hr (fun s' => anyD_mono hE hr hK n _ s') h
        generalize readyL listed ops 0 = l at h ⊢
        have : ∀ l : List (Nat × Oper), (allD (fun i o => stepD E rec ops o s fun s' => anyD E rec ops n (setB listed i) s' K) l) → allD (fun i o => stepD E rec ops o s fun s' => anyD E rec ops n (setB listed i) s' K') l := by
          intro l
          induction l with
          | nil => exact id
          | cons x l ih =>
            obtain ⟨i, o⟩ := x
            cases l with
            | nil => exact fun h => stepD_mono hE hr (fun s' => anyD_mono hE hr hK n _ s') h
            | cons y l => exact fun h => ⟨stepD_mono hE hr (fun s' => anyD_mono hE hr hK n _ s') h.1, ih h.2⟩
        exact this _ h
theorem code_mono {E : Env} (hE : EnvMono E) {rec : Rec} (hr : RecMono rec) (f : FuncId) (rd : Option Nat) (base : Nat) : ∀ (c : Code) (s : S) (K K' : Exit → S → Prop), (∀ e s, K e s → K' e s) → codeA E rec f rd base c s K → codeA E rec f rd base c s K' := by
  intro c
  induction c with
  | skip => intro s K K' hK h; exact hK _ _ h
  | label l => intro s K K' hK h; exact hK _ _ h
  | region id ops d =>
    intro s K K' hK h
    cases d with
    | false => exact opsA_mono hE hr _ (hK _) h
    | true => exact anyD_mono hE hr (hK _) _ _ _ h
  | seq x y ihx ihy =>
    intro s K K' hK h
    refine ihx s _ _ ?_ h
    intro e s' hh
    cases e with
    | normal => exact ihy s' _ _ hK hh
    | _ => exact hK _ _ hh
  | cond c x y ihx ihy =>
    intro s K K' hK h
    unfold codeA at h ⊢
    split at h <;> try exact h.elim
    rename_i t _
    cases t with
    | true => exact ihx _ _ _ hK h
    | false => exact ihy _ _ _ hK h
  | block id c ih =>
    intro s K K' hK h
    refine ih s _ _ ?_ h
    intro e s' hh
    cases e with
    | exit i =>
      simp only [blockK] at hh ⊢
      cases hb : Nat.beq i id <;> rw [hb] at hh <;> exact hK _ _ hh
    | _ => exact hK _ _ hh
  | loop c ih =>
    intro s K K' hK h
    unfold codeA at h ⊢
    split at h <;> try exact h.elim
    exact cnd_mono (fun hh => by rw [frcS_eq] at hh ⊢; exact hE.loop _ _ _ _ _ _ _ _ hK hh) h
  | rangeFunc g ps asg body iha ihb =>
    intro s K K' hK h
    unfold codeA at h ⊢
    split at h <;> try exact h.elim
    have hrk : ∀ st, rangeK s.st.length s K st → rangeK s.st.length s K' st := by
      intro st hh
      unfold rangeK at hh ⊢
      split at hh <;> try exact hh.elim
      rename_i r hl
      cases hs : r.state <;> cases hp : r.pending <;> rw [hs, hp] at hh <;> try exact hh.elim
      all_goals first | exact hK _ _ hh | (rename_i c; cases c <;> first | exact hh.elim | exact hK _ _ hh)
    refine cnd_mono (fun hh => ?_) h
    split at hh
    · exact hE.rng _ _ _ _ _ _ _ hrk hh
    · exact inline_mono hr (fun _ st => hrk st) hh
  | exit id => intro s K K' hK h; exact hK _ _ h
  | goto l => intro s K K' hK h; exact h.elim
  | scope c ih =>
    intro s K K' hK h
    refine ih s _ _ ?_ h
    intro e s' hh
    cases e with
    | goto l => exact hh.elim
    | _ => exact hK _ _ hh
  | ret => intro s K K' hK h; exact hK _ _ h
  | refuse r => intro s K K' hK h; exact h.elim
theorem vc_mono {E : Env} (hE : EnvMono E) : ∀ n, RecMono (vc E n)
  | 0 => fun _ _ _ _ _ _ _ _ h => h.elim
  | n + 1 => fun f rd base c s K K' hK h => code_mono hE (vc_mono hE n) f rd base c s K K' hK h
theorem vc_ok {E : Env} (hE : EnvOK E) (hM : EnvMono E) : ∀ n, RecSound E.P (vc E n)
  | 0 => fun _ _ _ _ _ _ h => h.elim
  | n + 1 => fun f rd base c s K h => code_sound hE (vc_ok hE hM n) (draw_sound hE hM (vc_ok hE hM n) (vc_mono hM n)) f rd base c s K h
#print axioms vc_ok
end Go.Dn
