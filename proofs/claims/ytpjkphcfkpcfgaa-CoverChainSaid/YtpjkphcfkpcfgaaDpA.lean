import Derived.Test.YtpjkphcfkpcfgaaDnA
/-
  DpA: matchings that are made greater one by one: what a search gives; the greatest set of which none is within another one.
-/
namespace Go.Dn
open Go

/-! ### How many -/
def num (p : Nat → Bool) : Nat → Nat
  | 0 => 0
  | n + 1 => num p n + (p n).toNat

theorem num_congr {p q : Nat → Bool} : ∀ {n : Nat}, (∀ k, k < n → p k = q k) → num p n = num q n
  | 0, _ => rfl
  | n + 1, h => by simp only [num, num_congr (n := n) (fun k hk => h k (by omega)), h n (by omega)]

theorem num_le {p q : Nat → Bool} : ∀ {n : Nat}, (∀ k, k < n → p k = true → q k = true) → num p n ≤ num q n
  | 0, _ => Nat.le_refl _
  | n + 1, h => by
    have := num_le (n := n) (fun k hk => h k (by omega))
    have h1 := h n (by omega)
    simp only [num]
    cases hp : p n with
    | false => simp only [Bool.toNat_false]; omega
    | true => rw [h1 hp]; omega

theorem num_le_n (p : Nat → Bool) : ∀ n, num p n ≤ n
  | 0 => Nat.le_refl _
  | n + 1 => by have := num_le_n p n; simp only [num]; cases p n <;> simp <;> omega

theorem num_none : ∀ n, num (fun _ => false) n = 0
  | 0 => rfl
  | n + 1 => by simp [num, num_none n]

theorem num_split (p q : Nat → Bool) : ∀ n, num p n = num (fun k => p k && q k) n + num (fun k => p k && !q k) n
  | 0 => rfl
  | n + 1 => by
    have := num_split p q n
    simp only [num]
    cases p n <;> cases q n <;> simp <;> omega

theorem num_not (p : Nat → Bool) : ∀ n, num p n + num (fun k => !p k) n = n
  | 0 => rfl
  | n + 1 => by
    have := num_not p n
    simp only [num]
    cases p n <;> simp <;> omega

theorem num_or {p q : Nat → Bool} : ∀ {n : Nat}, (∀ k, k < n → ¬ (p k = true ∧ q k = true)) → num (fun k => p k || q k) n = num p n + num q n
  | 0, _ => rfl
  | n + 1, h => by
    have := num_or (n := n) (fun k hk => h k (by omega))
    have h1 := h n (by omega)
    simp only [num, this]
    cases hp : p n <;> cases hq : q n <;> simp [hp, hq] at h1 ⊢ <;> omega

theorem num_drop {p : Nat → Bool} {n j : Nat} (hj : j < n) (hp : p j = true) : num p n = num (fun k => p k && !(k == j)) n + 1 := by
  induction n with
  | zero => omega
  | succ n ih =>
    simp only [num]
    by_cases h : j = n
    · subst h
      have : num (fun k => p k && !(k == j)) j = num p j := num_congr (fun k hk => by
        have : (k == j) = false := by simp; omega
        simp [this])
      simp [this, hp]
    · have : (n == j) = false := by simp; omega
      have := ih (by omega)
      simp only [‹(n == j) = false›, Bool.not_false, Bool.and_true]
      omega

/-- As many, at most, as there are where they go to. -/
theorem num_inj {p q : Nat → Bool} (f : Nat → Nat) {n m : Nat} (hf : ∀ k, k < n → p k = true → f k < m ∧ q (f k) = true) (hi : ∀ k l, k < n → l < n → p k = true → p l = true → f k = f l → k = l) : num p n ≤ num q m := by
  induction n generalizing q with
  | zero => simp [num]
  | succ n ih =>
    simp only [num]
    cases hp : p n with
    | false =>
      simp only [Bool.toNat_false, Nat.add_zero]
      exact ih (fun k hk => hf k (by omega)) (fun k l hk hl => hi k l (by omega) (by omega))
    | true =>
      simp only [Bool.toNat_true]
      obtain ⟨h1, h2⟩ := hf n (by omega) hp
      rw [num_drop h1 h2]
      have := ih (q := fun k => q k && !(k == f n)) (fun k hk hpk => ?_) (fun k l hk hl => hi k l (by omega) (by omega))
      · omega
      · obtain ⟨g1, g2⟩ := hf k (by omega) hpk
        refine ⟨g1, ?_⟩
        have : f k ≠ f n := fun e => by have := hi k n (by omega) (by omega) hpk hp e; omega
        simp [g2, this]

/-! ### What lies behind what -/
def updF {α : Type} (b : Nat → α) (k : Nat) (v : α) : Nat → α := fun j => if j = k then v else b j

theorem updF_same {α : Type} (b : Nat → α) (k : Nat) (v : α) : updF b k v k = v := by simp [updF]
theorem updF_other {α : Type} (b : Nat → α) {k j : Nat} (v : α) (h : j ≠ k) : updF b k v j = b j := by simp [updF, h]

def cnt (b : Nat → Int) (n : Nat) (l : Int) : Nat := num (fun k => b k == l) n
def neg (b : Nat → Int) (n : Nat) : Nat := num (fun k => decide (b k < 0)) n

theorem num_upd {p p' : Nat → Bool} {n k : Nat} (hk : k < n) (h : ∀ j, j ≠ k → p' j = p j) : num p' n + (p k).toNat = num p n + (p' k).toNat := by
  have e1 := num_split p (fun j => j == k) n
  have e2 := num_split p' (fun j => j == k) n
  have e3 : num (fun j => p' j && !(j == k)) n = num (fun j => p j && !(j == k)) n := num_congr (fun j _ => by
    by_cases e : j = k
    · simp [e]
    · rw [h j e])
  have one : ∀ q : Nat → Bool, num (fun j => q j && (j == k)) n = (q k).toNat := fun q => by
    cases hq : q k with
    | false =>
      rw [num_congr (q := fun _ => false) (fun j _ => by
        by_cases e : j = k
        · subst e; simp [hq]
        · simp [e]), num_none]; rfl
    | true =>
      rw [num_drop (j := k) hk (by simp [hq])]
      rw [num_congr (q := fun _ => false) (fun j _ => by cases (j == k) <;> simp), num_none]; rfl
  have h1 := one p
  have h2 := one p'
  omega

theorem toNat_beq (a l : Int) : (a == l).toNat = if a = l then 1 else 0 := by by_cases h : a = l <;> simp [h]
theorem toNat_dec (p : Prop) [Decidable p] : (decide p).toNat = if p then 1 else 0 := by by_cases h : p <;> simp [h]

theorem cnt_upd {b : Nat → Int} {n k : Nat} (hk : k < n) (v l : Int) : cnt (updF b k v) n l + (if b k = l then 1 else 0) = cnt b n l + (if v = l then 1 else 0) := by
  have := num_upd (p := fun j => b j == l) (p' := fun j => updF b k v j == l) hk (fun j hj => by simp [updF_other b v hj])
  simpa only [cnt, updF_same, toNat_beq] using this

theorem neg_upd {b : Nat → Int} {n k : Nat} (hk : k < n) (v : Int) : neg (updF b k v) n + (if b k < 0 then 1 else 0) = neg b n + (if v < 0 then 1 else 0) := by
  have := num_upd (p := fun j => decide (b j < 0)) (p' := fun j => decide (updF b k v j < 0)) hk (fun j hj => by simp [updF_other b v hj])
  simpa only [neg, updF_same, toNat_dec] using this

/-- Whom one lies behind may lie there. -/
def Fits (E : Nat → Nat → Bool) (n : Nat) (b : Nat → Int) : Prop := ∀ k, k < n → 0 ≤ b k → b k < n ∧ E (b k).toNat k = true

/-- A set out of which no edge leads, all of it taken. -/
def Shut (E : Nat → Nat → Bool) (n : Nat) (b : Nat → Int) (Z : Nat → Prop) : Prop := ∀ k, k < n → Z k → 0 ≤ b k ∧ ∀ j, j < n → E (b k).toNat j = true → Z j

/-- What a search from i over the places from k on gives. -/
structure Dfs (E : Nat → Nat → Bool) (n i k : Nat) (b : Nat → Int) (m : Nat → Bool) (r : Bool) (b' : Nat → Int) (m' : Nat → Bool) : Prop where
  met : ∀ j, j < n → m j = true → m' j = true
  kept : ∀ j, j < n → m j = true → b' j = b j
  fits : Fits E n b → Fits E n b'
  no : r = false → (∀ j, j < n → b' j = b j) ∧ (∀ j, k ≤ j → j < n → E i j = true → m' j = true) ∧ ∀ j, j < n → m' j = true → m j = false → 0 ≤ b j ∧ ∀ l, l < n → E (b j).toNat l = true → m' l = true
  yes : r = true → (∀ l : Int, 0 ≤ l → cnt b' n l = cnt b n l + if l = i then 1 else 0) ∧ neg b' n + 1 = neg b n
  shut : ∀ Z, Shut E n b Z → (∀ j, j < n → Z j → b' j = b j) ∧ ((∀ j, k ≤ j → j < n → E i j = true → Z j) → r = false)

section
variable {E : Nat → Nat → Bool} {n i k : Nat} {b b' b1 : Nat → Int} {m m' m1 : Nat → Bool} {r : Bool}

theorem cnt_congr {c : Nat → Int} (h : ∀ j, j < n → b j = c j) (l : Int) : cnt b n l = cnt c n l := num_congr (fun j hj => by rw [h j hj])
theorem neg_congr {c : Nat → Int} (h : ∀ j, j < n → b j = c j) : neg b n = neg c n := num_congr (fun j hj => by rw [h j hj])
theorem Fits.congr {c : Nat → Int} (h : ∀ j, j < n → b j = c j) (hf : Fits E n b) : Fits E n c := fun k hk h0 => by rw [← h k hk] at h0 ⊢; exact hf k hk h0
theorem Shut.congr {c : Nat → Int} {Z : Nat → Prop} (h : ∀ j, j < n → b j = c j) (hf : Shut E n b Z) : Shut E n c Z := fun k hk hz => by rw [← h k hk]; exact hf k hk hz

theorem Dfs.last (h : n ≤ k) : Dfs E n i k b m false b m :=
  ⟨fun _ _ h => h, fun _ _ _ => rfl, id, fun _ => ⟨fun _ _ => rfl, fun j h1 h2 => by omega, fun j _ h1 h2 => by rw [h1] at h2; cases h2⟩, (fun h => (nomatch h)), fun _ _ => ⟨fun _ _ _ => rfl, fun _ => rfl⟩⟩

theorem Dfs.pass (hp : E i k = false ∨ m k = true) (h : Dfs E n i (k + 1) b m r b' m') : Dfs E n i k b m r b' m' := by
  refine ⟨h.met, h.kept, h.fits, fun hr => ?_, h.yes, fun Z hZ => ⟨(h.shut Z hZ).1, fun hh => (h.shut Z hZ).2 (fun j h1 h2 h3 => hh j (by omega) h2 h3)⟩⟩
  obtain ⟨h1, h2, h3⟩ := h.no hr
  refine ⟨h1, fun j hj hjn he => ?_, h3⟩
  by_cases e : j = k
  · subst e
    rcases hp with hp | hp
    · rw [hp] at he; cases he
    · exact h.met j hjn hp
  · exact h2 j (by omega) hjn he

theorem Dfs.free (hk : k < n) (hi : i < n) (he : E i k = true) (hm : m k = false) (hb : b k < 0) : Dfs E n i k b m true (updF b k i) (updF m k true) := by
  refine ⟨fun j hj h => ?_, fun j hj h => ?_, fun hf j hj h0 => ?_, (fun h => (nomatch h)), fun _ => ⟨fun l hl => ?_, ?_⟩, fun Z hZ => ⟨fun j hj hz => ?_, fun hh => ?_⟩⟩
  · by_cases e : j = k
    · subst e; exact updF_same _ _ _
    · rw [updF_other _ _ e]; exact h
  · by_cases e : j = k
    · subst e; rw [hm] at h; cases h
    · exact updF_other _ _ e
  · by_cases e : j = k
    · subst e; rw [updF_same]; exact ⟨by omega, by simpa using he⟩
    · rw [updF_other _ _ e] at h0 ⊢; exact hf j hj h0
  · have := cnt_upd (b := b) hk (i : Int) l
    rw [if_neg (by omega)] at this
    simp only [Nat.add_zero] at this
    rw [this]
    simp only [eq_comm]
  · have := neg_upd (b := b) hk (i : Int)
    rw [if_pos hb, if_neg (by omega)] at this
    omega
  · by_cases e : j = k
    · subst e; have := (hZ j hj hz).1; omega
    · exact updF_other _ _ e
  · have := hZ k hk (hh k (Nat.le_refl _) hk he)
    omega

theorem Dfs.deep (hk : k < n) (hi : i < n) (he : E i k = true) (hm : m k = false) (hb : 0 ≤ b k) (h : Dfs E n (b k).toNat 0 b (updF m k true) true b1 m1) : Dfs E n i k b m true (updF b1 k i) m1 := by
  have hk1 : b1 k = b k := h.kept k hk (updF_same _ _ _)
  have hup : ∀ j, m j = true → updF m k true j = true := fun j hj => by
    by_cases e : j = k
    · subst e; exact updF_same _ _ _
    · rw [updF_other _ _ e]; exact hj
  refine ⟨fun j hj h0 => h.met j hj (hup j h0), fun j hj h0 => ?_, fun hf j hj h0 => ?_, (fun h => (nomatch h)), fun _ => ⟨fun l hl => ?_, ?_⟩, fun Z hZ => ⟨fun j hj hz => ?_, fun hh => ?_⟩⟩
  · have hne : j ≠ k := by intro e; subst e; rw [hm] at h0; cases h0
    rw [updF_other _ _ hne]; exact h.kept j hj (hup j h0)
  · by_cases e : j = k
    · subst e; rw [updF_same]; exact ⟨by omega, by simpa using he⟩
    · rw [updF_other _ _ e] at h0 ⊢; exact h.fits hf j hj h0
  · have h1 := (h.yes rfl).1 l hl
    have h2 := cnt_upd (b := b1) hk (i : Int) l
    rw [hk1] at h2
    have e1 : (if l = ((b k).toNat : Int) then 1 else 0 : Nat) = if b k = l then 1 else 0 := by
      rw [Int.toNat_of_nonneg hb]; simp only [eq_comm]
    have e2 : (if (i : Int) = l then 1 else 0 : Nat) = if l = (i : Int) then 1 else 0 := by simp only [eq_comm]
    rw [e1] at h1
    rw [e2] at h2
    omega
  · have h1 := (h.yes rfl).2
    have h2 := neg_upd (b := b1) hk (i : Int)
    rw [hk1, if_neg (by omega), if_neg (by omega)] at h2
    omega
  · have hz1 := (h.shut Z hZ).1 j hj hz
    by_cases e : j = k
    · subst e
      have : true = false := (h.shut Z hZ).2 (fun l _ hl hel => (hZ j hj hz).2 l hl hel)
      cases this
    · rw [updF_other _ _ e]; exact hz1
  · have hz := hh k (Nat.le_refl _) hk he
    have : true = false := (h.shut Z hZ).2 (fun l _ hl hel => (hZ k hk hz).2 l hl hel)
    cases this

theorem Dfs.back (hk : k < n) (he : E i k = true) (hm : m k = false) (hb : 0 ≤ b k) (h : Dfs E n (b k).toNat 0 b (updF m k true) false b1 m1) (hh : Dfs E n i (k + 1) b1 m1 r b' m') : Dfs E n i k b m r b' m' := by
  have hk1 : m1 k = true := h.met k hk (updF_same _ _ _)
  obtain ⟨g1, g2, g3⟩ := h.no rfl
  have hup : ∀ j, m j = true → updF m k true j = true := fun j hj => by
    by_cases e : j = k
    · subst e; exact updF_same _ _ _
    · rw [updF_other _ _ e]; exact hj
  refine ⟨fun j hj h0 => hh.met j hj (h.met j hj (hup j h0)), fun j hj h0 => ?_, fun hf => hh.fits (h.fits hf), fun hr => ?_, fun hr => ?_, fun Z hZ => ?_⟩
  · rw [hh.kept j hj (h.met j hj (hup j h0)), g1 j hj]
  · obtain ⟨f1, f2, f3⟩ := hh.no hr
    refine ⟨fun j hj => (f1 j hj).trans (g1 j hj), fun j hkj hj hej => ?_, fun j hj h1 h2 => ?_⟩
    · by_cases e : j = k
      · subst e; exact hh.met j hj hk1
      · exact f2 j (by omega) hj hej
    · cases hm1 : m1 j with
      | false =>
        obtain ⟨q1, q2⟩ := f3 j hj h1 hm1
        rw [g1 j hj] at q1 q2
        exact ⟨q1, q2⟩
      | true =>
        by_cases e : j = k
        · subst e
          exact ⟨hb, fun l hl hel => hh.met l hl (g2 l (Nat.zero_le _) hl hel)⟩
        · obtain ⟨q1, q2⟩ := g3 j hj hm1 (by rw [updF_other _ _ e]; exact h2)
          exact ⟨q1, fun l hl hel => hh.met l hl (q2 l hl hel)⟩
  · obtain ⟨f1, f2⟩ := hh.yes hr
    exact ⟨fun l hl => by rw [f1 l hl, cnt_congr g1], by rw [f2, neg_congr g1]⟩
  · obtain ⟨s1, s2⟩ := hh.shut Z (hZ.congr (fun j hj => (g1 j hj).symm))
    exact ⟨fun j hj hz => (s1 j hj hz).trans (g1 j hj), fun h0 => s2 (fun j h1 h2 h3 => h0 j (by omega) h2 h3)⟩
end

/-! ### The whole -/
/-- What there is behind the searches from the first i ones, all of them in turn. -/
structure Part (E : Nat → Nat → Bool) (n i : Nat) (b : Nat → Int) (Z : Nat → Prop) : Prop where
  fits : Fits E n b
  once : ∀ l : Int, 0 ≤ l → cnt b n l ≤ 1
  later : ∀ l : Nat, i ≤ l → cnt b n l = 0
  shut : Shut E n b Z
  lost : ∀ l : Nat, l < i → cnt b n l = 0 → ∀ j, j < n → E l j = true → Z j

theorem Part.start (E : Nat → Nat → Bool) (n : Nat) {b : Nat → Int} (hb : ∀ k, k < n → b k = -1) : Part E n 0 b (fun _ => False) := by
  have z : ∀ l : Int, 0 ≤ l → cnt b n l = 0 := fun l hl => by
    have : cnt b n l = num (fun _ => false) n := num_congr (fun k hk => by rw [hb k hk]; simp; omega)
    rw [this, num_none]
  exact ⟨fun k hk h0 => by rw [hb k hk] at h0; omega, fun l hl => by rw [z l hl]; omega, fun l _ => z l (by omega), fun _ _ h => h.elim, fun l hl => by omega⟩

theorem Part.next {E : Nat → Nat → Bool} {n i : Nat} {b b' : Nat → Int} {m m' : Nat → Bool} {r : Bool} {Z : Nat → Prop} (h : Part E n i b Z) (hm : ∀ k, k < n → m k = false) (hd : Dfs E n i 0 b m r b' m') :
    ∃ Z', Part E n (i + 1) b' Z' ∧ neg b' n + (if r then 1 else 0) = neg b n := by
  cases r with
  | true =>
    obtain ⟨h1, h2⟩ := hd.yes rfl
    obtain ⟨s1, _⟩ := hd.shut Z h.shut
    have hi := h.later i (Nat.le_refl _)
    refine ⟨Z, ⟨hd.fits h.fits, fun l hl => ?_, fun l hl => ?_, fun k hk hz => ?_, fun l hl h0 => ?_⟩, by simpa using h2⟩
    · rw [h1 l hl]
      by_cases e : l = i
      · subst e; rw [hi]; simp
      · rw [if_neg e]; exact h.once l hl
    · rw [h1 l (by omega), if_neg (by omega), h.later l (by omega)]
    · rw [s1 k hk hz]; exact h.shut k hk hz
    · rw [h1 l (by omega)] at h0
      have hne : l ≠ i := by intro e; subst e; simp at h0
      exact h.lost l (by omega) (by omega)
  | false =>
    obtain ⟨h1, h2, h3⟩ := hd.no rfl
    refine ⟨fun k => Z k ∨ m' k = true, ⟨h.fits.congr (fun j hj => (h1 j hj).symm), fun l hl => ?_, fun l hl => ?_, fun k hk hz => ?_, fun l hl h0 j hj hel => ?_⟩, by rw [neg_congr h1]; simp⟩
    · rw [cnt_congr h1]; exact h.once l hl
    · rw [cnt_congr h1]; exact h.later l (by omega)
    · rw [h1 k hk]
      rcases hz with hz | hz
      · obtain ⟨q1, q2⟩ := h.shut k hk hz
        exact ⟨q1, fun j hj he => .inl (q2 j hj he)⟩
      · obtain ⟨q1, q2⟩ := h3 k hk hz (hm k hk)
        exact ⟨q1, fun j hj he => .inr (q2 j hj he)⟩
    · rw [cnt_congr h1] at h0
      by_cases e : l = i
      · subst e; exact .inr (h2 j (Nat.zero_le _) hj hel)
      · exact .inl (h.lost l (by omega) h0 j hj hel)

theorem exists_of_num {p : Nat → Bool} : ∀ {n : Nat}, 0 < num p n → ∃ k, k < n ∧ p k = true
  | 0, h => by simp [num] at h
  | n + 1, h => by
    cases hp : p n with
    | true => exact ⟨n, by omega, hp⟩
    | false =>
      simp only [num, hp, Bool.toNat_false, Nat.add_zero] at h
      obtain ⟨k, h1, h2⟩ := exists_of_num h
      exact ⟨k, by omega, h2⟩

/-- None of them lies within another one. -/
def Apart (E : Nat → Nat → Bool) (n : Nat) (q : Nat → Bool) : Prop := ∀ i j, i < n → j < n → q i = true → q j = true → E i j = false

section
variable {E : Nat → Nat → Bool} {n : Nat} {b : Nat → Int} {Z : Nat → Prop}

theorem cnt_pos {k : Nat} (hk : k < n) : 0 < cnt b n (b k) := by
  unfold cnt
  rw [num_drop (j := k) hk (by simp)]
  omega

theorem Part.inj (h : Part E n n b Z) {j k : Nat} (hj : j < n) (hk : k < n) (h0 : 0 ≤ b j) (e : b j = b k) : j = k := by
  have h1 := h.once (b j) h0
  rcases Nat.decEq j k with hne | he
  · exfalso
    unfold cnt at h1
    rw [num_drop (j := j) hj (by simp)] at h1
    rw [num_drop (j := k) (p := fun i => (b i == b j) && !(i == j)) hk (by simp [e]; omega)] at h1
    omega
  · exact he

/-- There is a set of which none is within another one, as great as there are those that lie behind none. -/
theorem Part.wide (h : Part E n n b Z) : ∃ q, Apart E n q ∧ neg b n ≤ num q n := by
  classical
  let U : Nat → Bool := fun i => cnt b n i == 0
  let W : Nat → Bool := fun i => decide (∃ k, k < n ∧ Z k ∧ b k = (i : Int))
  let Zb : Nat → Bool := fun i => decide (Z i)
  have hUW : ∀ i, i < n → ¬ (U i = true ∧ W i = true) := fun i _ ⟨h1, h2⟩ => by
    simp only [U, W, beq_iff_eq, decide_eq_true_eq] at h1 h2
    obtain ⟨k, hk, _, e⟩ := h2
    have := cnt_pos (b := b) hk
    rw [e] at this
    omega
  have e1 : num (fun i => U i || W i) n = num U n + num W n := num_or hUW
  have e2 : num Zb n ≤ num W n := num_inj (fun k => (b k).toNat) (fun k hk hz => by
      simp only [Zb, decide_eq_true_eq] at hz
      have h1 := h.shut k hk hz
      have h2 := h.fits k hk h1.1
      refine ⟨by omega, ?_⟩
      simp only [W, decide_eq_true_eq]
      exact ⟨k, hk, hz, by omega⟩) (fun k l hk hl hz hz' e => by
      simp only [Zb, decide_eq_true_eq] at hz hz'
      have h1 := (h.shut k hk hz).1
      have h2 := (h.shut l hl hz').1
      exact h.inj hk hl h1 (by omega))
  have e3 := num_split (fun i => U i || W i) Zb n
  have e4 : num (fun i => (U i || W i) && Zb i) n ≤ num Zb n := num_le (fun k _ hk => by simp at hk; exact hk.2)
  have e5 : neg b n ≤ num U n := by
    have h1 := num_not U n
    have h2 := num_not (fun k => decide (b k < 0)) n
    have h3 : num (fun k => !U k) n ≤ num (fun k => !decide (b k < 0)) n := by
      have hex : ∀ i, i < n → U i = false → ∃ k, k < n ∧ b k = (i : Int) := fun i _ hi => by
        have h0 : 0 < cnt b n i := by
          simp only [U, beq_eq_false_iff_ne, ne_eq] at hi
          omega
        obtain ⟨k, h1, h2⟩ := exists_of_num h0
        exact ⟨k, h1, by simpa using h2⟩
      refine num_inj (fun i => if h : ∃ k, k < n ∧ b k = (i : Int) then Classical.choose h else 0) (fun i hi hu => ?_) (fun i j hi hj hu hu' e => ?_)
      · have hx := hex i hi (by simpa using hu)
        simp only [dif_pos hx]
        obtain ⟨g1, g2⟩ := Classical.choose_spec hx
        exact ⟨g1, by simp [g2]⟩
      · have hx := hex i hi (by simpa using hu)
        have hy := hex j hj (by simpa using hu')
        simp only [dif_pos hx, dif_pos hy] at e
        have g1 := (Classical.choose_spec hx).2
        have g2 := (Classical.choose_spec hy).2
        rw [e] at g1
        omega
    unfold neg
    omega
  refine ⟨fun i => (U i || W i) && !Zb i, fun i j hi hj hqi hqj => ?_, by omega⟩
  simp only [Bool.and_eq_true, Bool.or_eq_true, Bool.not_eq_true'] at hqi hqj
  cases he : E i j with
  | false => rfl
  | true =>
    exfalso
    have hz : Z j := by
      rcases hqi.1 with hu | hw
      · exact h.lost i hi (by simpa [U] using hu) j hj he
      · simp only [W, decide_eq_true_eq] at hw
        obtain ⟨k, hk, hz, e⟩ := hw
        have := (h.shut k hk hz).2 j hj
        rw [e] at this
        exact this (by simpa using he)
    have := hqj.2
    simp only [Zb, decide_eq_false_iff_not] at this
    exact this hz

/-- t steps down. -/
inductive Down (b : Nat → Int) (n : Nat) : Nat → Nat → Nat → Prop
  | here (k : Nat) : Down b n k 0 k
  | down {k t r j : Nat} (h : k < n) (hr : r < n) (h1 : b k = (r : Int)) (h2 : Down b n r t j) : Down b n k (t + 1) j

theorem down_root (hf : Fits E n b) (rk : Nat → Nat) (hr : ∀ i k, i < n → k < n → E i k = true → rk i < rk k) : ∀ (m k : Nat), k < n → rk k ≤ m → ∃ t r, Down b n k t r ∧ r < n ∧ b r < 0 := by
  intro m
  induction m with
  | zero =>
    intro k hk hm
    rcases Int.lt_or_le (b k) 0 with h | h
    · exact ⟨0, k, .here k, hk, h⟩
    · obtain ⟨h1, h2⟩ := hf k hk h
      have := hr _ _ (by omega) hk h2
      omega
  | succ m ih =>
    intro k hk hm
    rcases Int.lt_or_le (b k) 0 with h | h
    · exact ⟨0, k, .here k, hk, h⟩
    · obtain ⟨h1, h2⟩ := hf k hk h
      have h3 := hr _ _ (by omega) hk h2
      obtain ⟨t, r, g1, g2, g3⟩ := ih (b k).toNat (by omega) (by omega)
      exact ⟨t + 1, r, .down hk (by omega) (by omega) g1, g2, g3⟩

theorem Down.edge (hf : Fits E n b) (tr : ∀ i j k, i < n → j < n → k < n → E i j = true → E j k = true → E i k = true) {k t j : Nat} (h : Down b n k t j) : j < n → j = k ∨ E j k = true := by
  induction h with
  | here k => intro _; exact .inl rfl
  | @down k t r j h hr h1 h2 ih =>
    intro hj
    obtain ⟨h3, h4⟩ := hf k h (by omega)
    have e : (b k).toNat = r := by omega
    rw [e] at h4
    rcases ih hj with rfl | h5
    · exact .inr h4
    · exact .inr (tr _ _ _ hj hr h h5 h4)

theorem Down.last {k t j : Nat} (h : Down b n k t j) : ∀ v, t = v + 1 → ∃ x, Down b n k v x ∧ x < n ∧ b x = (j : Int) := by
  induction h with
  | here k => intro v h; omega
  | @down k t r j h hr h1 h2 ih =>
    intro v hv
    obtain rfl : t = v := by omega
    cases t with
    | zero => cases h2; exact ⟨k, .here k, h, h1⟩
    | succ t =>
      obtain ⟨x, g1, g2, g3⟩ := ih t rfl
      exact ⟨x, .down h hr h1 g1, g2, g3⟩

/-- Two that come down to the same one lie on one way. -/
theorem Down.meet (hi : ∀ j k, j < n → k < n → 0 ≤ b j → b j = b k → j = k) {i t r : Nat} (h : Down b n i t r) : ∀ {k u : Nat}, Down b n k u r → (∃ v, Down b n i v k) ∨ ∃ v, Down b n k v i := by
  induction h with
  | here i => intro k u h2; exact .inr ⟨_, h2⟩
  | @down i t r' j hil hr' h1 h2 ih =>
    intro k u hku
    rcases ih hku with ⟨v, hv⟩ | ⟨v, hv⟩
    · exact .inl ⟨v + 1, .down hil hr' h1 hv⟩
    · cases v with
      | zero => cases hv; exact .inl ⟨1, .down hil hr' h1 (.here _)⟩
      | succ v =>
        obtain ⟨x, g1, g2, g3⟩ := hv.last v rfl
        have := hi i x hil g2 (by omega) (by omega)
        subst this
        exact .inr ⟨v, g1⟩

/-- No set of which none is within another one is greater. -/
theorem Part.most (h : Part E n n b Z) (rk : Nat → Nat) (hr : ∀ i k, i < n → k < n → E i k = true → rk i < rk k) (tr : ∀ i j k, i < n → j < n → k < n → E i j = true → E j k = true → E i k = true) {q : Nat → Bool} (hq : Apart E n q) : num q n ≤ neg b n := by
  classical
  have hex : ∀ k, k < n → ∃ r, ∃ t, Down b n k t r ∧ r < n ∧ b r < 0 := fun k hk => by
    obtain ⟨t, r, h1⟩ := down_root h.fits rk hr (rk k) k hk (Nat.le_refl _)
    exact ⟨r, t, h1⟩
  refine num_inj (fun k => if h : ∃ r, ∃ t, Down b n k t r ∧ r < n ∧ b r < 0 then Classical.choose h else 0) (fun k hk _ => ?_) (fun i j hi hj hqi hqj e => ?_)
  · have hx := hex k hk
    simp only [dif_pos hx]
    obtain ⟨t, _, g2, g3⟩ := Classical.choose_spec hx
    exact ⟨g2, by simpa using g3⟩
  · have hx := hex i hi
    have hy := hex j hj
    simp only [dif_pos hx, dif_pos hy] at e
    obtain ⟨t, g1, _⟩ := Classical.choose_spec hx
    obtain ⟨u, g2, _⟩ := Classical.choose_spec hy
    rw [e] at g1
    rcases g1.meet (fun j k hj hk h0 e => h.inj hj hk h0 e) g2 with ⟨v, hv⟩ | ⟨v, hv⟩
    · rcases hv.edge h.fits tr hj with rfl | he
      · rfl
      · rw [hq j i hj hi hqj hqi] at he; cases he
    · rcases hv.edge h.fits tr hi with rfl | he
      · rfl
      · rw [hq i j hi hj hqi hqj] at he; cases he
end
end Go.Dn
