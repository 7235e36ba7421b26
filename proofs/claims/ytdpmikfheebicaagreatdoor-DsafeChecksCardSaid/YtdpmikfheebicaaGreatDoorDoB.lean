import Derived.Test.YtdpmikfheebicaaGreatDoorDoA
namespace Go.Dn
open Go
def fb (rec : Rec) : Prop := ∀ f rd base c s (K K' : Exit → S → Prop), (∀ e s, K e s → K' e s) → rec f rd base c s K → rec f rd base c s K'
structure ai (E : Env) : Prop where
 call : ∀ f args st (K K' : AV → List Obj → Prop), (∀ a st, K a st → K' a st) → E.call f args st K → E.call f args st K'
 loop : ∀ f k c rd base s (K K' : Exit → S → Prop), (∀ e s, K e s → K' e s) → E.loop f k c rd base s K → E.loop f k c rd base s K'
 sM : ∀ f k g args st (K K' : List Obj → Prop), (∀ st, K st → K' st) → E.sM f k g args st K → E.sM f k g args st K'
theorem sk {E : Env} {rec : Rec} (hr : fb rec) {f : FuncId} {args : List AV} {st : List Obj} {K K' : AV → List Obj → Prop} (hK : ∀ a st, K a st → K' a st) (h : lR E rec f args st K) : lR E rec f args st K' := by
 unfold lR at h ⊢
 split at h <;> try exact h.elim
 rename_i fn hfn
 split at h <;> try exact h.elim
 rename_i c hc
 try simp only [hfn]
 try simp only [hc]
 refine hr _ _ _ _ _ _ _ ?_ h
 intro e s hh
 cases e with
 | normal =>
  simp only [] at hh ⊢; split at hh <;> try exact hh.elim
  exact hK _ _ hh
 | ret =>
  simp only [] at hh ⊢; split at hh <;> try exact hh.elim
  exact hK _ _ hh
 | _ => exact hh.elim
theorem uI {E : Env} (hE : ai E) {f : FuncId} {args : List AV} {st : List Obj} {K K' : AV → List Obj → Prop} (hK : ∀ a st, K a st → K' a st) (h : qX E f args st K) : qX E f args st K' :=
 dF (fun hh => by
  simp only [l7, n6, kV] at hh ⊢
  exact hE.call _ _ _ _ _ (fun _ _ hh => hK _ _ hh) hh) h
theorem BP {rec : Rec} (hr : fb rec) {l : Nat} {args : List AV} {st : List Obj} {K K' : AV → List Obj → Prop} (hK : ∀ a st, K a st → K' a st) (h : j7 rec l args st K) : j7 rec l args st K' := by
 unfold j7 at h ⊢
 split at h <;> try exact h.elim
 rename_i r hl
 try simp only [hl]
 split at h <;> try exact h.elim
 rename_i hc
 try rw [if_pos hc]
 refine hr _ _ _ _ _ _ _ ?_ h
 intro e s hh
 cases e with
 | normal =>
  simp only [] at hh ⊢
  split at hh <;> try exact hh.elim
  split at hh <;> try exact hh.elim
  rename_i hc2
  try rw [if_pos hc2]
  refine hr _ _ _ _ _ _ _ ?_ hh
  intro e2 s2 h2
  cases e2 with
  | normal =>
   simp only [] at h2 ⊢; split at h2 <;> try exact h2.elim
   exact hK _ _ h2
  | ret =>
   simp only [] at h2 ⊢; split at h2 <;> try exact h2.elim
   exact hK _ _ h2
  | exit id =>
   simp only [] at h2 ⊢; split at h2 <;> try exact h2.elim
   exact hK _ _ h2
  | _ => simp only [] at h2; split at h2 <;> exact h2.elim
 | _ => exact hh.elim
theorem tG {E : Env} (hE : ai E) {rec : Rec} (hr : fb rec) {g : AV} {args : List AV} {st : List Obj} {K K' : AV → List Obj → Prop} (hK : ∀ a st, K a st → K' a st) (h : sj E rec g args st K) : sj E rec g args st K' := by
 unfold sj at h ⊢
 split at h <;> try exact h.elim
 ·split at h
  ·rename_i h1
   try rw [if_pos h1]
   exact sk hr hK h
  ·rename_i h1
   try rw [if_neg h1]
   split at h
   ·rename_i h2
    try rw [if_pos h2]
    exact uI hE hK h
   ·rename_i h2
    try rw [if_neg h2]
    split at h <;> try exact h.elim
    exact uI hE hK h
 ·split at h
  ·rename_i t ht
   try simp only [ht]
   unfold xZ at h ⊢
   split at h <;> try exact h.elim
   rename_i xs as is hl
   try simp only [hl]
   exact dF (fun ⟨rest, e, h1, h2⟩ => ⟨rest, e, hK _ _ h1, hK _ _ h2⟩) h
  ·exact BP hr hK h
theorem GG {E : Env} (hE : ai E) {rec : Rec} (hr : fb rec) {s1 s2 : S} {o : Op} (hs : tK o s1 s2) (hst : s1.st = s2.st) {d1 d2 : Option Tmp} {K1 K2 : S → Prop}
  (hK : ∀ st a, (eU E.quiet o < 2 → st = s2.st) → K1 (put { s1 with st := st } d1 a) → K2 (put { s2 with st := st } d2 a)) (h : w7 E rec s1 d1 o K1) : w7 E rec s2 d2 o K2 := by
 have e1 : ({ s1 with st := s2.st } : S) = s1 := by rw [← hst]
 unfold w7 at h ⊢
 split at h
 ·rename_i hc
  have hK' : ∀ st a, K1 (put { s1 with st := st } d1 a) → K2 (put { s2 with st := st } d2 a) := fun st a => hK st a (by rw [hc]; omega)
  rw [Ax hs, hst] at h
  split at h
  ·rename_i g args hcal
   exact tG hE hr (fun a st => hK' st a) h
  ·exact vD hs hst hK' h
 ·rename_i x hc
  have hlt : eU E.quiet o < 2 := by
   have : eU E.quiet o ≤ 2 := by
    cases o with
    | call c =>
     obtain ⟨callee, args, ats⟩ := c
     cases callee with
     | builtin b => cases b <;> simp [eU]
     | value g =>
      cases g <;> simp only [eU] <;> try omega
      rename_i f
      cases E.quiet f <;> simp
     | invoke r m => simp [eU]
    | _ => simp [eU]
   rcases Nat.lt_or_ge (eU E.quiet o) 2 with h | h
   ·exact h
   ·exact absurd (Nat.le_antisymm this h) (by intro e; exact hc e)
  rw [xr hs hst] at h
  split at h
  ·rename_i c a hr
   have := hK s2.st a (fun _ => rfl)
   rw [e1] at this
   exact dF this h
  ·split at h <;> try exact h.elim
   rename_i c a b _
   have hc1 := hs.ev c (by simp [opsOf])
   have ha1 := hs.ev a (by simp [opsOf])
   have hb1 := hs.ev b (by simp [opsOf])
   rw [hc1] at h
   split at h <;> try exact h.elim
   rename_i t ht
   have ht1 : ev s1 c = .lit (.bool t) := hc1.trans ht
   cases t with
   | true =>
    simp only [ax] at h ⊢
    rw [ep ht1, ha1] at h
    rw [ep ht]
    have := hK s2.st (ev s2 a) (fun _ => rfl)
    rw [e1] at this
    exact this h
   | false =>
    simp only [ax] at h ⊢
    rw [ep ht1, hb1] at h
    rw [ep ht]
    have := hK s2.st (ev s2 b) (fun _ => rfl)
    rw [e1] at this
    exact this h
def Looks (ops : List Oper) (o : Oper) (s1 s2 : S) : Prop := ∀ t, zn ops o t = true → nth s1.bf t = nth s2.bf t
theorem rB {t : Nat} : ∀ {l : List Operand}, Operand.tmp t ∈ l → xy t l = true
 | [], h => by simp at h
 | x :: l, h => by
  simp only [List.mem_cons] at h
  rcases h with rfl | h
  ·simp [xy]
  ·cases x <;> simp only [xy]
   ·rw [rB h]; simp
   all_goals exact rB h
theorem Looks.same {ops : List Oper} {o : Oper} {s1 s2 : S} (h : Looks ops o s1 s2) : tK o.op s1 s2 := ⟨fun x hx => by
 cases x with
 | tmp t => exact h t (by simp [zn, rB hx])
 | _ => rfl⟩
theorem Looks.guard {ops : List Oper} {o : Oper} {s1 s2 : S} (h : Looks ops o s1 s2) {j : Nat} {b : Bool} {t : Tmp} (hg : o.guard = some (j, b)) (ht : kI ops j = some t) : nth s1.bf t = nth s2.bf t :=
 h t (by simp [zn, hg, ht])
theorem kt {ops : List Oper} {p1 p2 : S → (S → Prop) → Prop} {o : Oper} {s1 s2 : S} {K1 K2 : S → Prop} (hl : Looks ops o s1 s2) (hp : p1 s1 K1 → p2 s2 K2) (hK : K1 (put s1 o.dst (.bR [])) → K2 (put s2 o.dst (.bR []))) (h : iq ops p1 o s1 K1) : iq ops p2 o s2 K2 := by
 unfold iq at h ⊢
 cases hg : o.guard with
 | none => rw [hg] at h; exact hp h
 | some g =>
  obtain ⟨j, b⟩ := g
  rw [hg] at h
  simp only [] at h ⊢
  cases ht : kI ops j with
  | none => rw [ht] at h; exact h.elim
  | some t =>
   rw [ht] at h
   simp only [] at h ⊢
   rw [hl.guard hg ht] at h
   split at h <;> try exact h.elim
   ·split at h
    ·rename_i h1
     try rw [if_pos h1]
     exact hp h
    ·rename_i h1
     try rw [if_neg h1]
     exact hK h
   ·exact hK h
theorem pr {E : Env} (hE : ai E) {rec : Rec} (hr : fb rec) {ops : List Oper} {s1 s2 : S} {o : Oper} (hl : Looks ops o s1 s2) (hst : s1.st = s2.st) {K1 K2 : S → Prop}
  (hK : ∀ st a, (eU E.quiet o.op < 2 → st = s2.st) → K1 (put { s1 with st := st } o.dst a) → K2 (put { s2 with st := st } o.dst a)) (h : dX E rec ops o s1 K1) : dX E rec ops o s2 K2 := by
 rw [eD] at h ⊢
 refine kt hl (GG hE hr hl.same hst hK) ?_ h
 have := hK s2.st (.bR []) (fun _ => rfl)
 have e1 : ({ s1 with st := s2.st } : S) = s1 := by rw [← hst]
 rw [e1] at this
 exact this
theorem dQ {E : Env} (hE : ai E) {rec : Rec} (hr : fb rec) {ops : List Oper} {s : S} {o : Oper} {K1 K2 : S → Prop} (hK : ∀ s, K1 s → K2 s) (h : dX E rec ops o s K1) : dX E rec ops o s K2 :=
 pr hE hr (fun _ _ => rfl) rfl (fun _ _ _ => hK _) h
theorem od {E : Env} {rec : Rec} {ops : List Oper} {o : Oper} {s : S} {K : S → Prop} (hc : eU E.quiet o.op < 2) (h : dX E rec ops o s K) : ∃ a, K (put s o.dst a) ∧ ∀ (s' : S) (K' : S → Prop), Looks ops o s s' → (eU E.quiet o.op = 1 → Kept s.st s'.st) → K' (put s' o.dst a) → dX E rec ops o s' K' := by
 rw [eD] at h
 have hop : ∀ {s : S}, w7 E rec s o.dst o.op K → ∃ a, K (put s o.dst a) ∧ ∀ (s' : S) (K' : S → Prop), tK o.op s s' → (eU E.quiet o.op = 1 → Kept s.st s'.st) → K' (put s' o.dst a) → w7 E rec s' o.dst o.op K' := by
  intro s h
  unfold w7 at h
  split at h
  ·omega
  ·have hcong : ∀ s' x, tK o.op s s' → (eU E.quiet o.op = 1 → Kept s.st s'.st) → bO E s o.op = some x → bO E s' o.op = some x := fun s' x hs hst hx => by
    rcases Nat.eq_zero_or_pos (eU E.quiet o.op) with e | e
    ·rw [← BZ hs e]; exact hx
    ·exact Gr hs (hst (by omega)) hx
   split at h
   ·rename_i c a hr
    obtain ⟨hc1, hc2⟩ := aq.1 h
    refine ⟨a, hc2, fun s' K' hs hst hk => ?_⟩
    unfold w7
    split
    ·omega
    ·rw [hcong s' _ hs hst hr]; exact aq.2 ⟨hc1, hk⟩
   ·rename_i hr
    generalize hoo : o.op = oo at h
    split at h <;> try exact h.elim
    rename_i c x y
    split at h <;> try exact h.elim
    rename_i t ht
    rw [hoo] at hcong hr
    have hx : ∀ s', tK (.pick c x y) s s' → ev s c = ev s' c ∧ ev s x = ev s' x ∧ ev s y = ev s' y := fun s' hs =>
     ⟨hs.ev c (by simp [opsOf]), hs.ev x (by simp [opsOf]), hs.ev y (by simp [opsOf])⟩
    cases t with
    | true =>
     simp only [ax] at h
     rw [ep ht] at h
     refine ⟨ev s x, h, fun s' K' hs hst hk => ?_⟩
     obtain ⟨e1, e2, _⟩ := hx s' hs
     have hr' : bO E s' (.pick c x y) = none := rfl
     simp only [w7, eU, hr']
     rw [← e1, ht]
     simp only [ax]
     rw [e1] at ht
     rw [ep ht, ← e2]; exact hk
    | false =>
     simp only [ax] at h
     rw [ep ht] at h
     refine ⟨ev s y, h, fun s' K' hs hst hk => ?_⟩
     obtain ⟨e1, _, e2⟩ := hx s' hs
     have hr' : bO E s' (.pick c x y) = none := rfl
     simp only [w7, eU, hr']
     rw [← e1, ht]
     simp only [ax]
     rw [e1] at ht
     rw [ep ht, ← e2]; exact hk
 unfold iq at h
 cases hg : o.guard with
 | none =>
  rw [hg] at h
  obtain ⟨a, h1, h2⟩ := hop h
  refine ⟨a, h1, fun s' K' hl hst hk => ?_⟩
  rw [eD]
  unfold iq
  rw [hg]
  exact h2 s' K' hl.same hst hk
 | some g =>
  obtain ⟨j, b⟩ := g
  rw [hg] at h
  simp only [] at h
  cases ht : kI ops j with
  | none => rw [ht] at h; exact h.elim
  | some t =>
   rw [ht] at h
   simp only [] at h
   split at h <;> try exact h.elim
   rotate_left
   ·rename_i hb
    refine ⟨.bR [], h, fun s' K' hl hst hk => ?_⟩
    rw [eD]
    unfold iq
    rw [hg]
    simp only [ht]
    rw [← hl.guard hg ht, hb]
    exact hk
   rename_i bb hb
   split at h
   ·rename_i h0
    obtain ⟨a, h1, h2⟩ := hop h
    refine ⟨a, h1, fun s' K' hl hst hk => ?_⟩
    rw [eD]
    unfold iq
    rw [hg]
    simp only [ht]
    rw [← hl.guard hg ht, hb]
    simp only []
    rw [if_pos h0]
    exact h2 s' K' hl.same hst hk
   ·rename_i h0
    refine ⟨.bR [], h, fun s' K' hl hst hk => ?_⟩
    rw [eD]
    unfold iq
    rw [hg]
    simp only [ht]
    rw [← hl.guard hg ht, hb]
    simp only []
    rw [if_neg h0]
    exact hk
end Go.Dn
