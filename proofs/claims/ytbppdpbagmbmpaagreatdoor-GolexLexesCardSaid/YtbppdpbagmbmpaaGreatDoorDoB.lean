import Derived.Test.YtbppdpbagmbmpaaGreatDoorDoA
namespace Go.Dn
open Go
def RecMono (rec : Rec) : Prop := ∀ f rd base c s (K K' : Exit → S → Prop), (∀ e s, K e s → K' e s) → rec f rd base c s K → rec f rd base c s K'
structure EnvMono (E : Env) : Prop where
  call : ∀ f args st (K K' : AV → List Obj → Prop), (∀ a st, K a st → K' a st) → E.call f args st K → E.call f args st K'
  loop : ∀ f k c rd base s (K K' : Exit → S → Prop), (∀ e s, K e s → K' e s) → E.loop f k c rd base s K → E.loop f k c rd base s K'
  rng : ∀ f k g args st (K K' : List Obj → Prop), (∀ st, K st → K' st) → E.rng f k g args st K → E.rng f k g args st K'
theorem inline_mono {E : Env} {rec : Rec} (hr : RecMono rec) {f : FuncId} {args : List AV} {st : List Obj} {K K' : AV → List Obj → Prop} (hK : ∀ a st, K a st → K' a st) (h : inlineA E rec f args st K) : inlineA E rec f args st K' := by
  unfold inlineA at h ⊢
  split at h <;> try exact h.elim
  rename_i fn hfn
  split at h <;> try exact h.elim
  rename_i c hc
  try simp only [hfn]
  try simp only [hc]
  refine hr _ _ _ _ _ _ _ ?_ h
  intro e s hh
  cases e with
  | normal => simp only [] at hh ⊢; split at hh <;> try exact hh.elim
              exact hK _ _ hh
  | ret => simp only [] at hh ⊢; split at hh <;> try exact hh.elim
           exact hK _ _ hh
  | _ => exact hh.elim
theorem table_mono {E : Env} (hE : EnvMono E) {f : FuncId} {args : List AV} {st : List Obj} {K K' : AV → List Obj → Prop} (hK : ∀ a st, K a st → K' a st) (h : tableA E f args st K) : tableA E f args st K' :=
  cnd_mono (fun hh => by
    simp only [frcS_eq, frcA_eq, frcOs_eq] at hh ⊢
    exact hE.call _ _ _ _ _ (fun _ _ hh => hK _ _ hh) hh) h
theorem round_mono {rec : Rec} (hr : RecMono rec) {l : Nat} {args : List AV} {st : List Obj} {K K' : AV → List Obj → Prop} (hK : ∀ a st, K a st → K' a st) (h : roundA rec l args st K) : roundA rec l args st K' := by
  unfold roundA at h ⊢
  split at h <;> try exact h.elim
  rename_i r hl
  try simp only [hl]
  split at h <;> try exact h.elim
  rename_i hc
  try rw [if_pos hc]
  refine hr _ _ _ _ _ _ _ ?_ h
  intro e s hh
  cases e with
  | normal =>
    simp only [] at hh ⊢
    split at hh <;> try exact hh.elim
    split at hh <;> try exact hh.elim
    rename_i hc2
    try rw [if_pos hc2]
    refine hr _ _ _ _ _ _ _ ?_ hh
    intro e2 s2 h2
    cases e2 with
    | normal => simp only [] at h2 ⊢; split at h2 <;> try exact h2.elim
                exact hK _ _ h2
    | ret => simp only [] at h2 ⊢; split at h2 <;> try exact h2.elim
             exact hK _ _ h2
    | exit id => simp only [] at h2 ⊢; split at h2 <;> try exact h2.elim
                 exact hK _ _ h2
    | _ => simp only [] at h2; split at h2 <;> exact h2.elim
  | _ => exact hh.elim
theorem callA_mono {E : Env} (hE : EnvMono E) {rec : Rec} (hr : RecMono rec) {g : AV} {args : List AV} {st : List Obj} {K K' : AV → List Obj → Prop} (hK : ∀ a st, K a st → K' a st) (h : callA E rec g args st K) : callA E rec g args st K' := by
  unfold callA at h ⊢
  split at h <;> try exact h.elim
  · split at h
    · rename_i h1
      try rw [if_pos h1]
      exact inline_mono hr hK h
    · rename_i h1
      try rw [if_neg h1]
      split at h
      · rename_i h2
        try rw [if_pos h2]
        exact table_mono hE hK h
      · rename_i h2
        try rw [if_neg h2]
        split at h <;> try exact h.elim
        exact table_mono hE hK h
  · split at h
    · rename_i t ht
      try simp only [ht]
      unfold yieldA at h ⊢
      split at h <;> try exact h.elim
      rename_i xs as is hl
      try simp only [hl]
      exact cnd_mono (fun ⟨rest, e, h1, h2⟩ => ⟨rest, e, hK _ _ h1, hK _ _ h2⟩) h
    · exact round_mono hr hK h
theorem opD_cong {E : Env} (hE : EnvMono E) {rec : Rec} (hr : RecMono rec) {s1 s2 : S} {o : Op} (hs : Same o s1 s2) (hst : s1.st = s2.st) {d1 d2 : Option Tmp} {K1 K2 : S → Prop}
    (hK : ∀ st a, (clsO E.quiet o < 2 → st = s2.st) → K1 (put { s1 with st := st } d1 a) → K2 (put { s2 with st := st } d2 a)) (h : opD E rec s1 d1 o K1) : opD E rec s2 d2 o K2 := by
  have e1 : ({ s1 with st := s2.st } : S) = s1 := by rw [← hst]
  unfold opD at h ⊢
  split at h
  · rename_i hc
    have hK' : ∀ st a, K1 (put { s1 with st := st } d1 a) → K2 (put { s2 with st := st } d2 a) := fun st a => hK st a (by rw [hc]; omega)
    rw [callee_cong hs, hst] at h
    split at h
    · rename_i g args hcal
      refine callA_mono hE hr (fun a st h => ?_) h
      cases hq : (calmO E.calm o && !litB E g args s2.st) with
      | true => rw [hq] at h; exact ⟨h.1, hK' st a h.2⟩
      | false => rw [hq] at h; exact hK' st a h
    · exact write_cong hs hst hK' h
  · rename_i x hc
    have hlt : clsO E.quiet o < 2 := by
      have : clsO E.quiet o ≤ 2 := by
        cases o with
        | call c =>
          obtain ⟨callee, args, ats⟩ := c
          cases callee with
          | builtin b => cases b <;> simp [clsO]
          | value g =>
            cases g <;> simp only [clsO] <;> try omega
            rename_i f
            cases E.quiet f <;> cases allC args.toList <;> simp
          | invoke r m => simp [clsO]
        | _ => simp [clsO]
      rcases Nat.lt_or_ge (clsO E.quiet o) 2 with h | h
      · exact h
      · exact absurd (Nat.le_antisymm this h) (by intro e; exact hc e)
    rw [read_cong hs hst] at h
    split at h
    · rename_i c a hr
      have := hK s2.st a (fun _ => rfl)
      rw [e1] at this
      exact cnd_mono this h
    · split at h <;> try exact h.elim
      rename_i c a b _
      have hc1 := hs.ev c (by simp [opsOf])
      have ha1 := hs.ev a (by simp [opsOf])
      have hb1 := hs.ev b (by simp [opsOf])
      rw [hc1] at h
      split at h <;> try exact h.elim
      rename_i t ht
      have ht1 : ev s1 c = .lit (.bool t) := hc1.trans ht
      cases t with
      | true =>
        simp only [brn] at h ⊢
        rw [refine_ev ht1, ha1] at h
        rw [refine_ev ht]
        have := hK s2.st (ev s2 a) (fun _ => rfl)
        rw [e1] at this
        exact this h
      | false =>
        simp only [brn] at h ⊢
        rw [refine_ev ht1, hb1] at h
        rw [refine_ev ht]
        have := hK s2.st (ev s2 b) (fun _ => rfl)
        rw [e1] at this
        exact this h
def Looks (ops : List Oper) (o : Oper) (s1 s2 : S) : Prop := ∀ t, looksB ops o t = true → nth s1.regs t = nth s2.regs t
theorem tmpIs_mem {t : Nat} : ∀ {l : List Operand}, Operand.tmp t ∈ l → tmpIs t l = true
  | [], h => by simp at h
  | x :: l, h => by
    simp only [List.mem_cons] at h
    rcases h with rfl | h
    · simp [tmpIs]
    · cases x <;> simp only [tmpIs]
      · rw [tmpIs_mem h]; simp
      all_goals exact tmpIs_mem h
theorem Looks.same {ops : List Oper} {o : Oper} {s1 s2 : S} (h : Looks ops o s1 s2) : Same o.op s1 s2 := ⟨fun x hx => by
  cases x with
  | tmp t => exact h t (by simp [looksB, tmpIs_mem hx])
  | _ => rfl⟩
theorem Looks.guard {ops : List Oper} {o : Oper} {s1 s2 : S} (h : Looks ops o s1 s2) {j : Nat} {b : Bool} {t : Tmp} (hg : o.guard = some (j, b)) (ht : dstOf ops j = some t) : nth s1.regs t = nth s2.regs t :=
  h t (by simp [looksB, hg, ht])
theorem guardK_cong {ops : List Oper} {p1 p2 : S → (S → Prop) → Prop} {o : Oper} {s1 s2 : S} {K1 K2 : S → Prop} (hl : Looks ops o s1 s2) (hp : p1 s1 K1 → p2 s2 K2) (hK : K1 (put s1 o.dst (.tup [])) → K2 (put s2 o.dst (.tup []))) (h : guardK ops p1 o s1 K1) : guardK ops p2 o s2 K2 := by
  unfold guardK at h ⊢
  cases hg : o.guard with
  | none => rw [hg] at h; exact hp h
  | some g =>
    obtain ⟨j, b⟩ := g
    rw [hg] at h
    simp only [] at h ⊢
    cases ht : dstOf ops j with
    | none => rw [ht] at h; exact h.elim
    | some t =>
      rw [ht] at h
      simp only [] at h ⊢
      rw [hl.guard hg ht] at h
      split at h <;> try exact h.elim
      · split at h
        · rename_i h1
          try rw [if_pos h1]
          exact hp h
        · rename_i h1
          try rw [if_neg h1]
          exact hK h
      · exact hK h
theorem stepD_cong {E : Env} (hE : EnvMono E) {rec : Rec} (hr : RecMono rec) {ops : List Oper} {s1 s2 : S} {o : Oper} (hl : Looks ops o s1 s2) (hst : s1.st = s2.st) {K1 K2 : S → Prop}
    (hK : ∀ st a, (clsO E.quiet o.op < 2 → st = s2.st) → K1 (put { s1 with st := st } o.dst a) → K2 (put { s2 with st := st } o.dst a)) (h : stepD E rec ops o s1 K1) : stepD E rec ops o s2 K2 := by
  rw [stepD_guard] at h ⊢
  refine guardK_cong hl (opD_cong hE hr hl.same hst hK) ?_ h
  have := hK s2.st (.tup []) (fun _ => rfl)
  have e1 : ({ s1 with st := s2.st } : S) = s1 := by rw [← hst]
  rw [e1] at this
  exact this
theorem stepD_mono {E : Env} (hE : EnvMono E) {rec : Rec} (hr : RecMono rec) {ops : List Oper} {s : S} {o : Oper} {K1 K2 : S → Prop} (hK : ∀ s, K1 s → K2 s) (h : stepD E rec ops o s K1) : stepD E rec ops o s K2 :=
  stepD_cong hE hr (fun _ _ => rfl) rfl (fun _ _ _ => hK _) h
theorem stepD_val {E : Env} {rec : Rec} {ops : List Oper} {o : Oper} {s : S} {K : S → Prop} (hc : clsO E.quiet o.op < 2) (h : stepD E rec ops o s K) : ∃ a, K (put s o.dst a) ∧ ∀ (s' : S) (K' : S → Prop), Looks ops o s s' → (clsO E.quiet o.op = 1 → Kept s.st s'.st) → K' (put s' o.dst a) → stepD E rec ops o s' K' := by
  rw [stepD_guard] at h
  have hop : ∀ {s : S}, opD E rec s o.dst o.op K → ∃ a, K (put s o.dst a) ∧ ∀ (s' : S) (K' : S → Prop), Same o.op s s' → (clsO E.quiet o.op = 1 → Kept s.st s'.st) → K' (put s' o.dst a) → opD E rec s' o.dst o.op K' := by
    intro s h
    unfold opD at h
    split at h
    · omega
    · have hcong : ∀ s' x, Same o.op s s' → (clsO E.quiet o.op = 1 → Kept s.st s'.st) → readA E s o.op = some x → readA E s' o.op = some x := fun s' x hs hst hx => by
        rcases Nat.eq_zero_or_pos (clsO E.quiet o.op) with e | e
        · rw [← read_cong0 hs e]; exact hx
        · exact read_kept hs (hst (by omega)) hx
      split at h
      · rename_i c a hr
        obtain ⟨hc1, hc2⟩ := cnd_iff.1 h
        refine ⟨a, hc2, fun s' K' hs hst hk => ?_⟩
        unfold opD
        split
        · omega
        · rw [hcong s' _ hs hst hr]; exact cnd_iff.2 ⟨hc1, hk⟩
      · rename_i hr
        generalize hoo : o.op = oo at h
        split at h <;> try exact h.elim
        rename_i c x y
        split at h <;> try exact h.elim
        rename_i t ht
        rw [hoo] at hcong hr
        have hx : ∀ s', Same (.pick c x y) s s' → ev s c = ev s' c ∧ ev s x = ev s' x ∧ ev s y = ev s' y := fun s' hs =>
          ⟨hs.ev c (by simp [opsOf]), hs.ev x (by simp [opsOf]), hs.ev y (by simp [opsOf])⟩
        cases t with
        | true =>
          simp only [brn] at h
          rw [refine_ev ht] at h
          refine ⟨ev s x, h, fun s' K' hs hst hk => ?_⟩
          obtain ⟨e1, e2, _⟩ := hx s' hs
          have hr' : readA E s' (.pick c x y) = none := rfl
          simp only [opD, clsO, hr']
          rw [← e1, ht]
          simp only [brn]
          rw [e1] at ht
          rw [refine_ev ht, ← e2]; exact hk
        | false =>
          simp only [brn] at h
          rw [refine_ev ht] at h
          refine ⟨ev s y, h, fun s' K' hs hst hk => ?_⟩
          obtain ⟨e1, _, e2⟩ := hx s' hs
          have hr' : readA E s' (.pick c x y) = none := rfl
          simp only [opD, clsO, hr']
          rw [← e1, ht]
          simp only [brn]
          rw [e1] at ht
          rw [refine_ev ht, ← e2]; exact hk
  unfold guardK at h
  cases hg : o.guard with
  | none =>
    rw [hg] at h
    obtain ⟨a, h1, h2⟩ := hop h
    refine ⟨a, h1, fun s' K' hl hst hk => ?_⟩
    rw [stepD_guard]
    unfold guardK
    rw [hg]
    exact h2 s' K' hl.same hst hk
  | some g =>
    obtain ⟨j, b⟩ := g
    rw [hg] at h
    simp only [] at h
    cases ht : dstOf ops j with
    | none => rw [ht] at h; exact h.elim
    | some t =>
      rw [ht] at h
      simp only [] at h
      split at h <;> try exact h.elim
      rotate_left
      · rename_i hb
        refine ⟨.tup [], h, fun s' K' hl hst hk => ?_⟩
        rw [stepD_guard]
        unfold guardK
        rw [hg]
        simp only [ht]
        rw [← hl.guard hg ht, hb]
        exact hk
      rename_i bb hb
      split at h
      · rename_i h0
        obtain ⟨a, h1, h2⟩ := hop h
        refine ⟨a, h1, fun s' K' hl hst hk => ?_⟩
        rw [stepD_guard]
        unfold guardK
        rw [hg]
        simp only [ht]
        rw [← hl.guard hg ht, hb]
        simp only []
        rw [if_pos h0]
        exact h2 s' K' hl.same hst hk
      · rename_i h0
        refine ⟨.tup [], h, fun s' K' hl hst hk => ?_⟩
        rw [stepD_guard]
        unfold guardK
        rw [hg]
        simp only [ht]
        rw [← hl.guard hg ht, hb]
        simp only []
        rw [if_neg h0]
        exact hk
end Go.Dn
