import Derived.Test.YtdpmikfheebicaaGreatDoorDnZ
namespace Go.Dn
open Go
structure tK (o : Op) (s1 s2 : S) : Prop where
 ev : ∀ x, x ∈ opsOf o → ev s1 x = ev s2 x
theorem gp {s1 s2 : S} : ∀ {l : List Operand}, (∀ x, x ∈ l → ev s1 x = ev s2 x) → oR s1 l = oR s2 l
 | [], _ => rfl
 | x :: l, h => by
  simp only [oR]
  rw [h x (by simp), gp (fun y hy => h y (by simp [hy]))]
theorem ir {s1 s2 : S} : ∀ {l : List (Nat × Operand)}, (∀ x, x ∈ l.map (·.2) → ev s1 x = ev s2 x) → eY s1 l = eY s2 l
 | [], _ => rfl
 | (i, x) :: l, h => by
  simp only [eY]
  rw [h x (by simp), ir (fun y hy => h y (by simp at hy ⊢; exact .inr hy))]
theorem sv {s1 s2 : S} {o : Option Operand} {d : Nat} (h : ∀ x, x ∈ yp o → ev s1 x = ev s2 x) : fD s1 o d = fD s2 o d := by
 cases o with
 | none => rfl
 | some x => simp only [fD]; rw [h x (by simp [yp])]
theorem xr {E : Env} {s1 s2 : S} {o : Op} (h : tK o s1 s2) (hst : s1.st = s2.st) : bO E s1 o = bO E s2 o := by
 have he := h.ev
 cases o with
 | move x => simp only [bO]; rw [he x (by simp [opsOf])]
 | assign x => simp only [bO]; rw [he x (by simp [opsOf])]
 | load T x => simp only [bO]; rw [he x (by simp [opsOf]), hst]
 | nilCheck x => simp only [bO]; rw [he x (by simp [opsOf]), hst]
 | binOp op T x y T' => simp only [bO]; rw [he x (by simp [opsOf]), he y (by simp [opsOf])]
 | unOp op T x => simp only [bO]; rw [he x (by simp [opsOf])]
 | makeInterface T x => simp only [bO]; rw [he x (by simp [opsOf])]
 | convert S T x => simp only [bO]; rw [he x (by simp [opsOf])]
 | slice T x lo hi m =>
  cases m with
  | some m => rfl
  | none =>
   simp only [bO, o4]
   rw [he x (by simp [opsOf]), hst]
   simp only [sv (s1 := s1) (s2 := s2) (o := lo) (fun y hy => he y (by simp [opsOf, hy])), sv (s1 := s1) (s2 := s2) (o := hi) (fun y hy => he y (by simp [opsOf, hy]))]
 | fieldAddr T x f => simp only [bO]; rw [he x (by simp [opsOf]), hst]
 | field T x f => simp only [bO]; rw [he x (by simp [opsOf])]
 | indexAddr T x i => simp only [bO, gZ]; rw [he x (by simp [opsOf]), he i (by simp [opsOf]), hst]
 | index T x i => simp only [bO]; rw [he x (by simp [opsOf]), he i (by simp [opsOf])]
 | lookup T m k ok => simp only [bO, lS]; rw [he m (by simp [opsOf]), he k (by simp [opsOf]), hst]
 | extract x i => simp only [bO]; rw [he x (by simp [opsOf])]
 | makeFunc fn first caps =>
  cases fn with
  | func f => simp only [bO]; rw [gp (fun x hx => he x (by simpa [opsOf] using hx))]
  | _ => rfl
 | build T parts => simp only [bO]; rw [ir (fun x hx => he x (by simpa only [opsOf] using hx))]
 | call c =>
  obtain ⟨callee, args, ats⟩ := c
  cases callee with
  | builtin b =>
   have := gp (s1 := s1) (s2 := s2) (l := args.toList) (fun x hx => he x (by simpa only [opsOf] using hx))
   cases b <;> first | rfl | (simp only [bO]; rw [this]; done) | (simp only [bO]; rw [this, hst])
  | value g =>
   have := gp (s1 := s1) (s2 := s2) (l := args.toList) (fun x hx => he x (by simp only [opsOf, List.mem_cons]; exact .inr hx))
   cases g <;> first | rfl | (simp only [bO]; rw [this, hst])
  | invoke r m => rfl
 | _ => rfl
def Kept (st st' : List Obj) : Prop := ∀ i, aD st i = .dead ∨ aD st' i = aD st i
theorem Kept.refl (st : List Obj) : Kept st st := fun _ => .inr rfl
theorem Kept.app (st l : List Obj) : Kept st (st ++ l) := fun i => by
 rcases Nat.lt_or_ge i st.length with h | h
 ·exact .inr (dD _ _ _ h)
 ·exact .inl (dY _ _ h)
theorem Kept.iE {st st' : List Obj} (h : Kept st st') {i : Nat} {x : TypeId × List AV} (he : iE (aD st i) = some x) : iE (aD st' i) = some x := by
 rcases h i with e | e
 ·rw [e] at he; cases he
 ·rw [e]; exact he
theorem Kept.live {st st' : List Obj} (h : Kept st st') {i : Nat} (he : pP st i = true) : pP st' i = true := by
 unfold pP at he ⊢
 rcases h i with e | e
 ·rw [e] at he; cases he
 ·rw [e]; exact he
mutual
theorem pf {st st' : List Obj} (h : Kept st st') : ∀ (a b : AV), b7 st a = some b → b7 st' a = some b
 | .lit v, b, e => by simpa only [b7] using e
 | .ae T l, b, e => by simpa only [b7] using e
 | .a7 i lo n, b, e => by
  simp only [b7] at e ⊢
  split at e
  ·rename_i T xs hx
   rw [h.iE hx]; exact e
  ·cases e
 | .agg l, b, e => by
  simp only [b7] at e ⊢
  cases hl : jC st l with
  | none => rw [hl] at e; cases e
  | some m => rw [hl] at e; rw [vg h l m hl]; exact e
 | .jH T a, b, e => by simpa only [b7] using e
 | .jb T a, b, e => by
  simp only [b7] at e ⊢
  cases ha : b7 st a with
  | none => rw [ha] at e; cases e
  | some m => rw [ha] at e; rw [pf h a m ha]; exact e
 | .dq f caps, b, e => by
  cases caps with
  | nil => simpa only [b7] using e
  | cons x l => simp [b7] at e
 | .ptr _ _ _ _, b, e => by simp [b7] at e
 | .mp _, b, e => by simp [b7] at e
 | .bR _, b, e => by simp [b7] at e
 | .cw, b, e => by simp [b7] at e
 | .dv _, b, e => by simp [b7] at e
 | .kr _ _, b, e => by simp [b7] at e
theorem vg {st st' : List Obj} (h : Kept st st') : ∀ (l m : List AV), jC st l = some m → jC st' l = some m
 | [], m, e => by simpa only [jC] using e
 | a :: l, m, e => by
  simp only [jC] at e ⊢
  cases ha : b7 st a with
  | none => rw [ha] at e; cases e
  | some b =>
   cases hl : jC st l with
   | none => rw [ha, hl] at e; cases e
   | some k => rw [ha, hl] at e; rw [pf h a b ha, vg h l k hl]; exact e
end
theorem oG {st st' : List Obj} (h : Kept st st') : ∀ (l m : List AV), fq st l = some m → fq st' l = some m
 | [], m, e => by simpa only [fq] using e
 | a :: l, m, e => by
  simp only [fq] at e ⊢
  cases ha : b7 st a with
  | none => rw [ha] at e; cases e
  | some b =>
   cases hl : fq st l with
   | none => rw [ha, hl] at e; cases e
   | some k => rw [ha, hl] at e; rw [pf h a b ha, oG h l k hl]; exact e
theorem CV {P : Program} {st st' : List Obj} (h : Kept st st') {T : TypeId} {a : AV} {x : Bool × AV} (e : nt P st T a = some x) : nt P st' T a = some x := by
 cases a <;> try exact e
 rename_i i k p off
 rcases h i with e2 | e2
 ·simp only [nt, e2] at e; cases e
 ·simp only [nt, e2] at e ⊢; exact e
theorem Gt {P : Program} {st st' : List Obj} (h : Kept st st') {T : TypeId} {a x : AV} (e : yn P st T a = some x) : yn P st' T a = some x := by
 unfold yn at e ⊢
 split at e <;> try exact e
 ·rename_i i _
  rcases h i with e2 | e2
  ·rw [e2] at e; cases e
  ·rw [e2]; exact e
 ·rename_i i _ _ _
  rcases h i with e2 | e2
  ·rw [e2] at e; cases e
  ·rw [e2]; exact e
theorem uk {P : Program} {st st' : List Obj} (h : Kept st st') {T : TypeId} {a : AV} {f : Nat} {x : Bool × AV} (e : iI P st T a f = some x) : iI P st' T a f = some x := by
 unfold iI at e ⊢
 split at e
 ·cases e
 ·split at e
  ·cases e
  ·rename_i h1
   rw [if_neg h1]
   split at e
   ·split at e
    ·rename_i h2
     rw [if_pos (h.live h2)]; exact e
    ·cases e
   ·exact e
   ·cases e
theorem zZ {P : Program} {s s' : S} (h : Kept s.st s'.st) {T : TypeId} {a : AV} {lo hi : Option Operand} (h1 : ∀ d, fD s lo d = fD s' lo d) (h2 : ∀ d, fD s hi d = fD s' hi d) {x : Bool × AV} (e : o4 P s T a lo hi = some x) : o4 P s' T a lo hi = some x := by
 unfold o4 at e ⊢
 simp only [← h1, ← h2]
 split at e <;> try exact e
 cases hx : iE (aD s.st _) with
 | none => rw [hx] at e; split at e <;> first | cases e | simp_all
 | some y => rw [hx] at e; rw [h.iE hx]; exact e
theorem u0 {P : Program} {s s' : S} (h : Kept s.st s'.st) {T : TypeId} {a i : AV} {x : Bool × AV} (e : gZ P s T a i = some x) : gZ P s' T a i = some x := by
 unfold gZ at e ⊢
 split at e <;> try exact e
 split at e <;> try exact e
 split at e
 ·rename_i hx
  rw [h.iE hx]; exact e
 ·cases e
theorem zI {P : Program} {s s' : S} (h : Kept s.st s'.st) {T : TypeId} {m k : AV} {ok : Bool} {x : Bool × AV} (e : lS P s T m k ok = some x) : lS P s' T m k ok = some x := by
 unfold lS at e ⊢
 split at e <;> try exact e
 split at e <;> try exact e
 rename Nat => i
 rcases h i with e2 | e2
 ·rw [e2] at e; cases e
 ·rw [e2]; exact e
theorem Gr {E : Env} {s1 s2 : S} {o : Op} (h : tK o s1 s2) (hk : Kept s1.st s2.st) {x : Bool × AV} (e : bO E s1 o = some x) : bO E s2 o = some x := by
 have he := h.ev
 have e0 : bO E { s2 with st := s1.st } o = some x := by
  rw [← e]
  exact (xr (s1 := s1) (s2 := { s2 with st := s1.st }) ⟨fun y hy => by rw [he y hy]; cases y <;> rfl⟩ rfl).symm
 cases o with
 | load T y =>
  simp only [bO] at e0 ⊢
  have e1 : ev { s2 with st := s1.st } y = ev s2 y := by cases y <;> rfl
  rw [e1] at e0
  split at e0
  ·exact e0
  ·exact CV hk e0
 | nilCheck y =>
  simp only [bO] at e0 ⊢
  have e1 : ev { s2 with st := s1.st } y = ev s2 y := by cases y <;> rfl
  rw [e1] at e0
  split at e0 <;> try exact e0
  split at e0
  ·rename_i h2
   rw [if_pos (hk.live h2)]; exact e0
  ·cases e0
 | slice T y lo hi m =>
  cases m with
  | some m => exact e0
  | none =>
   simp only [bO] at e0 ⊢
   have e1 : ev { s2 with st := s1.st } y = ev s2 y := by cases y <;> rfl
   rw [e1] at e0
   have hb : ∀ (o : Option Operand) d, fD { s2 with st := s1.st } o d = fD s2 o d := fun o d => by
    cases o with
    | none => rfl
    | some y => cases y <;> rfl
   exact zZ (s := { s2 with st := s1.st }) hk (hb lo) (hb hi) e0
 | fieldAddr T y f =>
  simp only [bO] at e0 ⊢
  have e1 : ev { s2 with st := s1.st } y = ev s2 y := by cases y <;> rfl
  rw [e1] at e0
  exact uk hk e0
 | indexAddr T y i =>
  simp only [bO] at e0 ⊢
  have e1 : ∀ y, ev { s2 with st := s1.st } y = ev s2 y := fun y => by cases y <;> rfl
  rw [e1, e1] at e0
  exact u0 (s := { s2 with st := s1.st }) hk e0
 | lookup T m k ok =>
  simp only [bO] at e0 ⊢
  have e1 : ∀ y, ev { s2 with st := s1.st } y = ev s2 y := fun y => by cases y <;> rfl
  rw [e1, e1] at e0
  exact zI (s := { s2 with st := s1.st }) hk e0
 | call c =>
  obtain ⟨callee, args, ats⟩ := c
  have e1 : ∀ l, oR { s2 with st := s1.st } l = oR s2 l := fun l => gp fun y _ => by cases y <;> rfl
  cases callee with
  | builtin b =>
   cases b <;> try (simp only [bO, e1] at e0 ⊢; exact e0)
   simp only [bO, e1] at e0 ⊢
   split at e0 <;> try exact e0
   split at e0
   ·rename_i hx
    rw [Gt hk hx]; exact e0
   ·cases e0
  | value g =>
   cases g <;> try (simp only [bO] at e0 ⊢; exact e0)
   simp only [bO, e1] at e0 ⊢
   split at e0
   ·rename_i hx
    rw [oG hk _ _ hx]; exact e0
   ·cases e0
  | invoke r m => exact e0
 | makeFunc fn first caps =>
  have e1 : ∀ l, oR { s2 with st := s1.st } l = oR s2 l := fun l => gp fun y _ => by cases y <;> rfl
  cases fn <;> try (simp only [bO] at e0 ⊢; exact e0)
  simp only [bO, e1] at e0 ⊢; exact e0
 | build T parts =>
  have e1 : ∀ l, eY { s2 with st := s1.st } l = eY s2 l := fun l => ir fun y _ => by cases y <;> rfl
  simp only [bO, e1] at e0 ⊢; exact e0
 | _ =>
  have e1 : ∀ y, ev { s2 with st := s1.st } y = ev s2 y := fun y => by cases y <;> rfl
  simp only [bO, e1] at e0 ⊢; exact e0
theorem BZ {E : Env} {s1 s2 : S} {o : Op} (h : tK o s1 s2) (hc : eU E.quiet o = 0) : bO E s1 o = bO E s2 o := by
 have he := h.ev
 cases o with
 | move x => simp only [bO]; rw [he x (by simp [opsOf])]
 | assign x => simp only [bO]; rw [he x (by simp [opsOf])]
 | binOp op T x y T' => simp only [bO]; rw [he x (by simp [opsOf]), he y (by simp [opsOf])]
 | unOp op T x => simp only [bO]; rw [he x (by simp [opsOf])]
 | makeInterface T x => simp only [bO]; rw [he x (by simp [opsOf])]
 | convert S T x => simp only [bO]; rw [he x (by simp [opsOf])]
 | extract x i => simp only [bO]; rw [he x (by simp [opsOf])]
 | makeFunc fn first caps =>
  cases fn with
  | func f => simp only [bO]; rw [gp (fun x hx => he x (by simpa [opsOf] using hx))]
  | _ => rfl
 | pick c a b => rfl
 | load T x => simp [eU] at hc
 | nilCheck x => simp [eU] at hc
 | slice T x lo hi m => simp [eU] at hc
 | fieldAddr T x f => simp [eU] at hc
 | field T x f => simp only [bO]; rw [he x (by simp [opsOf])]
 | indexAddr T x i => simp [eU] at hc
 | index T x i => simp only [bO]; rw [he x (by simp [opsOf]), he i (by simp [opsOf])]
 | lookup T m k ok => simp [eU] at hc
 | build T parts => simp only [bO]; rw [ir (fun x hx => he x (by simpa only [opsOf] using hx))]
 | call c =>
  obtain ⟨callee, args, ats⟩ := c
  cases callee with
  | builtin b => cases b <;> simp [eU] at hc
  | value g =>
   cases g with
   | func f => simp only [eU] at hc; cases hq : E.quiet f <;> simp [hq] at hc
   | _ => simp [eU] at hc
  | invoke r m => simp [eU] at hc
 | _ => rfl
theorem Ax {s1 s2 : S} {o : Op} (h : tK o s1 s2) : il s1 o = il s2 o := by
 have he := h.ev
 cases o with
 | call c =>
  obtain ⟨callee, args, ats⟩ := c
  cases callee with
  | value g =>
   simp only [il]
   rw [he g (by simp [opsOf]), gp (fun x hx => he x (by simp only [opsOf, List.mem_cons]; exact .inr hx))]
  | _ => rfl
 | _ => rfl
theorem yD {P : Program} {s1 s2 : S} (hst : s1.st = s2.st) {T : TypeId} {x y : AV} {K1 K2 : List Obj → AV → Prop} (hK : ∀ st a, K1 st a → K2 st a) (h : oh P s1 T x y K1) : oh P s2 T x y K2 := by
 unfold oh at h ⊢
 rw [hst] at h
 split at h <;> try exact h.elim
 rename_i q0
 try simp only [q0]
 split at h <;> try exact h.elim
 rename_i q0 q1
 try simp only [q0, q1]
 split at h <;> try exact h.elim
 rename_i q0
 try simp only [q0]
 split at h <;> try exact h.elim
 ·exact dF (hK _ _) h
 ·split at h <;> try exact h.elim
  rename_i q0
  try simp only [q0]
  split at h <;> try exact h.elim
  rename_i hif
  try rw [if_pos hif]
  exact dF (hK _ _) h
theorem AZ {P : Program} {s1 s2 : S} (hst : s1.st = s2.st) {T : TypeId} {x y : AV} {K1 K2 : List Obj → Prop} (hK : ∀ st, K1 st → K2 st) (h : qZ P s1 T x y K1) : qZ P s2 T x y K2 := by
 unfold qZ at h ⊢
 rw [hst] at h
 split at h <;> try exact h.elim
 split at h <;> try exact h.elim
 ·rename_i h1
  try simp only [h1]
  split at h <;> try exact h.elim
  rename_i hif
  try rw [if_pos hif]
  exact hK _ h
 ·rename_i h1
  try simp only [h1]
  split at h <;> try exact h.elim
  rename_i q0 q1
  try simp only [q0, q1]
  split at h <;> try exact h.elim
  rename_i hif
  try rw [if_pos hif]
  exact hK _ h
theorem qA {P : Program} {st : List Obj} {T : TypeId} {y : Operand} {a : AV} {K1 K2 : Bool → Prop} (hK : ∀ b, K1 b → K2 b) (h : l5 P st T y a K1) : l5 P st T y a K2 := by
 unfold l5 at h ⊢
 split at h
 ·split at h
  ·exact hK _ h
  ·exact ⟨fun e => hK _ (h.1 e), hK _ h.2⟩
  ·split at h
   ·exact ⟨fun e => hK _ (h.1 e), hK _ h.2⟩
   ·exact h.elim
  ·exact h.elim
 ·exact h.elim
theorem vD {P : Program} {s1 s2 : S} {o : Op} (hs : tK o s1 s2) (hst : s1.st = s2.st) {d1 d2 : Option Tmp} {K1 K2 : S → Prop} (hK : ∀ st a, K1 (put { s1 with st := st } d1 a) → K2 (put { s2 with st := st } d2 a))
  (h : cm P s1 d1 o K1) : cm P s2 d2 o K2 := by
 have he := hs.ev
 cases o with
 | alloc T =>
  simp only [cm] at h ⊢
  rw [hst] at h
  split at h <;> try exact h.elim
  rename_i q0
  try simp only [q0]
  exact hK _ _ h
 | box T x =>
  simp only [cm] at h ⊢
  rw [hst, he x (by simp [opsOf])] at h
  split at h <;> try exact h.elim
  rename_i hif
  try rw [if_pos hif]
  exact hK _ _ h
 | store T p x =>
  simp only [cm] at h ⊢
  rw [he x (by simp [opsOf]), he p (by simp [opsOf])] at h
  exact AZ hst (fun st => hK st _) h
 | buildSlice T len parts =>
  simp only [cm] at h ⊢
  rw [hst, ir (fun x hx => he x (by simpa only [opsOf] using hx))] at h
  split at h <;> try exact h.elim
  rename_i q0
  try simp only [q0]
  split at h <;> try exact h.elim
  rename_i q0
  try simp only [q0]
  split at h <;> try exact h.elim
  rename_i q0
  try simp only [q0]
  split at h <;> try exact h.elim
  rename_i hif
  try rw [if_pos hif]
  exact hK _ _ h
 | makeSlice T ln cp =>
  simp only [cm] at h ⊢
  rw [hst, he ln (by simp [opsOf]), he cp (by simp [opsOf])] at h
  split at h <;> try exact h.elim
  rename_i q0 q1 q2
  try simp only [q0, q1, q2]
  split at h <;> try exact h.elim
  rename_i q0
  try simp only [q0]
  exact dF (hK _ _) h
 | makeMap T r =>
  cases r with
  | some r => exact h.elim
  | none =>
   simp only [cm] at h ⊢
   rw [hst] at h
   split at h <;> try exact h.elim
   rename_i q0
   try simp only [q0]
   exact hK _ _ h
 | mapUpdate T m k x =>
  simp only [cm] at h ⊢
  rw [hst, he m (by simp [opsOf]), he k (by simp [opsOf]), he x (by simp [opsOf])] at h
  split at h <;> try exact h.elim
  rename_i q0 q1 q2 q3
  try simp only [q0, q1, q2, q3]
  split at h <;> try exact h.elim
  rename_i q0
  try simp only [q0]
  split at h <;> try exact h.elim
  rename_i hif
  try rw [if_pos hif]
  exact hK _ _ h
 | mapEntry T m k =>
  simp only [cm] at h ⊢
  rw [hst, he m (by simp [opsOf]), he k (by simp [opsOf])] at h
  split at h <;> try exact h.elim
  rename_i q0 q1 q2
  try simp only [q0, q1, q2]
  split at h <;> try exact h.elim
  rename_i q0 q1
  try simp only [q0, q1]
  split at h <;> try exact h.elim
  rename_i hif
  try rw [if_pos hif]
  exact hK _ _ h
 | entryStore T m kr x =>
  simp only [cm] at h ⊢
  rw [hst, he m (by simp [opsOf]), he kr (by simp [opsOf]), he x (by simp [opsOf])] at h
  split at h <;> try exact h.elim
  rename_i q0 q1 q2 q3
  try simp only [q0, q1, q2, q3]
  split at h <;> try exact h.elim
  rename_i q0
  try simp only [q0]
  split at h <;> try exact h.elim
  rename_i hif
  try rw [if_pos hif]
  exact hK _ _ h
 | range T x =>
  simp only [cm] at h ⊢
  rw [hst, he x (by simp [opsOf])] at h
  split at h <;> try exact h.elim
  ·rename_i q0 q1
   try simp only [q0, q1]
   split at h <;> try exact h.elim
   rename_i q0
   try simp only [q0]
   exact hK _ _ h
  ·rename_i q0 q1
   try simp only [q0, q1]
   exact hK _ _ h
  ·rename_i q0 q1
   try simp only [q0, q1]
   exact hK _ _ h
 | next it str =>
  cases str with
  | true =>
   simp only [cm] at h ⊢
   rw [hst, he it (by simp [opsOf])] at h
   split at h <;> try exact h.elim
   rename_i q0
   try simp only [q0]
   split at h <;> try exact h.elim
   rename_i q0
   try simp only [q0]
   have hK' : ∀ a, K1 (put s1 d1 a) → K2 (put s2 d2 a) := fun a hh => by
    have := hK s1.st a hh
    rw [show ({ s2 with st := s1.st } : S) = s2 by rw [hst]] at this
    exact this
   obtain ⟨h1, h2⟩ := Ew h
   cases hb : Nat.blt _ _ with
   | true => rw [hb] at h1; exact hK _ _ (h1 rfl)
   | false => rw [hb] at h2; exact hK' _ (h2 rfl)
  | false =>
   simp only [cm] at h ⊢
   rw [hst, he it (by simp [opsOf])] at h
   split at h <;> try exact h.elim
   rename_i q0
   try simp only [q0]
   split at h <;> try exact h.elim
   rename_i q0
   try simp only [q0]
   have hK' : ∀ a, K1 (put s1 d1 a) → K2 (put s2 d2 a) := fun a hh => by
    have := hK s1.st a hh
    rw [show ({ s2 with st := s1.st } : S) = s2 by rw [hst]] at this
    exact this
   split at h
   case h_2 =>
    rename_i q0
    split at h <;> try exact h.elim
    exact hK' _ h
   rename_i q0
   try simp only [q0]
   refine dF (fun hh => ⟨?_, fun hs => hK' _ (hh.2 hs)⟩) h
   have h1 := hh.1
   split at h1
   ·exact fun n v a b => hK _ _ (h1 n v a b)
   ·exact fun n v a b => hK _ _ (h1 n v a b)
   ·exact h1.elim
 | entry it =>
  simp only [cm] at h ⊢
  rw [hst, he it (by simp [opsOf])] at h
  split at h <;> try exact h.elim
  rename_i q0
  try simp only [q0]
  split at h <;> try exact h.elim
  rename_i q0
  try simp only [q0]
  split at h <;> try exact h.elim
  rename_i q0
  try simp only [q0]
  split at h <;> try exact h.elim
  rename_i q0
  try simp only [q0]
  have hK' : ∀ a, K1 (put s1 d1 a) → K2 (put s2 d2 a) := fun a hh => by
   have := hK s1.st a hh
   rw [show ({ s2 with st := s1.st } : S) = s2 by rw [hst]] at this
   exact this
  exact dF (hK' _) h
 | call c =>
  obtain ⟨callee, args, ats⟩ := c
  cases callee with
  | builtin b =>
   cases b <;> try exact h.elim
   case clear =>
    simp only [cm] at h ⊢
    rw [gp (fun x hx => he x (by simpa only [opsOf] using hx)), hst] at h
    split at h <;> try exact h.elim
    rename_i q0 q1
    try simp only [q0, q1]
    split at h <;> try exact h.elim
    rename_i q0 q1
    try simp only [q0, q1]
    split at h <;> try exact h.elim
    rename_i q0
    try simp only [q0]
    split at h <;> try exact h.elim
    rename_i hif
    try rw [if_pos hif]
    exact hK _ _ h
   simp only [cm] at h ⊢
   rw [gp (fun x hx => he x (by simpa only [opsOf] using hx))] at h
   split at h <;> try exact h.elim
   rename_i q0 q1
   try simp only [q0, q1]
   split at h <;> try exact h.elim
   rename_i hif
   try rw [if_pos hif]
   exact yD hst (fun st a => hK st a) h
  | _ => exact h.elim
 | binOp op T x y T' =>
  have hK' : ∀ a, K1 (put s1 d1 a) → K2 (put s2 d2 a) := fun a hh => by
   have := hK s1.st a hh
   rw [show ({ s2 with st := s1.st } : S) = s2 by rw [hst]] at this
   exact this
  cases op with
  | eql =>
   simp only [cm] at h ⊢
   rw [hst, he x (by simp [opsOf])] at h
   exact qA (fun _ => hK' _) h
  | neq =>
   simp only [cm] at h ⊢
   rw [hst, he x (by simp [opsOf])] at h
   exact qA (fun _ => hK' _) h
  | _ => exact h.elim
 | _ => exact h.elim
end Go.Dn
