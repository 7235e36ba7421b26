import Derived.Test.YtdpmikfheebicaaGreatDoorDnZ
namespace Go.Dn
open Go
structure se (o : Op) (s1 s2 : S) : Prop where
 ev : ∀ x, x ∈ opsOf o → ev s1 x = ev s2 x
theorem fj {s1 s2 : S} : ∀ {l : List Operand}, (∀ x, x ∈ l → ev s1 x = ev s2 x) → lH s1 l = lH s2 l
 | [], _ => rfl
 | x :: l, h => by
  simp only [lH]
  rw [h x (by simp), fj (fun y hy => h y (by simp [hy]))]
theorem gB {s1 s2 : S} : ∀ {l : List (Nat × Operand)}, (∀ x, x ∈ l.map (·.2) → ev s1 x = ev s2 x) → ej s1 l = ej s2 l
 | [], _ => rfl
 | (i, x) :: l, h => by
  simp only [ej]
  rw [h x (by simp), gB (fun y hy => h y (by simp at hy ⊢; exact .inr hy))]
theorem qU {s1 s2 : S} {o : Option Operand} {d : Nat} (h : ∀ x, x ∈ og o → ev s1 x = ev s2 x) : eH s1 o d = eH s2 o d := by
 cases o with
 | none => rfl
 | some x => simp only [eH]; rw [h x (by simp [og])]
theorem vn {s1 s2 : S} {o : Option Operand} (h : ∀ x, x ∈ og o → ev s1 x = ev s2 x) : uh s1 o = uh s2 o := by
 cases o with
 | none => rfl
 | some x => simp only [uh]; rw [h x (by simp [og])]
theorem vh {E : Env} {s1 s2 : S} {o : Op} (h : se o s1 s2) (hst : s1.st = s2.st) : bx E s1 o = bx E s2 o := by
 have he := h.ev
 cases o with
 | move x => simp only [bx]; rw [he x (by simp [opsOf])]
 | assign x => simp only [bx]; rw [he x (by simp [opsOf])]
 | load T x => simp only [bx]; rw [he x (by simp [opsOf]), hst]
 | nilCheck x => simp only [bx]; rw [he x (by simp [opsOf]), hst]
 | binOp op T x y T' => simp only [bx]; rw [he x (by simp [opsOf]), he y (by simp [opsOf])]
 | unOp op T x => simp only [bx]; rw [he x (by simp [opsOf])]
 | makeInterface T x => simp only [bx]; rw [he x (by simp [opsOf])]
 | convert S T x => simp only [bx]; rw [he x (by simp [opsOf])]
 | slice T x lo hi m =>
  cases m with
  | some m =>
   simp only [bx, lz]
   rw [he x (by simp [opsOf]), hst, vn (o := hi) (fun y hy => he y (by simp [opsOf, hy])), vn (o := some m) (fun y hy => he y (by simp [opsOf, hy]))]
  | none =>
   simp only [bx, oe]
   rw [he x (by simp [opsOf]), hst]
   simp only [qU (s1 := s1) (s2 := s2) (o := lo) (fun y hy => he y (by simp [opsOf, hy])), qU (s1 := s1) (s2 := s2) (o := hi) (fun y hy => he y (by simp [opsOf, hy]))]
 | fieldAddr T x f => simp only [bx]; rw [he x (by simp [opsOf]), hst]
 | field T x f => simp only [bx]; rw [he x (by simp [opsOf])]
 | indexAddr T x i => simp only [bx, fp]; rw [he x (by simp [opsOf]), he i (by simp [opsOf]), hst]
 | index T x i => simp only [bx]; rw [he x (by simp [opsOf]), he i (by simp [opsOf])]
 | lookup T m k ok => simp only [bx, kZ]; rw [he m (by simp [opsOf]), he k (by simp [opsOf]), hst]
 | extract x i => simp only [bx]; rw [he x (by simp [opsOf])]
 | makeFunc fn first caps =>
  cases fn with
  | func f => simp only [bx]; rw [fj (fun x hx => he x (by simpa [opsOf] using hx))]
  | _ => rfl
 | build T parts => simp only [bx]; rw [gB (fun x hx => he x (by simpa only [opsOf] using hx))]
 | call c =>
  obtain ⟨callee, args, ats⟩ := c
  cases callee with
  | builtin b =>
   have := fj (s1 := s1) (s2 := s2) (l := args.toList) (fun x hx => he x (by simpa only [opsOf] using hx))
   cases b <;> first | rfl | (simp only [bx]; rw [this]; done) | (simp only [bx]; rw [this, hst])
  | value g =>
   have := fj (s1 := s1) (s2 := s2) (l := args.toList) (fun x hx => he x (by simp only [opsOf, ac1]; exact .inr hx))
   cases g <;> first | rfl | (simp only [bx]; rw [this, hst])
  | invoke r m => rfl
 | _ => rfl
def Kept (st st' : List Obj) : Prop := ∀ i, ar st i = .dead ∨ ar st' i = ar st i
theorem Kept.refl (st : List Obj) : Kept st st := fun _ => .inr rfl
theorem Kept.app (st l : List Obj) : Kept st (st ++ l) := fun i => by
 rcases Nat.lt_or_ge i st.length with h | h
 ·exact .inr (dg _ _ _ h)
 ·exact .inl (ee _ _ h)
theorem Kept.fP {st st' : List Obj} (h : Kept st st') {i : Nat} {x : TypeId × List AV} (he : fP (ar st i) = some x) : fP (ar st' i) = some x := by
 rcases h i with e | e
 ·rw [e] at he; cases he
 ·rw [e]; exact he
theorem Kept.get {st st' : List Obj} (h : Kept st st') {i : Nat} {o : Obj} (he : ar st i = o) (hd : o ≠ .dead) : ar st' i = o := by
 rcases h i with e | e
 ·exact absurd (he.symm.trans e) hd
 ·exact e.trans he
theorem Kept.live {st st' : List Obj} (h : Kept st st') {i : Nat} (he : kF st i = true) : kF st' i = true := by
 unfold kF at he ⊢
 rcases h i with e | e
 ·rw [e] at he; cases he
 ·rw [e]; exact he
mutual
theorem jq {st st' : List Obj} (h : Kept st st') : ∀ (a b : AV), bO st a = some b → bO st' a = some b
 | .lit v, b, e => by simpa only [bO] using e
 | .ae T l, b, e => by simpa only [bO] using e
 | .aB i lo n, b, e => by
  simp only [bO] at e ⊢
  split at e
  ·rename_i T xs hx
   rw [h.fP hx]; exact e
  ·cases e
 | .agg l, b, e => by
  simp only [bO] at e ⊢
  cases hl : jO st l with
  | none => rw [hl] at e; cases e
  | some m => rw [hl] at e; rw [tR h l m hl]; exact e
 | .iz T a, b, e => by simpa only [bO] using e
 | .gO T a, b, e => by
  simp only [bO] at e ⊢
  cases ha : bO st a with
  | none => rw [ha] at e; cases e
  | some m => rw [ha] at e; rw [jq h a m ha]; exact e
 | .bL f caps, b, e => by
  cases caps with
  | nil => simpa only [bO] using e
  | cons x l => simp [bO] at e
 | .ptr _ _ _ _, b, e => by simp [bO] at e
 | .iq _ _ _ _, b, e => by simpa only [bO] using e
 | .mp i, b, e => by
  simp only [bO] at e ⊢
  rcases h i with e2 | e2
  ·rw [e2] at e; cases e
  ·rw [e2]; exact e
 | .bj _, b, e => by simp [bO] at e
 | .b7, b, e => by simp [bO] at e
 | .ct _, b, e => by simp [bO] at e
 | .jk _ _, b, e => by simp [bO] at e
theorem tR {st st' : List Obj} (h : Kept st st') : ∀ (l m : List AV), jO st l = some m → jO st' l = some m
 | [], m, e => by simpa only [jO] using e
 | a :: l, m, e => by
  simp only [jO] at e ⊢
  cases ha : bO st a with
  | none => rw [ha] at e; cases e
  | some b =>
   cases hl : jO st l with
   | none => rw [ha, hl] at e; cases e
   | some k => rw [ha, hl] at e; rw [jq h a b ha, tR h l k hl]; exact e
end
theorem BP {st st' : List Obj} (h : Kept st st') {a b : AV} (e : oO st a = some b) : oO st' a = some b := by
 unfold oO at e ⊢
 cases a with
 | aB i lo m =>
  cases lo with
  | zero => exact jq h _ _ e
  | succ k =>
   rcases h i with e2 | e2
   ·simp [e2, bO, fP] at e
   ·cases hx : ar st i with
    | rows T E ls pd => rw [hx] at e2; simp only [hx] at e; simp only [e2]; exact e
    | _ => rw [hx] at e2; simp only [hx] at e; simp only [e2]; exact jq h _ _ e
 | _ => exact jq h _ _ e
theorem ny {st st' : List Obj} (h : Kept st st') : ∀ (l m : List AV), er st l = some m → er st' l = some m
 | [], m, e => by simpa only [er] using e
 | a :: l, m, e => by
  simp only [er] at e ⊢
  cases ha : oO st a with
  | none => rw [ha] at e; cases e
  | some b =>
   cases hl : er st l with
   | none => rw [ha, hl] at e; cases e
   | some k => rw [ha, hl] at e; rw [BP h ha, ny h l k hl]; exact e
theorem BS {P : Program} {st st' : List Obj} (h : Kept st st') {T : TypeId} {a : AV} {x : Bool × AV} (e : mr P st T a = some x) : mr P st' T a = some x := by
 cases a <;> try exact e
 rename_i i k p off
 rcases h i with e2 | e2
 ·simp only [mr, e2] at e; cases e
 ·simp only [mr, e2] at e ⊢; exact e
theorem DZ {P : Program} {st st' : List Obj} (h : Kept st st') {T : TypeId} {a x : AV} (e : xP P st T a = some x) : xP P st' T a = some x := by
 unfold xP at e ⊢
 split at e <;> try exact e
 ·rename_i i _
  rcases h i with e2 | e2
  ·rw [e2] at e; cases e
  ·rw [e2]; exact e
 ·rename_i i _ _ _
  rcases h i with e2 | e2
  ·rw [e2] at e; cases e
  ·rw [e2]; exact e
theorem sb {P : Program} {st st' : List Obj} (h : Kept st st') {T : TypeId} {a : AV} {f : Nat} {x : Bool × AV} (e : ga P st T a f = some x) : ga P st' T a f = some x := by
 unfold ga at e ⊢
 split at e
 ·cases e
 ·split at e
  ·cases e
  ·rename_i h1
   rw [if_neg h1]
   split at e
   ·split at e
    ·rename_i h2
     rw [if_pos (h.live h2)]; exact e
    ·cases e
   ·exact e
   ·cases e
theorem yo {P : Program} {s s' : S} (h : Kept s.st s'.st) {T : TypeId} {a : AV} {lo hi : Option Operand} (h1 : ∀ d, eH s lo d = eH s' lo d) (h2 : ∀ d, eH s hi d = eH s' hi d) {x : Bool × AV} (e : oe P s T a lo hi = some x) : oe P s' T a lo hi = some x := by
 unfold oe at e ⊢
 simp only [← h1, ← h2]
 split at e <;> try exact e
 cases hx : fP (ar s.st _) with
 | none => rw [hx] at e; split at e <;> first | cases e | simp_all
 | some y => rw [hx] at e; rw [h.fP hx]; exact e
theorem tF {P : Program} {s s' : S} (h : Kept s.st s'.st) {T : TypeId} {a i : AV} {x : Bool × AV} (e : fp P s T a i = some x) : fp P s' T a i = some x := by
 unfold fp at e ⊢
 split at e <;> try exact e
 split at e <;> try exact e
 split at e
 ·rename_i hx
  rw [h.fP hx]; exact e
 ·split at e
  ·rename_i hst
   have := h.get hst (by simp)
   rw [this]; exact e
  ·cases e
theorem zQ {P : Program} {s s' : S} (h : Kept s.st s'.st) {T : TypeId} {a : AV} {lo hi : Option Operand} {m : Operand} (h1 : ∀ o, uh s o = uh s' o) {x : Bool × AV} (e : lz P s T a lo hi m = some x) : lz P s' T a lo hi m = some x := by
 unfold lz at e ⊢
 simp only [← h1]
 split at e <;> try exact e
 cases hx : fP (ar s.st _) with
 | none => rw [hx] at e; split at e <;> first | cases e | simp_all
 | some y => rw [hx] at e; rw [h.fP hx]; exact e
theorem zp {P : Program} {s s' : S} (h : Kept s.st s'.st) {T : TypeId} {m k : AV} {ok : Bool} {x : Bool × AV} (e : kZ P s T m k ok = some x) : kZ P s' T m k ok = some x := by
 unfold kZ at e ⊢
 split at e <;> try exact e
 split at e <;> try exact e
 rename Nat => i
 rcases h i with e2 | e2
 ·rw [e2] at e; cases e
 ·rw [e2]; exact e
theorem DU {E : Env} {s1 s2 : S} {o : Op} (h : se o s1 s2) (hk : Kept s1.st s2.st) {x : Bool × AV} (e : bx E s1 o = some x) : bx E s2 o = some x := by
 have he := h.ev
 have e0 : bx E { s2 with st := s1.st } o = some x := by
  rw [← e]
  exact (vh (s1 := s1) (s2 := { s2 with st := s1.st }) ⟨fun y hy => by rw [he y hy]; cases y <;> rfl⟩ rfl).symm
 cases o with
 | load T y =>
  simp only [bx] at e0 ⊢
  have e1 : ev { s2 with st := s1.st } y = ev s2 y := by cases y <;> rfl
  rw [e1] at e0
  split at e0
  ·exact e0
  ·exact BS hk e0
 | nilCheck y =>
  simp only [bx] at e0 ⊢
  have e1 : ev { s2 with st := s1.st } y = ev s2 y := by cases y <;> rfl
  rw [e1] at e0
  split at e0 <;> try exact e0
  split at e0
  ·rename_i h2
   rw [if_pos (hk.live h2)]; exact e0
  ·cases e0
 | slice T y lo hi m =>
  cases m with
  | some m =>
   simp only [bx] at e0 ⊢
   have e1 : ev { s2 with st := s1.st } y = ev s2 y := by cases y <;> rfl
   rw [e1] at e0
   have hb : ∀ (o : Option Operand), uh { s2 with st := s1.st } o = uh s2 o := fun o => by
    cases o with
    | none => rfl
    | some y => cases y <;> rfl
   exact zQ (s := { s2 with st := s1.st }) hk hb e0
  | none =>
   simp only [bx] at e0 ⊢
   have e1 : ev { s2 with st := s1.st } y = ev s2 y := by cases y <;> rfl
   rw [e1] at e0
   have hb : ∀ (o : Option Operand) d, eH { s2 with st := s1.st } o d = eH s2 o d := fun o d => by
    cases o with
    | none => rfl
    | some y => cases y <;> rfl
   exact yo (s := { s2 with st := s1.st }) hk (hb lo) (hb hi) e0
 | fieldAddr T y f =>
  simp only [bx] at e0 ⊢
  have e1 : ev { s2 with st := s1.st } y = ev s2 y := by cases y <;> rfl
  rw [e1] at e0
  exact sb hk e0
 | indexAddr T y i =>
  simp only [bx] at e0 ⊢
  have e1 : ∀ y, ev { s2 with st := s1.st } y = ev s2 y := fun y => by cases y <;> rfl
  rw [e1, e1] at e0
  exact tF (s := { s2 with st := s1.st }) hk e0
 | lookup T m k ok =>
  simp only [bx] at e0 ⊢
  have e1 : ∀ y, ev { s2 with st := s1.st } y = ev s2 y := fun y => by cases y <;> rfl
  rw [e1, e1] at e0
  exact zp (s := { s2 with st := s1.st }) hk e0
 | call c =>
  obtain ⟨callee, args, ats⟩ := c
  have e1 : ∀ l, lH { s2 with st := s1.st } l = lH s2 l := fun l => fj fun y _ => by cases y <;> rfl
  cases callee with
  | builtin b =>
   cases b <;> try (simp only [bx, e1] at e0 ⊢; exact e0)
   simp only [bx, e1] at e0 ⊢
   split at e0 <;> try exact e0
   split at e0
   ·rename_i hx
    rw [DZ hk hx]; exact e0
   ·cases e0
  | value g =>
   cases g <;> try (simp only [bx] at e0 ⊢; exact e0)
   simp only [bx, e1] at e0 ⊢
   split at e0
   ·rename_i hx
    rw [ny hk _ _ hx]; exact e0
   ·cases e0
  | invoke r m => exact e0
 | makeFunc fn first caps =>
  have e1 : ∀ l, lH { s2 with st := s1.st } l = lH s2 l := fun l => fj fun y _ => by cases y <;> rfl
  cases fn <;> try (simp only [bx] at e0 ⊢; exact e0)
  simp only [bx, e1] at e0 ⊢; exact e0
 | build T parts =>
  have e1 : ∀ l, ej { s2 with st := s1.st } l = ej s2 l := fun l => gB fun y _ => by cases y <;> rfl
  simp only [bx, e1] at e0 ⊢; exact e0
 | _ =>
  have e1 : ∀ y, ev { s2 with st := s1.st } y = ev s2 y := fun y => by cases y <;> rfl
  simp only [bx, e1] at e0 ⊢; exact e0
theorem yU (st st' : List Obj) (s s' : S) (v : Value) : oO st (ev s (.const v)) = oO st' (ev s' (.const v)) := by
 simp only [ev]
 split <;> rfl
theorem lO (st st' : List Obj) (s s' : S) : ∀ l : List Operand, Fg l = true → er st (lH s l) = er st' (lH s' l)
 | [], _ => rfl
 | .const v :: l, h => by
  simp only [lH, er]
  rw [yU st st' s s' v, lO st st' s s' l h]
 | .tmp _ :: _, h => nomatch h
 | .global _ :: _, h => nomatch h
 | .func _ :: _, h => nomatch h
theorem BM {E : Env} {s1 s2 : S} {o : Op} (h : se o s1 s2) (hc : dP E.quiet o = 0) : bx E s1 o = bx E s2 o := by
 have he := h.ev
 cases o with
 | move x => simp only [bx]; rw [he x (by simp [opsOf])]
 | assign x => simp only [bx]; rw [he x (by simp [opsOf])]
 | binOp op T x y T' => simp only [bx]; rw [he x (by simp [opsOf]), he y (by simp [opsOf])]
 | unOp op T x => simp only [bx]; rw [he x (by simp [opsOf])]
 | makeInterface T x => simp only [bx]; rw [he x (by simp [opsOf])]
 | convert S T x => simp only [bx]; rw [he x (by simp [opsOf])]
 | extract x i => simp only [bx]; rw [he x (by simp [opsOf])]
 | makeFunc fn first caps =>
  cases fn with
  | func f => simp only [bx]; rw [fj (fun x hx => he x (by simpa [opsOf] using hx))]
  | _ => rfl
 | pick c a b => rfl
 | load T x => simp [dP] at hc
 | nilCheck x => simp [dP] at hc
 | slice T x lo hi m => simp [dP] at hc
 | fieldAddr T x f => simp [dP] at hc
 | field T x f => simp only [bx]; rw [he x (by simp [opsOf])]
 | indexAddr T x i => simp [dP] at hc
 | index T x i => simp only [bx]; rw [he x (by simp [opsOf]), he i (by simp [opsOf])]
 | lookup T m k ok => simp [dP] at hc
 | build T parts => simp only [bx]; rw [gB (fun x hx => he x (by simpa only [opsOf] using hx))]
 | call c =>
  obtain ⟨callee, args, ats⟩ := c
  cases callee with
  | builtin b => cases b <;> simp [dP] at hc
  | value g =>
   cases g with
   | func f =>
    simp only [dP] at hc
    cases hq : E.quiet f with
    | false => simp [hq] at hc
    | true =>
     rw [hq, aa7] at hc
     cases ha : Fg args.toList with
     | false => simp [ha] at hc
     | true => simp only [bx]; rw [lO s1.st s2.st s1 s2 _ ha]
   | _ => simp [dP] at hc
  | invoke r m => simp [dP] at hc
 | _ => rfl
theorem yy {s1 s2 : S} {o : Op} (h : se o s1 s2) : fM s1 o = fM s2 o := by
 have he := h.ev
 cases o with
 | call c =>
  obtain ⟨callee, args, ats⟩ := c
  cases callee with
  | value g =>
   simp only [fM]
   rw [he g (by simp [opsOf]), fj (fun x hx => he x (by simp only [opsOf, ac1]; exact .inr hx))]
  | _ => rfl
 | _ => rfl
theorem xZ {P : Program} {s1 s2 : S} (hst : s1.st = s2.st) {T : TypeId} {x y : AV} {K1 K2 : List Obj → AV → Prop} (hK : ∀ st a, K1 st a → K2 st a) (h : mT P s1 T x y K1) : mT P s2 T x y K2 := by
 unfold mT at h ⊢
 rw [hst] at h
 split at h <;> try exact h.elim
 rename_i q0
 try simp only [q0]
 split at h <;> try exact h.elim
 rename_i q0 q1
 try simp only [q0, q1]
 split at h <;> try exact h.elim
 rename_i q0
 try simp only [q0]
 split at h <;> try exact h.elim
 ·exact cH (hK _ _) h
 ·split at h <;> try exact h.elim
  ·rename_i q0
   try simp only [q0]
   split at h <;> try exact h.elim
   rename_i hif
   try rw [if_pos hif]
   exact cH (hK _ _) h
  ·rename_i q0
   try simp only [q0]
   split at h <;> try exact h.elim
   rename_i q1
   try simp only [q1]
   split at h <;> try exact h.elim
   rename_i hif
   try rw [if_pos hif]
   exact cH (hK _ _) h
theorem yp {P : Program} {s1 s2 : S} (hst : s1.st = s2.st) {T : TypeId} {x y : AV} {K1 K2 : List Obj → Prop} (hK : ∀ st, K1 st → K2 st) (h : qn P s1 T x y K1) : qn P s2 T x y K2 := by
 unfold qn at h ⊢
 rw [hst] at h
 split at h <;> try exact h.elim
 split at h <;> try exact h.elim
 ·rename_i h1
  try simp only [h1]
  split at h <;> try exact h.elim
  rename_i hif
  try rw [if_pos hif]
  exact hK _ h
 ·rename_i h1
  try simp only [h1]
  split at h <;> try exact h.elim
  rename_i q0 q1
  try simp only [q0, q1]
  split at h <;> try exact h.elim
  rename_i hif
  try rw [if_pos hif]
  exact hK _ h
 ·rename_i h1
  try simp only [h1]
  split at h <;> try exact h.elim
  split at h <;> try exact h.elim
  rename_i hif
  try rw [if_pos hif]
  exact cH (hK _) h
theorem oY {P : Program} {st : List Obj} {T : TypeId} {y : Operand} {a : AV} {K1 K2 : Bool → Prop} (hK : ∀ b, K1 b → K2 b) (h : lB P st T y a K1) : lB P st T y a K2 := by
 unfold lB at h ⊢
 split at h
 ·split at h
  ·exact hK _ h
  ·exact ⟨fun e => hK _ (h.1 e), hK _ h.2⟩
  ·split at h
   ·exact ⟨fun e => hK _ (h.1 e), hK _ h.2⟩
   ·exact h.elim
  ·exact h.elim
 ·exact h.elim
theorem tH {P : Program} {Kt Vt : TypeId} {es : List (Value × AV)} {ks : List Value} {p p' : Value → AV → Prop} {q q' : Prop} (hp : ∀ k a, p k a → p' k a) (hq : q → q') (h : y4 P Kt Vt es ks p q) : y4 P Kt Vt es ks p' q' := by
 refine ⟨?_, fun hs => hq (h.2 hs)⟩
 have h1 := h.1
 split at h1
 ·exact fun n v a b => hp _ _ (h1 n v a b)
 ·exact fun n v a b => hp _ _ (h1 n v a b)
 ·exact h1.elim
theorem si {P : Program} {s1 s2 : S} {o : Op} (hs : se o s1 s2) (hst : s1.st = s2.st) {d1 d2 : Option Tmp} {K1 K2 : S → Prop} (hK : ∀ st a, K1 (put { s1 with st := st } d1 a) → K2 (put { s2 with st := st } d2 a))
  (h : bX P s1 d1 o K1) : bX P s2 d2 o K2 := by
 have he := hs.ev
 cases o with
 | alloc T =>
  simp only [bX] at h ⊢
  rw [hst] at h
  split at h <;> try exact h.elim
  rename_i q0
  try simp only [q0]
  exact hK _ _ h
 | box T x =>
  simp only [bX] at h ⊢
  rw [hst, he x (by simp [opsOf])] at h
  split at h <;> try exact h.elim
  rename_i hif
  try rw [if_pos hif]
  exact hK _ _ h
 | store T p x =>
  simp only [bX] at h ⊢
  rw [he x (by simp [opsOf]), he p (by simp [opsOf])] at h
  exact yp hst (fun st => hK st _) h
 | buildSlice T len parts =>
  simp only [bX] at h ⊢
  rw [hst, gB (fun x hx => he x (by simpa only [opsOf] using hx))] at h
  split at h <;> try exact h.elim
  rename_i q0
  try simp only [q0]
  split at h <;> try exact h.elim
  rename_i q0
  try simp only [q0]
  split at h <;> try exact h.elim
  rename_i q0
  try simp only [q0]
  split at h <;> try exact h.elim
  rename_i hif
  try rw [if_pos hif]
  exact hK _ _ h
 | makeSlice T ln cp =>
  simp only [bX] at h ⊢
  rw [hst, he ln (by simp [opsOf]), he cp (by simp [opsOf])] at h
  split at h <;> try exact h.elim
  rename_i q0 q1 q2
  try simp only [q0, q1, q2]
  split at h <;> try exact h.elim
  rename_i q0
  try simp only [q0]
  exact cH (hK _ _) h
 | makeMap T r =>
  cases r with
  | some r => exact h.elim
  | none =>
   simp only [bX] at h ⊢
   rw [hst] at h
   split at h <;> try exact h.elim
   rename_i q0
   try simp only [q0]
   exact hK _ _ h
 | mapUpdate T m k x =>
  simp only [bX] at h ⊢
  rw [hst, he m (by simp [opsOf]), he k (by simp [opsOf]), he x (by simp [opsOf])] at h
  split at h <;> try exact h.elim
  rename_i q0 q1 q2 q3
  try simp only [q0, q1, q2, q3]
  split at h <;> try exact h.elim
  rename_i q0
  try simp only [q0]
  split at h <;> try exact h.elim
  rename_i hif
  try rw [if_pos hif]
  exact hK _ _ h
 | mapEntry T m k =>
  simp only [bX] at h ⊢
  rw [hst, he m (by simp [opsOf]), he k (by simp [opsOf])] at h
  split at h <;> try exact h.elim
  rename_i q0 q1 q2
  try simp only [q0, q1, q2]
  split at h <;> try exact h.elim
  rename_i q0 q1
  try simp only [q0, q1]
  split at h <;> try exact h.elim
  rename_i hif
  try rw [if_pos hif]
  exact hK _ _ h
 | entryStore T m jk x =>
  simp only [bX] at h ⊢
  rw [hst, he m (by simp [opsOf]), he jk (by simp [opsOf]), he x (by simp [opsOf])] at h
  split at h <;> try exact h.elim
  rename_i q0 q1 q2 q3
  try simp only [q0, q1, q2, q3]
  split at h <;> try exact h.elim
  rename_i q0
  try simp only [q0]
  split at h <;> try exact h.elim
  rename_i hif
  try rw [if_pos hif]
  exact hK _ _ h
 | range T x =>
  simp only [bX] at h ⊢
  rw [hst, he x (by simp [opsOf])] at h
  split at h <;> try exact h.elim
  ·rename_i q0 q1
   try simp only [q0, q1]
   split at h <;> try exact h.elim
   rename_i q0
   try simp only [q0]
   exact hK _ _ h
  ·rename_i q0 q1
   try simp only [q0, q1]
   exact hK _ _ h
  ·rename_i q0 q1
   try simp only [q0, q1]
   exact hK _ _ h
  ·rename_i q0 q1
   try simp only [q0, q1]
   exact hK _ _ h
 | next it str =>
  cases str with
  | true =>
   simp only [bX] at h ⊢
   rw [hst, he it (by simp [opsOf])] at h
   split at h <;> try exact h.elim
   rename_i q0
   try simp only [q0]
   split at h <;> try exact h.elim
   rename_i q0
   try simp only [q0]
   have hK' : ∀ a, K1 (put s1 d1 a) → K2 (put s2 d2 a) := fun a hh => by
    have := hK s1.st a hh
    rw [show ({ s2 with st := s1.st } : S) = s2 by rw [hst]] at this
    exact this
   obtain ⟨h1, h2⟩ := Dj h
   cases hb : Nat.blt _ _ with
   | true => rw [hb] at h1; exact hK _ _ (h1 rfl)
   | false => rw [hb] at h2; exact hK' _ (h2 rfl)
  | false =>
   simp only [bX] at h ⊢
   rw [hst, he it (by simp [opsOf])] at h
   have hK' : ∀ a, K1 (put s1 d1 a) → K2 (put s2 d2 a) := fun a hh => by
    have := hK s1.st a hh
    rw [show ({ s2 with st := s1.st } : S) = s2 by rw [hst]] at this
    exact this
   split at h <;> try exact h.elim
   rename_i q0
   try simp only [q0]
   split at h <;> try exact h.elim
   ·rename_i q0
    try simp only [q0]
    split at h
    case h_2 =>
     rename_i q0
     split at h <;> try exact h.elim
     exact hK' _ h
    rename_i q0
    try simp only [q0]
    exact cH (tH (fun k a => hK _ _) (hK' _)) h
   ·rename_i q0
    try simp only [q0]
    exact tH (fun k a => hK _ _) (hK' _) h
 | entry it =>
  have hK' : ∀ a, K1 (put s1 d1 a) → K2 (put s2 d2 a) := fun a hh => by
   have := hK s1.st a hh
   rw [show ({ s2 with st := s1.st } : S) = s2 by rw [hst]] at this
   exact this
  simp only [bX] at h ⊢
  rw [hst, he it (by simp [opsOf])] at h
  split at h <;> try exact h.elim
  rename_i q0
  try simp only [q0]
  split at h
  case h_3 => exact h.elim
  case h_2 =>
   rename_i q1
   try simp only [q1]
   split at h <;> try exact h.elim
   rename_i q0
   try simp only [q0]
   exact hK' _ h
  rename_i q0
  try simp only [q0]
  split at h <;> try exact h.elim
  rename_i q0
  try simp only [q0]
  split at h <;> try exact h.elim
  rename_i q0
  try simp only [q0]
  exact cH (hK' _) h
 | call c =>
  obtain ⟨callee, args, ats⟩ := c
  cases callee with
  | builtin b =>
   cases b <;> try exact h.elim
   case clear =>
    simp only [bX] at h ⊢
    rw [fj (fun x hx => he x (by simpa only [opsOf] using hx)), hst] at h
    split at h <;> try exact h.elim
    rename_i q0 q1
    try simp only [q0, q1]
    split at h <;> try exact h.elim
    rename_i q0 q1
    try simp only [q0, q1]
    split at h <;> try exact h.elim
    rename_i q0
    try simp only [q0]
    split at h <;> try exact h.elim
    rename_i hif
    try rw [if_pos hif]
    exact hK _ _ h
   simp only [bX] at h ⊢
   rw [fj (fun x hx => he x (by simpa only [opsOf] using hx))] at h
   split at h <;> try exact h.elim
   rename_i q0 q1
   try simp only [q0, q1]
   split at h <;> try exact h.elim
   rename_i hif
   try rw [if_pos hif]
   exact xZ hst (fun st a => hK st a) h
  | _ => exact h.elim
 | binOp op T x y T' =>
  have hK' : ∀ a, K1 (put s1 d1 a) → K2 (put s2 d2 a) := fun a hh => by
   have := hK s1.st a hh
   rw [show ({ s2 with st := s1.st } : S) = s2 by rw [hst]] at this
   exact this
  cases op with
  | eql =>
   simp only [bX] at h ⊢
   rw [hst, he x (by simp [opsOf])] at h
   exact oY (fun _ => hK' _) h
  | neq =>
   simp only [bX] at h ⊢
   rw [hst, he x (by simp [opsOf])] at h
   exact oY (fun _ => hK' _) h
  | _ => exact h.elim
 | _ => exact h.elim
end Go.Dn
