import Derived.Test.YtbppdpbagmbmpaaGreatDoorDnZ
namespace Go.Dn
open Go
structure Same (o : Op) (s1 s2 : S) : Prop where
  ev : ∀ x, x ∈ opsOf o → ev s1 x = ev s2 x
theorem evL_same {s1 s2 : S} : ∀ {l : List Operand}, (∀ x, x ∈ l → ev s1 x = ev s2 x) → evL s1 l = evL s2 l
  | [], _ => rfl
  | x :: l, h => by
    simp only [evL]
    rw [h x (by simp), evL_same (fun y hy => h y (by simp [hy]))]
theorem evParts_same {s1 s2 : S} : ∀ {l : List (Nat × Operand)}, (∀ x, x ∈ l.map (·.2) → ev s1 x = ev s2 x) → evParts s1 l = evParts s2 l
  | [], _ => rfl
  | (i, x) :: l, h => by
    simp only [evParts]
    rw [h x (by simp), evParts_same (fun y hy => h y (by simp at hy ⊢; exact .inr hy))]
theorem boundA_same {s1 s2 : S} {o : Option Operand} {d : Nat} (h : ∀ x, x ∈ optOps o → ev s1 x = ev s2 x) : boundA s1 o d = boundA s2 o d := by
  cases o with
  | none => rfl
  | some x => simp only [boundA]; rw [h x (by simp [optOps])]
theorem optI_same {s1 s2 : S} {o : Option Operand} (h : ∀ x, x ∈ optOps o → ev s1 x = ev s2 x) : optI s1 o = optI s2 o := by
  cases o with
  | none => rfl
  | some x => simp only [optI]; rw [h x (by simp [optOps])]
theorem read_cong {E : Env} {s1 s2 : S} {o : Op} (h : Same o s1 s2) (hst : s1.st = s2.st) : readA E s1 o = readA E s2 o := by
  have he := h.ev
  cases o with
  | move x => simp only [readA]; rw [he x (by simp [opsOf])]
  | assign x => simp only [readA]; rw [he x (by simp [opsOf])]
  | load T x => simp only [readA]; rw [he x (by simp [opsOf]), hst]
  | nilCheck x => simp only [readA]; rw [he x (by simp [opsOf]), hst]
  | binOp op T x y T' => simp only [readA]; rw [he x (by simp [opsOf]), he y (by simp [opsOf])]
  | unOp op T x => simp only [readA]; rw [he x (by simp [opsOf])]
  | makeInterface T x => simp only [readA]; rw [he x (by simp [opsOf])]
  | convert S T x => simp only [readA]; rw [he x (by simp [opsOf]), hst]
  | slice T x lo hi m =>
    cases m with
    | some m =>
      simp only [readA, slice3A]
      rw [he x (by simp [opsOf]), hst, optI_same (o := hi) (fun y hy => he y (by simp [opsOf, hy])), optI_same (o := some m) (fun y hy => he y (by simp [opsOf, hy]))]
    | none =>
      simp only [readA, sliceA]
      rw [he x (by simp [opsOf]), hst]
      simp only [boundA_same (s1 := s1) (s2 := s2) (o := lo) (fun y hy => he y (by simp [opsOf, hy])), boundA_same (s1 := s1) (s2 := s2) (o := hi) (fun y hy => he y (by simp [opsOf, hy]))]
  | fieldAddr T x f => simp only [readA]; rw [he x (by simp [opsOf]), hst]
  | field T x f => simp only [readA]; rw [he x (by simp [opsOf])]
  | indexAddr T x i => simp only [readA, indexAddrA]; rw [he x (by simp [opsOf]), he i (by simp [opsOf]), hst]
  | index T x i => simp only [readA]; rw [he x (by simp [opsOf]), he i (by simp [opsOf])]
  | lookup T m k ok => simp only [readA, lookupA]; rw [he m (by simp [opsOf]), he k (by simp [opsOf]), hst]
  | extract x i => simp only [readA]; rw [he x (by simp [opsOf])]
  | makeFunc fn first caps =>
    cases fn with
    | func f => simp only [readA]; rw [evL_same (fun x hx => he x (by simpa [opsOf] using hx))]
    | _ => rfl
  | build T parts => simp only [readA]; rw [evParts_same (fun x hx => he x (by simpa only [opsOf] using hx))]
  | call c =>
    obtain ⟨callee, args, ats⟩ := c
    cases callee with
    | builtin b =>
      have := evL_same (s1 := s1) (s2 := s2) (l := args.toList) (fun x hx => he x (by simpa only [opsOf] using hx))
      cases b <;> first | rfl | (simp only [readA]; rw [this]; done) | (simp only [readA]; rw [this, hst])
    | value g =>
      have := evL_same (s1 := s1) (s2 := s2) (l := args.toList) (fun x hx => he x (by simp only [opsOf, List.mem_cons]; exact .inr hx))
      cases g <;> first | rfl | (simp only [readA]; rw [this, hst])
    | invoke r m => rfl
  | _ => rfl
def Kept (st st' : List Obj) : Prop := ∀ i, nthO st i = .dead ∨ nthO st' i = nthO st i
theorem Kept.refl (st : List Obj) : Kept st st := fun _ => .inr rfl
theorem Kept.app (st l : List Obj) : Kept st (st ++ l) := fun i => by
  rcases Nat.lt_or_ge i st.length with h | h
  · exact .inr (nthO_append_left _ _ _ h)
  · exact .inl (nthO_out _ _ h)
theorem Kept.elT {st st' : List Obj} (h : Kept st st') {i : Nat} {x : TypeId × List AV} (he : elT (nthO st i) = some x) : elT (nthO st' i) = some x := by
  rcases h i with e | e
  · rw [e] at he; cases he
  · rw [e]; exact he
theorem Kept.get {st st' : List Obj} (h : Kept st st') {i : Nat} {o : Obj} (he : nthO st i = o) (hd : o ≠ .dead) : nthO st' i = o := by
  rcases h i with e | e
  · exact absurd (he.symm.trans e) hd
  · exact e.trans he
theorem Kept.live {st st' : List Obj} (h : Kept st st') {i : Nat} (he : liveP st i = true) : liveP st' i = true := by
  unfold liveP at he ⊢
  rcases h i with e | e
  · rw [e] at he; cases he
  · rw [e]; exact he
mutual
theorem pureA_kept {st st' : List Obj} (h : Kept st st') : ∀ (a b : AV), pureA st a = some b → pureA st' a = some b
  | .lit v, b, e => by simpa only [pureA] using e
  | .lst T l, b, e => by simpa only [pureA] using e
  | .slc i lo n, b, e => by
    simp only [pureA] at e ⊢
    split at e
    · rename_i T xs hx
      rw [h.elT hx]; exact e
    · cases e
  | .agg l, b, e => by
    simp only [pureA] at e ⊢
    cases hl : pureL st l with
    | none => rw [hl] at e; cases e
    | some m => rw [hl] at e; rw [pureL_kept h l m hl]; exact e
  | .pim T a, b, e => by simpa only [pureA] using e
  | .ifc T a, b, e => by
    simp only [pureA] at e ⊢
    cases ha : pureA st a with
    | none => rw [ha] at e; cases e
    | some m => rw [ha] at e; rw [pureA_kept h a m ha]; exact e
  | .clo f caps, b, e => by
    cases caps with
    | nil => simpa only [pureA] using e
    | cons x l => simp [pureA] at e
  | .ptr _ _ _ _, b, e => by simp [pureA] at e
  | .fmp _ _ _ _, b, e => by simpa only [pureA] using e
  | .mp i, b, e => by
    simp only [pureA] at e ⊢
    rcases h i with e2 | e2
    · rw [e2] at e; cases e
    · rw [e2]; exact e
  | .tup _, b, e => by simp [pureA] at e
  | .junk, b, e => by simp [pureA] at e
  | .yld _, b, e => by simp [pureA] at e
  | .stp _ _, b, e => by simp [pureA] at e
theorem pureL_kept {st st' : List Obj} (h : Kept st st') : ∀ (l m : List AV), pureL st l = some m → pureL st' l = some m
  | [], m, e => by simpa only [pureL] using e
  | a :: l, m, e => by
    simp only [pureL] at e ⊢
    cases ha : pureA st a with
    | none => rw [ha] at e; cases e
    | some b =>
      cases hl : pureL st l with
      | none => rw [ha, hl] at e; cases e
      | some k => rw [ha, hl] at e; rw [pureA_kept h a b ha, pureL_kept h l k hl]; exact e
end
theorem pureR_kept {st st' : List Obj} (h : Kept st st') {a b : AV} (e : pureR st a = some b) : pureR st' a = some b := by
  unfold pureR at e ⊢
  cases a with
  | slc i lo m =>
    cases lo with
    | zero => exact pureA_kept h _ _ e
    | succ k =>
      rcases h i with e2 | e2
      · simp [e2, pureA, elT] at e
      · cases hx : nthO st i with
        | rows T E ls pd => rw [hx] at e2; simp only [hx] at e; simp only [e2]; exact e
        | _ => rw [hx] at e2; simp only [hx] at e; simp only [e2]; exact pureA_kept h _ _ e
  | _ => exact pureA_kept h _ _ e
theorem pureArgs_kept {st st' : List Obj} (h : Kept st st') : ∀ (l m : List AV), pureArgs st l = some m → pureArgs st' l = some m
  | [], m, e => by simpa only [pureArgs] using e
  | a :: l, m, e => by
    simp only [pureArgs] at e ⊢
    cases ha : pureR st a with
    | none => rw [ha] at e; cases e
    | some b =>
      cases hl : pureArgs st l with
      | none => rw [ha, hl] at e; cases e
      | some k => rw [ha, hl] at e; rw [pureR_kept h ha, pureArgs_kept h l k hl]; exact e
theorem loadA_kept {P : Program} {st st' : List Obj} (h : Kept st st') {T : TypeId} {a : AV} {x : Bool × AV} (e : loadA P st T a = some x) : loadA P st' T a = some x := by
  cases a <;> try exact e
  rename_i i k p off
  rcases h i with e2 | e2
  · simp only [loadA, e2] at e; cases e
  · simp only [loadA, e2] at e ⊢; exact e
theorem lenA_kept {P : Program} {st st' : List Obj} (h : Kept st st') {T : TypeId} {a x : AV} (e : lenA P st T a = some x) : lenA P st' T a = some x := by
  unfold lenA at e ⊢
  split at e <;> try exact e
  · rename_i i _
    rcases h i with e2 | e2
    · rw [e2] at e; cases e
    · rw [e2]; exact e
  · rename_i i _ _ _
    rcases h i with e2 | e2
    · rw [e2] at e; cases e
    · rw [e2]; exact e
theorem fieldAddr_kept {P : Program} {st st' : List Obj} (h : Kept st st') {T : TypeId} {a : AV} {f : Nat} {x : Bool × AV} (e : fieldAddrA P st T a f = some x) : fieldAddrA P st' T a f = some x := by
  unfold fieldAddrA at e ⊢
  split at e
  · cases e
  · split at e
    · cases e
    · rename_i h1
      rw [if_neg h1]
      split at e
      · split at e
        · rename_i h2
          rw [if_pos (h.live h2)]; exact e
        · cases e
      · exact e
      · cases e
theorem sliceA_kept {P : Program} {s s' : S} (h : Kept s.st s'.st) {T : TypeId} {a : AV} {lo hi : Option Operand} (h1 : ∀ d, boundA s lo d = boundA s' lo d) (h2 : ∀ d, boundA s hi d = boundA s' hi d) {x : Bool × AV} (e : sliceA P s T a lo hi = some x) : sliceA P s' T a lo hi = some x := by
  unfold sliceA at e ⊢
  simp only [← h1, ← h2]
  split at e <;> try exact e
  cases hx : elT (nthO s.st _) with
  | none => rw [hx] at e; split at e <;> first | cases e | simp_all
  | some y => rw [hx] at e; rw [h.elT hx]; exact e
theorem indexAddr_kept {P : Program} {s s' : S} (h : Kept s.st s'.st) {T : TypeId} {a i : AV} {x : Bool × AV} (e : indexAddrA P s T a i = some x) : indexAddrA P s' T a i = some x := by
  unfold indexAddrA at e ⊢
  split at e <;> try exact e
  split at e <;> try exact e
  split at e
  · rename_i hx
    rw [h.elT hx]; exact e
  · split at e
    · rename_i hst
      have := h.get hst (by simp)
      rw [this]; exact e
    · cases e
theorem slice3_kept {P : Program} {s s' : S} (h : Kept s.st s'.st) {T : TypeId} {a : AV} {lo hi : Option Operand} {m : Operand} (h1 : ∀ o, optI s o = optI s' o) {x : Bool × AV} (e : slice3A P s T a lo hi m = some x) : slice3A P s' T a lo hi m = some x := by
  unfold slice3A at e ⊢
  simp only [← h1]
  split at e <;> try exact e
  cases hx : elT (nthO s.st _) with
  | none => rw [hx] at e; split at e <;> first | cases e | simp_all
  | some y => rw [hx] at e; rw [h.elT hx]; exact e
theorem convS_kept {P : Program} {st st' : List Obj} (h : Kept st st') {S T : TypeId} {a : AV} {x : Bool × AV} (e : convS P st S T a = some x) : convS P st' S T a = some x := by
  unfold convS at e ⊢
  split at e
  · rename_i E hS hT
    split at e <;> try cases e
    rename_i hE
    split at e <;> try cases e
    rename_i hc
    rw [if_pos hc]
    split at e <;> try exact e
    split at e
    · rename_i hel
      simp only [h.elT hel]; exact e
    · cases e
  · exact e
theorem lookup_kept {P : Program} {s s' : S} (h : Kept s.st s'.st) {T : TypeId} {m k : AV} {ok : Bool} {x : Bool × AV} (e : lookupA P s T m k ok = some x) : lookupA P s' T m k ok = some x := by
  unfold lookupA at e ⊢
  split at e <;> try exact e
  split at e <;> try exact e
  rename Nat => i
  rcases h i with e2 | e2
  · rw [e2] at e; cases e
  · rw [e2]; exact e
theorem read_kept {E : Env} {s1 s2 : S} {o : Op} (h : Same o s1 s2) (hk : Kept s1.st s2.st) {x : Bool × AV} (e : readA E s1 o = some x) : readA E s2 o = some x := by
  have he := h.ev
  have e0 : readA E { s2 with st := s1.st } o = some x := by
    rw [← e]
    exact (read_cong (s1 := s1) (s2 := { s2 with st := s1.st }) ⟨fun y hy => by rw [he y hy]; cases y <;> rfl⟩ rfl).symm
  cases o with
  | load T y =>
    simp only [readA] at e0 ⊢
    have e1 : ev { s2 with st := s1.st } y = ev s2 y := by cases y <;> rfl
    rw [e1] at e0
    split at e0
    · exact e0
    split at e0
    · exact e0
    · exact loadA_kept hk e0
  | nilCheck y =>
    simp only [readA] at e0 ⊢
    have e1 : ev { s2 with st := s1.st } y = ev s2 y := by cases y <;> rfl
    rw [e1] at e0
    split at e0 <;> try exact e0
    split at e0
    · rename_i h2
      rw [if_pos (hk.live h2)]; exact e0
    · cases e0
  | slice T y lo hi m =>
    cases m with
    | some m =>
      simp only [readA] at e0 ⊢
      have e1 : ev { s2 with st := s1.st } y = ev s2 y := by cases y <;> rfl
      rw [e1] at e0
      have hb : ∀ (o : Option Operand), optI { s2 with st := s1.st } o = optI s2 o := fun o => by
        cases o with
        | none => rfl
        | some y => cases y <;> rfl
      exact slice3_kept (s := { s2 with st := s1.st }) hk hb e0
    | none =>
      simp only [readA] at e0 ⊢
      have e1 : ev { s2 with st := s1.st } y = ev s2 y := by cases y <;> rfl
      rw [e1] at e0
      have hb : ∀ (o : Option Operand) d, boundA { s2 with st := s1.st } o d = boundA s2 o d := fun o d => by
        cases o with
        | none => rfl
        | some y => cases y <;> rfl
      exact sliceA_kept (s := { s2 with st := s1.st }) hk (hb lo) (hb hi) e0
  | fieldAddr T y f =>
    simp only [readA] at e0 ⊢
    have e1 : ev { s2 with st := s1.st } y = ev s2 y := by cases y <;> rfl
    rw [e1] at e0
    exact fieldAddr_kept hk e0
  | convert S T y =>
    simp only [readA] at e0 ⊢
    have e1 : ev { s2 with st := s1.st } y = ev s2 y := by cases y <;> rfl
    rw [e1] at e0
    exact convS_kept hk e0
  | indexAddr T y i =>
    simp only [readA] at e0 ⊢
    have e1 : ∀ y, ev { s2 with st := s1.st } y = ev s2 y := fun y => by cases y <;> rfl
    rw [e1, e1] at e0
    exact indexAddr_kept (s := { s2 with st := s1.st }) hk e0
  | lookup T m k ok =>
    simp only [readA] at e0 ⊢
    have e1 : ∀ y, ev { s2 with st := s1.st } y = ev s2 y := fun y => by cases y <;> rfl
    rw [e1, e1] at e0
    exact lookup_kept (s := { s2 with st := s1.st }) hk e0
  | call c =>
    obtain ⟨callee, args, ats⟩ := c
    have e1 : ∀ l, evL { s2 with st := s1.st } l = evL s2 l := fun l => evL_same fun y _ => by cases y <;> rfl
    cases callee with
    | builtin b =>
      cases b <;> try (simp only [readA, e1] at e0 ⊢; exact e0)
      simp only [readA, e1] at e0 ⊢
      split at e0 <;> try exact e0
      split at e0
      · rename_i hx
        rw [lenA_kept hk hx]; exact e0
      · cases e0
    | value g =>
      cases g <;> try (simp only [readA] at e0 ⊢; exact e0)
      simp only [readA, e1] at e0 ⊢
      split at e0
      · rename_i hx
        rw [pureArgs_kept hk _ _ hx]; exact e0
      · cases e0
    | invoke r m => exact e0
  | makeFunc fn first caps =>
    have e1 : ∀ l, evL { s2 with st := s1.st } l = evL s2 l := fun l => evL_same fun y _ => by cases y <;> rfl
    cases fn <;> try (simp only [readA] at e0 ⊢; exact e0)
    simp only [readA, e1] at e0 ⊢; exact e0
  | build T parts =>
    have e1 : ∀ l, evParts { s2 with st := s1.st } l = evParts s2 l := fun l => evParts_same fun y _ => by cases y <;> rfl
    simp only [readA, e1] at e0 ⊢; exact e0
  | _ =>
    have e1 : ∀ y, ev { s2 with st := s1.st } y = ev s2 y := fun y => by cases y <;> rfl
    simp only [readA, e1] at e0 ⊢; exact e0
theorem pureR_const (st st' : List Obj) (s s' : S) (v : Value) : pureR st (ev s (.const v)) = pureR st' (ev s' (.const v)) := by
  simp only [ev]
  split <;> rfl
theorem pureArgs_const (st st' : List Obj) (s s' : S) : ∀ l : List Operand, allC l = true → pureArgs st (evL s l) = pureArgs st' (evL s' l)
  | [], _ => rfl
  | .const v :: l, h => by
    simp only [evL, pureArgs]
    rw [pureR_const st st' s s' v, pureArgs_const st st' s s' l h]
  | .tmp _ :: _, h => nomatch h
  | .global _ :: _, h => nomatch h
  | .func _ :: _, h => nomatch h
theorem read_cong0 {E : Env} {s1 s2 : S} {o : Op} (h : Same o s1 s2) (hc : clsO E.quiet o = 0) : readA E s1 o = readA E s2 o := by
  have he := h.ev
  cases o with
  | move x => simp only [readA]; rw [he x (by simp [opsOf])]
  | assign x => simp only [readA]; rw [he x (by simp [opsOf])]
  | binOp op T x y T' => simp only [readA]; rw [he x (by simp [opsOf]), he y (by simp [opsOf])]
  | unOp op T x => simp only [readA]; rw [he x (by simp [opsOf])]
  | makeInterface T x => simp only [readA]; rw [he x (by simp [opsOf])]
  | convert S T x => simp [clsO] at hc
  | extract x i => simp only [readA]; rw [he x (by simp [opsOf])]
  | makeFunc fn first caps =>
    cases fn with
    | func f => simp only [readA]; rw [evL_same (fun x hx => he x (by simpa [opsOf] using hx))]
    | _ => rfl
  | pick c a b => rfl
  | load T x => simp [clsO] at hc
  | nilCheck x => simp [clsO] at hc
  | slice T x lo hi m => simp [clsO] at hc
  | fieldAddr T x f => simp [clsO] at hc
  | field T x f => simp only [readA]; rw [he x (by simp [opsOf])]
  | indexAddr T x i => simp [clsO] at hc
  | index T x i => simp only [readA]; rw [he x (by simp [opsOf]), he i (by simp [opsOf])]
  | lookup T m k ok => simp [clsO] at hc
  | build T parts => simp only [readA]; rw [evParts_same (fun x hx => he x (by simpa only [opsOf] using hx))]
  | call c =>
    obtain ⟨callee, args, ats⟩ := c
    cases callee with
    | builtin b => cases b <;> simp [clsO] at hc
    | value g =>
      cases g with
      | func f =>
        simp only [clsO] at hc
        cases hq : E.quiet f with
        | false => simp [hq] at hc
        | true =>
          rw [hq, cond_true] at hc
          cases ha : allC args.toList with
          | false => simp [ha] at hc
          | true => simp only [readA]; rw [pureArgs_const s1.st s2.st s1 s2 _ ha]
      | _ => simp [clsO] at hc
    | invoke r m => simp [clsO] at hc
  | _ => rfl
theorem callee_cong {s1 s2 : S} {o : Op} (h : Same o s1 s2) : calleeOf s1 o = calleeOf s2 o := by
  have he := h.ev
  cases o with
  | call c =>
    obtain ⟨callee, args, ats⟩ := c
    cases callee with
    | value g =>
      simp only [calleeOf]
      rw [he g (by simp [opsOf]), evL_same (fun x hx => he x (by simp only [opsOf, List.mem_cons]; exact .inr hx))]
    | _ => rfl
  | _ => rfl
theorem appendA_mono {P : Program} {s1 s2 : S} (hst : s1.st = s2.st) {T : TypeId} {x y : AV} {K1 K2 : List Obj → AV → Prop} (hK : ∀ st a, K1 st a → K2 st a) (h : appendA P s1 T x y K1) : appendA P s2 T x y K2 := by
  unfold appendA at h ⊢
  rw [hst] at h
  split at h <;> try exact h.elim
  rename_i q0
  try simp only [q0]
  split at h <;> try exact h.elim
  rename_i q0 q1
  try simp only [q0, q1]
  split at h <;> try exact h.elim
  rename_i q0
  try simp only [q0]
  split at h <;> try exact h.elim
  · exact cnd_mono (hK _ _) h
  · split at h <;> try exact h.elim
    · rename_i q0
      try simp only [q0]
      split at h <;> try exact h.elim
      rename_i hif
      try rw [if_pos hif]
      exact cnd_mono (hK _ _) h
    · rename_i q0
      try simp only [q0]
      split at h <;> try exact h.elim
      rename_i q1
      try simp only [q1]
      split at h <;> try exact h.elim
      rename_i hif
      try rw [if_pos hif]
      exact cnd_mono (hK _ _) h
theorem storeA_mono {P : Program} {s1 s2 : S} (hst : s1.st = s2.st) {T : TypeId} {x y : AV} {K1 K2 : List Obj → Prop} (hK : ∀ st, K1 st → K2 st) (h : storeA P s1 T x y K1) : storeA P s2 T x y K2 := by
  unfold storeA at h ⊢
  rw [hst] at h
  split at h <;> try exact h.elim
  split at h <;> try exact h.elim
  · rename_i h1
    try simp only [h1]
    split at h <;> try exact h.elim
    rename_i hif
    try rw [if_pos hif]
    exact hK _ h
  · rename_i h1
    try simp only [h1]
    split at h <;> try exact h.elim
    rename_i q0 q1
    try simp only [q0, q1]
    split at h <;> try exact h.elim
    rename_i hif
    try rw [if_pos hif]
    exact hK _ h
  · rename_i h1
    try simp only [h1]
    split at h <;> try exact h.elim
    split at h <;> try exact h.elim
    rename_i hif
    try rw [if_pos hif]
    exact cnd_mono (hK _) h
theorem nilSlcA_mono {P : Program} {st : List Obj} {T : TypeId} {y : Operand} {a : AV} {K1 K2 : Bool → Prop} (hK : ∀ b, K1 b → K2 b) (h : nilSlcA P st T y a K1) : nilSlcA P st T y a K2 := by
  unfold nilSlcA at h ⊢
  split at h
  · split at h
    · exact hK _ h
    · exact ⟨fun e => hK _ (h.1 e), hK _ h.2⟩
    · split at h
      · exact ⟨fun e => hK _ (h.1 e), hK _ h.2⟩
      · exact h.elim
    · exact h.elim
  · exact h.elim
theorem nextA_mono {P : Program} {Kt Vt : TypeId} {es : List (Value × AV)} {ks : List Value} {p p' : Value → AV → Prop} {q q' : Prop} (hp : ∀ k a, p k a → p' k a) (hq : q → q') (h : nextA P Kt Vt es ks p q) : nextA P Kt Vt es ks p' q' := by
  refine ⟨?_, fun hs => hq (h.2 hs)⟩
  have h1 := h.1
  split at h1
  · exact fun n v a b => hp _ _ (h1 n v a b)
  · exact fun n v a b => hp _ _ (h1 n v a b)
  · exact h1.elim
theorem write_cong {P : Pg} {s1 s2 : S} {o : Op} (hs : Same o s1 s2) (hst : s1.st = s2.st) {d1 d2 : Option Tmp} {K1 K2 : S → Prop} (hK : ∀ st a, K1 (put { s1 with st := st } d1 a) → K2 (put { s2 with st := st } d2 a))
    (h : writeA P s1 d1 o K1) : writeA P s2 d2 o K2 := by
  have he := hs.ev
  cases o with
  | alloc T =>
    simp only [writeA] at h ⊢
    rw [hst] at h
    split at h <;> try exact h.elim
    rename_i q0
    try simp only [q0]
    exact hK _ _ h
  | box T x =>
    simp only [writeA] at h ⊢
    rw [hst, he x (by simp [opsOf])] at h
    split at h <;> try exact h.elim
    rename_i hif
    try rw [if_pos hif]
    split at h
    · rename_i hi
      first | simp only [hi] | skip
      exact cnd_mono (hK _ _) h
    · rename_i hi
      first | simp only [hi] | skip
      exact hK _ _ h
  | store T p x =>
    simp only [writeA] at h ⊢
    rw [he x (by simp [opsOf]), he p (by simp [opsOf])] at h
    exact storeA_mono hst (fun st => hK st _) h
  | buildSlice T len parts =>
    simp only [writeA] at h ⊢
    rw [hst, evParts_same (fun x hx => he x (by simpa only [opsOf] using hx))] at h
    split at h <;> try exact h.elim
    rename_i q0
    try simp only [q0]
    split at h <;> try exact h.elim
    rename_i q0
    try simp only [q0]
    split at h <;> try exact h.elim
    rename_i q0
    try simp only [q0]
    split at h <;> try exact h.elim
    rename_i hif
    try rw [if_pos hif]
    exact hK _ _ h
  | makeSlice T ln cp =>
    simp only [writeA] at h ⊢
    rw [hst, he ln (by simp [opsOf]), he cp (by simp [opsOf])] at h
    split at h <;> try exact h.elim
    rename_i q0 q1 q2
    try simp only [q0, q1, q2]
    split at h <;> try exact h.elim
    rename_i q0
    try simp only [q0]
    exact cnd_mono (hK _ _) h
  | makeMap T r =>
    cases r with
    | some r => exact h.elim
    | none =>
      simp only [writeA] at h ⊢
      rw [hst] at h
      split at h <;> try exact h.elim
      rename_i q0
      try simp only [q0]
      exact hK _ _ h
  | mapUpdate T m k x =>
    simp only [writeA] at h ⊢
    rw [hst, he m (by simp [opsOf]), he k (by simp [opsOf]), he x (by simp [opsOf])] at h
    split at h <;> try exact h.elim
    rename_i q0 q1 q2 q3
    try simp only [q0, q1, q2, q3]
    split at h <;> try exact h.elim
    rename_i q0
    try simp only [q0]
    split at h <;> try exact h.elim
    rename_i hif
    try rw [if_pos hif]
    exact hK _ _ h
  | mapEntry T m k =>
    simp only [writeA] at h ⊢
    rw [hst, he m (by simp [opsOf]), he k (by simp [opsOf])] at h
    split at h <;> try exact h.elim
    rename_i q0 q1 q2
    try simp only [q0, q1, q2]
    split at h <;> try exact h.elim
    rename_i q0 q1
    try simp only [q0, q1]
    split at h <;> try exact h.elim
    rename_i hif
    try rw [if_pos hif]
    exact hK _ _ h
  | entryStore T m stp x =>
    simp only [writeA] at h ⊢
    rw [hst, he m (by simp [opsOf]), he stp (by simp [opsOf]), he x (by simp [opsOf])] at h
    split at h <;> try exact h.elim
    rename_i q0 q1 q2 q3
    try simp only [q0, q1, q2, q3]
    split at h <;> try exact h.elim
    rename_i q0
    try simp only [q0]
    split at h <;> try exact h.elim
    rename_i hif
    try rw [if_pos hif]
    exact hK _ _ h
  | range T x =>
    simp only [writeA] at h ⊢
    rw [hst, he x (by simp [opsOf])] at h
    split at h <;> try exact h.elim
    · rename_i q0 q1
      try simp only [q0, q1]
      split at h <;> try exact h.elim
      rename_i q0
      try simp only [q0]
      exact hK _ _ h
    · rename_i q0 q1
      try simp only [q0, q1]
      exact hK _ _ h
    · rename_i q0 q1
      try simp only [q0, q1]
      exact hK _ _ h
    · rename_i q0 q1
      try simp only [q0, q1]
      exact hK _ _ h
  | next it str =>
    cases str with
    | true =>
      simp only [writeA] at h ⊢
      rw [hst, he it (by simp [opsOf])] at h
      split at h <;> try exact h.elim
      rename_i q0
      try simp only [q0]
      split at h <;> try exact h.elim
      rename_i q0
      try simp only [q0]
      have hK' : ∀ a, K1 (put s1 d1 a) → K2 (put s2 d2 a) := fun a hh => by
        have := hK s1.st a hh
        rw [show ({ s2 with st := s1.st } : S) = s2 by rw [hst]] at this
        exact this
      obtain ⟨h1, h2⟩ := brn_and h
      cases hb : Nat.blt _ _ with
      | true => rw [hb] at h1; exact hK _ _ (h1 rfl)
      | false => rw [hb] at h2; exact hK' _ (h2 rfl)
    | false =>
      simp only [writeA] at h ⊢
      rw [hst, he it (by simp [opsOf])] at h
      have hK' : ∀ a, K1 (put s1 d1 a) → K2 (put s2 d2 a) := fun a hh => by
        have := hK s1.st a hh
        rw [show ({ s2 with st := s1.st } : S) = s2 by rw [hst]] at this
        exact this
      split at h <;> try exact h.elim
      rename_i q0
      try simp only [q0]
      split at h <;> try exact h.elim
      · rename_i q0
        try simp only [q0]
        split at h
        case h_2 =>
          rename_i q0
          split at h <;> try exact h.elim
          exact hK' _ h
        rename_i q0
        try simp only [q0]
        exact cnd_mono (nextA_mono (fun k a => hK _ _) (hK' _)) h
      · rename_i q0
        try simp only [q0]
        exact nextA_mono (fun k a => hK _ _) (hK' _) h
  | entry it =>
    have hK' : ∀ a, K1 (put s1 d1 a) → K2 (put s2 d2 a) := fun a hh => by
      have := hK s1.st a hh
      rw [show ({ s2 with st := s1.st } : S) = s2 by rw [hst]] at this
      exact this
    simp only [writeA] at h ⊢
    rw [hst, he it (by simp [opsOf])] at h
    split at h <;> try exact h.elim
    rename_i q0
    try simp only [q0]
    split at h
    case h_3 => exact h.elim
    case h_2 =>
      rename_i q1
      try simp only [q1]
      split at h <;> try exact h.elim
      rename_i q0
      try simp only [q0]
      exact hK' _ h
    rename_i q0
    try simp only [q0]
    split at h <;> try exact h.elim
    rename_i q0
    try simp only [q0]
    split at h <;> try exact h.elim
    rename_i q0
    try simp only [q0]
    exact cnd_mono (hK' _) h
  | call c =>
    obtain ⟨callee, args, ats⟩ := c
    cases callee with
    | builtin b =>
      cases b <;> try exact h.elim
      case clear =>
        simp only [writeA] at h ⊢
        rw [evL_same (fun x hx => he x (by simpa only [opsOf] using hx)), hst] at h
        split at h <;> try exact h.elim
        rename_i q0 q1
        try simp only [q0, q1]
        split at h <;> try exact h.elim
        rename_i q0 q1
        try simp only [q0, q1]
        split at h <;> try exact h.elim
        rename_i q0
        try simp only [q0]
        split at h <;> try exact h.elim
        rename_i hif
        try rw [if_pos hif]
        exact hK _ _ h
      simp only [writeA] at h ⊢
      rw [evL_same (fun x hx => he x (by simpa only [opsOf] using hx))] at h
      split at h <;> try exact h.elim
      rename_i q0 q1
      try simp only [q0, q1]
      split at h <;> try exact h.elim
      rename_i hif
      try rw [if_pos hif]
      exact appendA_mono hst (fun st a => hK st a) h
    | _ => exact h.elim
  | binOp op T x y T' =>
    have hK' : ∀ a, K1 (put s1 d1 a) → K2 (put s2 d2 a) := fun a hh => by
      have := hK s1.st a hh
      rw [show ({ s2 with st := s1.st } : S) = s2 by rw [hst]] at this
      exact this
    cases op with
    | eql =>
      simp only [writeA] at h ⊢
      rw [hst, he x (by simp [opsOf])] at h
      exact nilSlcA_mono (fun _ => hK' _) h
    | neq =>
      simp only [writeA] at h ⊢
      rw [hst, he x (by simp [opsOf])] at h
      exact nilSlcA_mono (fun _ => hK' _) h
    | _ => exact h.elim
  | _ => exact h.elim
end Go.Dn
