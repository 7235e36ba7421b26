import Derived.Test.YtbppdpbagmbmpaaGreatDoorDnC
namespace Go.Dn
open Go
def layF (P : Program) : List Field → Nat → Nat → Prop
  | [], n, t => n = t
  | f :: fs, n, t => f.offset = n ∧ layF P fs (n + P.cellsOf f.type) t
def LayT (P : Program) (T : TypeId) : Prop :=
  match P.underlying T with
  | some (.struct fs) => T < P.types.size → layF P fs.toList 0 (P.cellsOf T)
  | some (.array _ _) => True
  | some _ => P.cellsOf T = 1
  | none => True
def LayOK (P : Program) : Prop := ∀ T, LayT P T
mutual
theorem ptyp_wid {P : Program} (hl : LayOK P) : ∀ (a : AV) (T : TypeId), ptyp P a T → wid a = P.cellsOf T
  | .lit v, T, h => by
    have := hl T
    simp only [ptyp, LayT] at h this
    simp only [wid]
    split at h <;> simp_all
  | .lst E l, T, h => by
    have := hl T
    simp only [ptyp] at h
    simp only [LayT, h.1] at this
    simp [wid, this]
  | .agg l, T, h => by
    have hT := hl T
    simp only [ptyp] at h
    obtain ⟨fs, h1, h2⟩ := h
    simp only [LayT, h1.1] at hT
    have := ptypF_wid2 hl l fs.toList 0 _ h2 (hT h1.2)
    simp only [wid]
    omega
  | .pim E a, T, h => by
    have := hl T
    simp only [ptyp] at h
    simp only [LayT, h.1] at this
    simp [wid, this]
  | .ifc U a, T, h => by
    have := hl T
    simp only [ptyp] at h
    obtain ⟨⟨ms, hm⟩, _⟩ := h
    simp only [LayT, hm] at this
    simp [wid, this]
  | .fmp K V ks vs, T, h => by
    have := hl T
    simp only [ptyp] at h
    simp only [LayT, h.1] at this
    simp [wid, this]
  | .junk, _, h => by simp [ptyp] at h
  | .tup _, _, h => by simp [ptyp] at h
  | .slc _ _ _, _, h => by simp [ptyp] at h
  | .ptr _ _ _ _, _, h => by simp [ptyp] at h
  | .mp _, _, h => by simp [ptyp] at h
  | .yld _, _, h => by simp [ptyp] at h
  | .stp _ _, _, h => by simp [ptyp] at h
  | .clo _ _, _, h => by simp [ptyp] at h
theorem ptypF_wid2 {P : Program} (hl : LayOK P) : ∀ (l : List AV) (fs : List Field) (n t : Nat), ptypF P l fs → layF P fs n t → n + widL l = t
  | [], [], n, t, _, h => by simpa [layF, widL] using h
  | [], _ :: _, _, _, h, _ => by simp [ptypF] at h
  | _ :: _, [], _, _, h, _ => by simp [ptypF] at h
  | a :: l, f :: fs, n, t, h, hy => by
    simp only [ptypF] at h
    simp only [layF] at hy
    have := ptypF_wid2 hl l fs _ t h.2 hy.2
    have h1 := ptyp_wid hl a f.type h.1
    simp only [widL]
    omega
end
structure Keeps (C C' : Ctx) : Prop where
  P : C'.P = C.P
  X : ∀ b, C.X b → C'.X b
  heap : ∀ b, C.X b → C'.w.heap[b]? = C.w.heap[b]?
theorem Keeps.cell {C C' : Ctx} (h : Keeps C C') {b : Nat} (hb : C.X b) (j : Nat) : C'.w.cell? ⟨b, j, none⟩ = C.w.cell? ⟨b, j, none⟩ := by
  unfold World.cell?
  rw [h.heap b hb]
theorem Keeps.refl (C : Ctx) : Keeps C C := ⟨rfl, fun _ h => h, fun _ _ => rfl⟩
theorem Keeps.trans {A B C : Ctx} (h : Keeps A B) (k : Keeps B C) : Keeps A C :=
  ⟨k.P.trans h.P, fun b hb => k.X b (h.X b hb), fun b hb => (k.heap b (h.X b hb)).trans (h.heap b hb)⟩
mutual
theorem M_pure {C C' : Ctx} (hk : Keeps C C') (hl : LayOK C.P) : ∀ (a : AV) (T : TypeId) (s s' : Src) (o o' : Nat), ptyp C.P a T →
    (∀ j, j < wid a → s' (o' + j) = s (o + j)) → M C a s o → M C' a s' o'
  | .lit v, T, s, s', o, o', _, hs, h => by
    simp only [M] at h ⊢
    have := hs 0 (by simp [wid])
    simp at this
    rw [this]; exact h
  | .lst E l, T, s, s', o, o', ht, hs, h => by
    simp only [M] at h ⊢
    have h0 := hs 0 (by simp [wid])
    simp at h0
    obtain ⟨h1, p, cap, h2, h3, h4⟩ := h
    rw [hk.P]
    refine ⟨h1, p, cap, by rw [h0]; exact h2, h3, fun hne => ?_⟩
    obtain ⟨b, off, hp, hb, hm⟩ := h4 hne
    refine ⟨b, off, hp, hk.X b hb, ?_⟩
    exact MR_pure hk hl l E _ _ _ _ h1 (fun j _ => hk.cell hb _) hm
  | .agg l, T, s, s', o, o', ht, hs, h => by
    simp only [M] at h ⊢
    simp only [ptyp] at ht
    obtain ⟨fs, _, h2⟩ := ht
    exact ML_pure hk hl l fs.toList s s' o o' h2 (by simpa [wid] using hs) h
  | .pim E a, T, s, s', o, o', ht, hs, h => by
    simp only [M] at h ⊢
    have h0 := hs 0 (by simp [wid])
    simp at h0
    simp only [ptyp] at ht
    obtain ⟨b, off, h1, h2, h3, h4⟩ := h
    rw [hk.P]
    exact ⟨b, off, by rw [h0]; exact h1, hk.X b h2, h3, M_pure hk hl a E _ _ _ _ ht.2 (fun j _ => hk.cell h2 _) h4⟩
  | .ifc U a, T, s, s', o, o', ht, hs, h => by
    simp only [M] at h ⊢
    have h0 := hs 0 (by simp [wid])
    simp at h0
    simp only [ptyp] at ht
    obtain ⟨u, h1, h2, h3, h4⟩ := h
    exact ⟨u, by rw [h0]; exact h1, h2, h3, M_pure hk hl a U _ _ _ _ ht.2 (fun j _ => rfl) h4⟩
  | .fmp K V ks vs, T, s, s', o, o', ht, hs, h => by
    simp only [M] at h ⊢
    have h0 := hs 0 (by simp [wid])
    simp at h0
    simp only [ptyp] at ht
    rw [h0, hk.P]
    rcases h with h | ⟨b, ents, clock, h1, h2, h3, h4, h5, h6, h7⟩
    · exact .inl h
    · exact .inr ⟨b, ents, clock, h1, hk.X b h2, by rw [hk.heap b h2]; exact h3, h4, h5, h6, MT_pure hk hl vs V _ h6 h7⟩
  | .junk, _, _, _, _, _, h, _, _ => by simp [ptyp] at h
  | .tup _, _, _, _, _, _, h, _, _ => by simp [ptyp] at h
  | .slc _ _ _, _, _, _, _, _, h, _, _ => by simp [ptyp] at h
  | .ptr _ _ _ _, _, _, _, _, _, h, _, _ => by simp [ptyp] at h
  | .mp _, _, _, _, _, _, h, _, _ => by simp [ptyp] at h
  | .yld _, _, _, _, _, _, h, _, _ => by simp [ptyp] at h
  | .stp _ _, _, _, _, _, _, h, _, _ => by simp [ptyp] at h
  | .clo _ _, _, _, _, _, _, h, _, _ => by simp [ptyp] at h
theorem MT_pure {C C' : Ctx} (hk : Keeps C C') (hl : LayOK C.P) : ∀ (l : List AV) (T : TypeId) (vs : List Value), ptypL C.P l T → MT C l vs → MT C' l vs
  | [], _, vs, _, h => by simpa [MT] using h
  | _ :: _, _, [], _, h => by simp [MT] at h
  | a :: l, T, v :: vs, ht, h => by
    simp only [ptypL] at ht
    simp only [MT] at h ⊢
    exact ⟨h.1, h.2.1, M_pure hk hl a T _ _ _ _ ht.1 (fun j _ => rfl) h.2.2.1, MT_pure hk hl l T vs ht.2 h.2.2.2⟩
theorem ML_pure {C C' : Ctx} (hk : Keeps C C') (hl : LayOK C.P) : ∀ (l : List AV) (fs : List Field) (s s' : Src) (o o' : Nat), ptypF C.P l fs →
    (∀ j, j < widL l → s' (o' + j) = s (o + j)) → ML C l s o → ML C' l s' o'
  | [], _, _, _, _, _, _, _, _ => by simp [ML]
  | _ :: _, [], _, _, _, _, h, _, _ => by simp [ptypF] at h
  | a :: l, f :: fs, s, s', o, o', ht, hs, h => by
    simp only [ptypF] at ht
    simp only [ML, widL] at h hs ⊢
    refine ⟨M_pure hk hl a f.type s s' o o' ht.1 (fun j hj => hs j (by omega)) h.1, ML_pure hk hl l fs s s' _ _ ht.2 (fun j hj => ?_) h.2⟩
    have := hs (wid a + j) (by omega)
    rw [show o' + wid a + j = o' + (wid a + j) by omega, this]
    congr 1; omega
theorem MR_pure {C C' : Ctx} (hk : Keeps C C') (hl : LayOK C.P) : ∀ (l : List AV) (T : TypeId) (s s' : Src) (o o' : Nat), ptypL C.P l T →
    (∀ j, j < l.length * C.P.cellsOf T → s' (o' + j) = s (o + j)) → MR C l (C.P.cellsOf T) s o → MR C' l (C.P.cellsOf T) s' o'
  | [], _, _, _, _, _, _, _, _ => by simp [MR]
  | a :: l, T, s, s', o, o', ht, hs, h => by
    simp only [ptypL] at ht
    simp only [MR] at h ⊢
    have hw := ptyp_wid hl a T ht.1
    have hlen : (a :: l).length * C.P.cellsOf T = l.length * C.P.cellsOf T + C.P.cellsOf T := by simp [Nat.add_mul]
    refine ⟨M_pure hk hl a T s s' o o' ht.1 (fun j hj => hs j (by omega)) h.1, ?_⟩
    refine MR_pure hk hl l T s s' (o + C.P.cellsOf T) (o' + C.P.cellsOf T) ht.2 (fun j hj => ?_) h.2
    have := hs (C.P.cellsOf T + j) (by omega)
    rw [show o' + C.P.cellsOf T + j = o' + (C.P.cellsOf T + j) by omega, this]
    congr 1; omega
end
structure MapLater (en : Array MapEntry) (cl : Nat) (en' : Array MapEntry) (cl' : Nat) : Prop where
  fwd : ∀ e, e ∈ en → ∃ e', e' ∈ en' ∧ e'.key = e.key ∧ e'.born = e.born
  bwd : ∀ e', e' ∈ en' → e'.born < cl → ∃ e, e ∈ en ∧ e.key = e'.key ∧ e.born = e'.born
  size : en'.size + cl = en.size + cl'
  le : cl ≤ cl'
theorem MapLater.refl (en : Array MapEntry) (cl : Nat) : MapLater en cl en cl := ⟨fun e he => ⟨e, he, rfl, rfl⟩, fun e he _ => ⟨e, he, rfl, rfl⟩, rfl, Nat.le_refl _⟩
theorem MapLater.trans {a b c : Array MapEntry} {x y z : Nat} (h : MapLater a x b y) (k : MapLater b y c z) : MapLater a x c z := by
  refine ⟨fun e he => ?_, fun e he hb => ?_, by have := h.size; have := k.size; omega, Nat.le_trans h.le k.le⟩
  · obtain ⟨e1, h1, h2, h3⟩ := h.fwd e he
    obtain ⟨e2, k1, k2, k3⟩ := k.fwd e1 h1
    exact ⟨e2, k1, k2.trans h2, k3.trans h3⟩
  · obtain ⟨e1, h1, h2, h3⟩ := k.bwd e he (Nat.lt_of_lt_of_le hb h.le)
    obtain ⟨e2, k1, k2, k3⟩ := h.bwd e1 h1 (by omega)
    exact ⟨e2, k1, k2.trans h2, k3.trans h3⟩
structure RefOK (C C' : Ctx) (i j : Nat) : Prop where
  lt : j < C'.st.length
  row : ∀ T xs', elT (nthO C'.st j) = some (T, xs') → ∃ xs, elT (nthO C.st i) = some (T, xs) ∧ C'.ι j = C.ι i ∧ xs.length ≤ xs'.length
  box : ∀ T a', nthO C'.st j = .box T a' → ∃ a, nthO C.st i = .box T a ∧ C'.ι j = C.ι i
  map : ∀ K V es', nthO C'.st j = .map K V es' → ∃ es, nthO C.st i = .map K V es ∧ C'.ι j = C.ι i ∧
    ∀ entries clock, C.w.heap[(C.ι i).block]? = some (.map entries clock) → ∃ entries' clock', C'.w.heap[(C.ι i).block]? = some (.map entries' clock') ∧
      MapLater entries clock entries' clock'
  loop : ∀ r', nthO C'.st j = .loop r' → ∃ r, nthO C.st i = .loop r ∧ C'.ι j = C.ι i
  iter : ∀ m n ks, nthO C'.st j = .iter m n ks → ∃ m' ks', nthO C.st i = .iter m' n ks' ∧ C'.ι j = C.ι i
  ext : ∀ t, nthO C'.st j = .ext t → ∃ t', nthO C.st i = .ext t' ∧ C'.ι j = C.ι i
  siter : ∀ s p, nthO C'.st j = .siter s p → ∃ p', nthO C.st i = .siter s p' ∧ C'.ι j = C.ι i
  fit : ∀ K V ks vs met, nthO C'.st j = .fit K V ks vs met → ∃ met', nthO C.st i = .fit K V ks vs met' ∧ C'.ι j = C.ι i
  rows : ∀ T E ls pd, nthO C'.st j = .rows T E ls pd → ∃ ls' pd', nthO C.st i = .rows T E ls' pd' ∧ C'.ι j = C.ι i ∧ ls.length = ls'.length ∧
    ∀ k m v, SubOK C (C.ι i).block E k (nthL ls' k) m v → SubOK C' (C.ι i).block E k (nthL ls k) m v
theorem SlcOK.move {C C' : Ctx} (hk : Keeps C C') {i j lo n : Nat} {v : Value} (h : RefOK C C' i j) (hv : SlcOK C i lo n v) : SlcOK C' j lo n v := by
  refine ⟨fun T xs' hx => ?_, fun T E ls pd hx => ?_⟩
  · obtain ⟨xs, h1, h2, h3⟩ := h.row T xs' hx
    obtain ⟨h4, h5⟩ := hv.1 T xs h1
    rw [hk.P, h2]
    exact ⟨by omega, h5⟩
  · obtain ⟨ls', pd', h1, h2, h3, h4⟩ := h.rows T E ls pd hx
    have h5 := hv.2 T E ls' pd' h1
    rw [h2]
    cases lo with
    | zero => exact ⟨by rw [h3]; exact h5.1, h5.2⟩
    | succ k => exact ⟨by rw [h3]; exact h5.1, h4 k n v h5.2⟩
theorem PtrOK.move {C C' : Ctx} (hk : Keeps C C') {i j k off : Nat} {v : Value} (h : RefOK C C' i j) (hv : PtrOK C i k off v) : PtrOK C' j k off v := by
  refine ⟨fun T xs' hx => ?_, fun T a' hx => ?_, fun m n ks hx => ?_, fun s p hx => ?_, fun K V ks vs met hx => ?_, fun T E ls pd hx => ?_⟩
  · obtain ⟨xs, h1, h2, h3⟩ := h.row T xs' hx
    obtain ⟨h4, h5⟩ := hv.1 T xs h1
    rw [hk.P, h2]
    exact ⟨by omega, h5⟩
  · obtain ⟨a, h1, h2⟩ := h.box T a' hx
    rw [h2]
    exact hv.2.1 T a h1
  · obtain ⟨m', ks', h1, h2⟩ := h.iter m n ks hx
    rw [h2]
    exact hv.2.2.1 _ _ _ h1
  · obtain ⟨p', h1, h2⟩ := h.siter s p hx
    rw [h2]
    exact hv.2.2.2.1 _ _ h1
  · obtain ⟨met', h1, h2⟩ := h.fit K V ks vs met hx
    rw [h2]
    exact hv.2.2.2.2.1 _ _ _ _ _ h1
  · obtain ⟨ls', pd', h1, h2, h3, _⟩ := h.rows T E ls pd hx
    rw [h2, h3]
    exact hv.2.2.2.2.2 _ _ _ _ h1
theorem MpOK.move {C C' : Ctx} {i j : Nat} {v : Value} (h : RefOK C C' i j) (hv : MpOK C i v) : MpOK C' j v := by
  intro K V es' hx
  obtain ⟨es, h1, h2, _⟩ := h.map K V es' hx
  rw [h2]; exact hv K V es h1
theorem YldOK.move {C C' : Ctx} {i j : Nat} {v : Value} (h : RefOK C C' i j) (hv : YldOK C i v) : YldOK C' j v := by
  refine ⟨fun r' hx => ?_, fun t hx => ?_⟩
  · obtain ⟨r, h1, h2⟩ := h.loop r' hx
    rw [h2]; exact hv.1 r h1
  · obtain ⟨r, h1, h2⟩ := h.ext t hx
    rw [h2]; exact hv.2 r h1
theorem StpOK.move {C C' : Ctx} {i j : Nat} {key v : Value} (h : RefOK C C' i j) (hv : StpOK C i key v) : StpOK C' j key v := by
  intro K V es' hx
  obtain ⟨es, h1, h2, h3⟩ := h.map K V es' hx
  obtain ⟨entries, clock, hh, e, he, hek, hv'⟩ := hv K V es h1
  obtain ⟨entries', clock', hh', hall⟩ := h3 entries clock hh
  obtain ⟨e', he', hk', hb'⟩ := hall.fwd e he
  rw [h2]
  exact ⟨entries', clock', hh', e', he', by rw [hk', hek], by rw [hb']; exact hv'⟩
@[simp] theorem wid_ren (ρ : Nat → Option Nat) : ∀ a : AV, isAggA (ren ρ a) = isAggA a
  | .agg l => by simp [ren, isAggA]
  | .junk | .lit _ | .lst _ _ | .tup _ | .pim _ _ | .clo _ _ | .ifc _ _ | .fmp _ _ _ _ => by simp [ren, isAggA]
  | .slc i _ _ | .ptr i _ _ _ | .mp i | .yld i | .stp i _ => by simp only [ren]; split <;> simp [isAggA]
mutual
theorem ren_wid (ρ : Nat → Option Nat) : ∀ a : AV, wid (ren ρ a) = wid a
  | .agg l => by simp only [ren, wid]; exact renL_wid ρ l
  | .junk | .lit _ | .lst _ _ | .tup _ | .pim _ _ | .clo _ _ | .ifc _ _ | .fmp _ _ _ _ => by simp [ren, wid]
  | .slc i _ _ | .ptr i _ _ _ | .mp i | .yld i | .stp i _ => by simp only [ren]; split <;> simp [wid]
theorem renL_wid (ρ : Nat → Option Nat) : ∀ l : List AV, widL (renL ρ l) = widL l
  | [] => by simp [renL, widL]
  | a :: l => by simp only [renL, widL, ren_wid ρ a, renL_wid ρ l]
end
mutual
theorem M_move {C C' : Ctx} (hk : Keeps C C') (hl : LayOK C.P) (ρ : Nat → Option Nat) : ∀ (a : AV) (s s' : Src) (o o' : Nat),
    (∀ i, i ∈ refs a → i < C.st.length → ∃ j, ρ i = some j ∧ RefOK C C' i j) →
    (∀ j, j < wid a → s' (o' + j) = s (o + j)) → M C a s o → M C' (ren ρ a) s' o'
  | .junk, _, _, _, _, _, _, _ => by simp [ren, M]
  | .lit v, s, s', o, o', _, hs, h => by
    simp only [ren, M] at h ⊢
    have := hs 0 (by simp [wid])
    simp at this
    rw [this]; exact h
  | .lst E l, s, s', o, o', _, hs, h => by
    simp only [ren, M] at h ⊢
    have h0 := hs 0 (by simp [wid])
    simp at h0
    obtain ⟨h1, p, cap, h2, h3, h4⟩ := h
    rw [hk.P]
    refine ⟨h1, p, cap, by rw [h0]; exact h2, h3, fun hne => ?_⟩
    obtain ⟨b, off, hp, hb, hm⟩ := h4 hne
    exact ⟨b, off, hp, hk.X b hb, MR_pure hk hl l E _ _ _ _ h1 (fun j _ => hk.cell hb _) hm⟩
  | .agg l, s, s', o, o', hr, hs, h => by
    simp only [ren, M] at h ⊢
    exact ML_move hk hl ρ l s s' o o' (by simpa [refs] using hr) (by simpa [wid] using hs) h
  | .tup l, s, s', o, o', hr, hs, h => by
    simp only [ren, M] at h ⊢
    have h0 := hs 0 (by simp [wid])
    simp at h0
    obtain ⟨vs, h1, h2⟩ := h
    exact ⟨vs, by rw [h0]; exact h1, MT_move hk hl ρ l _ (by simpa [refs] using hr) h2⟩
  | .slc i lo n, s, s', o, o', hr, hs, h => by
    simp only [M] at h
    obtain ⟨hi, v, h1, h2, h3⟩ := h
    obtain ⟨j, hj, hrf⟩ := hr i (by simp [refs]) hi
    have h0 := hs 0 (by simp [wid])
    simp at h0
    simp only [ren, hj, M]
    exact ⟨hrf.lt, v, by rw [h0]; exact h1, h2, h3.move hk hrf⟩
  | .ptr i k p off, s, s', o, o', hr, hs, h => by
    simp only [M] at h
    obtain ⟨hi, v, h1, h2, h3⟩ := h
    obtain ⟨j, hj, hrf⟩ := hr i (by simp [refs]) hi
    have h0 := hs 0 (by simp [wid])
    simp at h0
    simp only [ren, hj, M]
    exact ⟨hrf.lt, v, by rw [h0]; exact h1, h2, h3.move hk hrf⟩
  | .pim T a, s, s', o, o', _, hs, h => by
    simp only [ren, M] at h ⊢
    have h0 := hs 0 (by simp [wid])
    simp at h0
    obtain ⟨b, off, h1, h2, h3, h4⟩ := h
    rw [hk.P]
    exact ⟨b, off, by rw [h0]; exact h1, hk.X b h2, h3, M_pure hk hl a T _ _ _ _ h3 (fun j _ => hk.cell h2 _) h4⟩
  | .mp i, s, s', o, o', hr, hs, h => by
    simp only [M] at h
    obtain ⟨hi, v, h1, h2, h3⟩ := h
    obtain ⟨j, hj, hrf⟩ := hr i (by simp [refs]) hi
    have h0 := hs 0 (by simp [wid])
    simp at h0
    simp only [ren, hj, M]
    exact ⟨hrf.lt, v, by rw [h0]; exact h1, h2, h3.move hrf⟩
  | .yld i, s, s', o, o', hr, hs, h => by
    simp only [M] at h
    obtain ⟨hi, v, h1, h2, h3⟩ := h
    obtain ⟨j, hj, hrf⟩ := hr i (by simp [refs]) hi
    have h0 := hs 0 (by simp [wid])
    simp at h0
    simp only [ren, hj, M]
    exact ⟨hrf.lt, v, by rw [h0]; exact h1, h2, h3.move hrf⟩
  | .stp i key, s, s', o, o', hr, hs, h => by
    simp only [M] at h
    obtain ⟨hi, v, h1, h2, h3⟩ := h
    obtain ⟨j, hj, hrf⟩ := hr i (by simp [refs]) hi
    have h0 := hs 0 (by simp [wid])
    simp at h0
    simp only [ren, hj, M]
    exact ⟨hrf.lt, v, by rw [h0]; exact h1, h2, h3.move hrf⟩
  | .clo f caps, s, s', o, o', hr, hs, h => by
    simp only [ren, M] at h ⊢
    have h0 := hs 0 (by simp [wid])
    simp at h0
    obtain ⟨vs, h1, h2⟩ := h
    exact ⟨vs, by rw [h0]; exact h1, MT_move hk hl ρ caps _ (by simpa [refs] using hr) h2⟩
  | .ifc T a, s, s', o, o', hr, hs, h => by
    simp only [ren, M] at h ⊢
    have h0 := hs 0 (by simp [wid])
    simp at h0
    obtain ⟨u, h1, h2, h3, h4⟩ := h
    exact ⟨u, by rw [h0]; exact h1, by rw [h2, wid_ren], by rw [h3, ren_wid], M_move hk hl ρ a _ _ _ _ (by simpa [refs] using hr) (fun j _ => rfl) h4⟩
  | .fmp K V ks vs, s, s', o, o', _, hs, h => by
    simp only [ren, M] at h ⊢
    have h0 := hs 0 (by simp [wid])
    simp at h0
    rw [h0, hk.P]
    rcases h with h | ⟨b, ents, clock, h1, h2, h3, h4, h5, h6, h7⟩
    · exact .inl h
    · exact .inr ⟨b, ents, clock, h1, hk.X b h2, by rw [hk.heap b h2]; exact h3, h4, h5, h6, MT_pure hk hl vs V _ h6 h7⟩
theorem ML_move {C C' : Ctx} (hk : Keeps C C') (hl : LayOK C.P) (ρ : Nat → Option Nat) : ∀ (l : List AV) (s s' : Src) (o o' : Nat),
    (∀ i, i ∈ refsL l → i < C.st.length → ∃ j, ρ i = some j ∧ RefOK C C' i j) →
    (∀ j, j < widL l → s' (o' + j) = s (o + j)) → ML C l s o → ML C' (renL ρ l) s' o'
  | [], _, _, _, _, _, _, _ => by simp [renL, ML]
  | a :: l, s, s', o, o', hr, hs, h => by
    simp only [renL, ML, widL] at h hs ⊢
    refine ⟨M_move hk hl ρ a s s' o o' (fun i hi => hr i (by simp [refsL, hi])) (fun j hj => hs j (by omega)) h.1, ?_⟩
    rw [ren_wid]
    refine ML_move hk hl ρ l s s' _ _ (fun i hi => hr i (by simp [refsL, hi])) (fun j hj => ?_) h.2
    have := hs (wid a + j) (by omega)
    rw [show o' + wid a + j = o' + (wid a + j) by omega, this]
    congr 1; omega
theorem MT_move {C C' : Ctx} (hk : Keeps C C') (hl : LayOK C.P) (ρ : Nat → Option Nat) : ∀ (l : List AV) (vs : List Value),
    (∀ i, i ∈ refsL l → i < C.st.length → ∃ j, ρ i = some j ∧ RefOK C C' i j) → MT C l vs → MT C' (renL ρ l) vs
  | [], vs, _, h => by simpa [renL, MT] using h
  | _ :: _, [], _, h => by simp [MT] at h
  | a :: l, v :: vs, hr, h => by
    simp only [renL, MT] at h ⊢
    refine ⟨?_, ?_, M_move hk hl ρ a _ _ _ _ (fun i hi => hr i (by simp [refsL, hi])) (fun j _ => rfl) h.2.2.1,
      MT_move hk hl ρ l vs (fun i hi => hr i (by simp [refsL, hi])) h.2.2.2⟩
    · rw [wid_ren]; exact h.1.imp id (fun e => by subst e; rfl)
    · rw [ren_wid]; exact h.2.1.imp id (fun e => by subst e; rfl)
end
theorem Rel.move {C C' : Ctx} (hk : Keeps C C') (hl : LayOK C.P) (ρ : Nat → Option Nat) {a : AV} {v : Value}
    (hr : ∀ i, i ∈ refs a → i < C.st.length → ∃ j, ρ i = some j ∧ RefOK C C' i j) (h : Rel C a v) : Rel C' (ren ρ a) v := by
  refine ⟨?_, ?_, M_move hk hl ρ a _ _ _ _ hr (fun j _ => rfl) h.2.2⟩
  · rw [wid_ren]; exact h.1.imp id (fun e => by subst e; rfl)
  · rw [ren_wid]; exact h.2.1.imp id (fun e => by subst e; rfl)
mutual
theorem ren_some : ∀ a : AV, ren some a = a
  | .agg l => by simp only [ren, renL_some l]
  | .tup l => by simp only [ren, renL_some l]
  | .clo f l => by simp only [ren, renL_some l]
  | .ifc T a => by simp only [ren, ren_some a]
  | .junk | .lit _ | .lst _ _ | .pim _ _ | .fmp _ _ _ _ => by simp [ren]
  | .slc i _ _ | .ptr i _ _ _ | .mp i | .yld i | .stp i _ => by simp [ren]
theorem renL_some : ∀ l : List AV, renL some l = l
  | [] => by simp [renL]
  | a :: l => by simp only [renL, ren_some a, renL_some l]
end
theorem M.keep {C C' : Ctx} (hk : Keeps C C') (hl : LayOK C.P) {a : AV} {s s' : Src} {o o' : Nat}
    (hr : ∀ i, i ∈ refs a → i < C.st.length → RefOK C C' i i) (hs : ∀ j, j < wid a → s' (o' + j) = s (o + j)) (h : M C a s o) : M C' a s' o' := by
  have := M_move hk hl some a s s' o o' (fun i hi hlt => ⟨i, rfl, hr i hi hlt⟩) hs h
  rwa [ren_some] at this
theorem Rel.keep {C C' : Ctx} (hk : Keeps C C') (hl : LayOK C.P) {a : AV} {v : Value}
    (hr : ∀ i, i ∈ refs a → i < C.st.length → RefOK C C' i i) (h : Rel C a v) : Rel C' a v := by
  have := h.move hk hl some (fun i hi hlt => ⟨i, rfl, hr i hi hlt⟩)
  rwa [ren_some] at this
end Go.Dn
