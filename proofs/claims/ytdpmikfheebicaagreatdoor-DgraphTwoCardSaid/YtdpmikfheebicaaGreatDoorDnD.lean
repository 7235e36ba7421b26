import Derived.Test.YtdpmikfheebicaaGreatDoorDnC
namespace Go.Dn
open Go
def wL (P : Program) : List Field → Nat → Nat → Prop
 | [], n, t => n = t
 | f :: fs, n, t => f.offset = n ∧ wL P fs (n + P.cellsOf f.type) t
def qt (P : Program) (T : TypeId) : Prop :=
 match P.underlying T with
 | some (.struct fs) => T < P.types.size → wL P fs.toList 0 (P.cellsOf T)
 | some (.array _ _) => True
 | some _ => P.cellsOf T = 1
 | none => True
def dR (P : Program) : Prop := ∀ T, qt P T
mutual
theorem cR {P : Program} (hl : dR P) : ∀ (a : AV) (T : TypeId), bk P a T → wid a = P.cellsOf T
 | .lit v, T, h => by
  have := hl T
  simp only [bk, qt] at h this
  simp only [wid]
  split at h <;> simp_all
 | .ae E l, T, h => by
  have := hl T
  simp only [bk] at h
  simp only [qt, h.1] at this
  simp [wid, this]
 | .agg l, T, h => by
  have hT := hl T
  simp only [bk] at h
  obtain ⟨fs, h1, h2⟩ := h
  simp only [qt, h1.1] at hT
  have := s9 hl l fs.toList 0 _ h2 (hT h1.2)
  simp only [wid]
  omega
 | .iz E a, T, h => by
  have := hl T
  simp only [bk] at h
  simp only [qt, h.1] at this
  simp [wid, this]
 | .gO U a, T, h => by
  have := hl T
  simp only [bk] at h
  obtain ⟨⟨ms, hm⟩, _⟩ := h
  simp only [qt, hm] at this
  simp [wid, this]
 | .iq K V ks vs, T, h => by
  have := hl T
  simp only [bk] at h
  simp only [qt, h.1] at this
  simp [wid, this]
 | .b7, _, h => by simp [bk] at h
 | .bj _, _, h => by simp [bk] at h
 | .aB _ _ _, _, h => by simp [bk] at h
 | .ptr _ _ _ _, _, h => by simp [bk] at h
 | .mp _, _, h => by simp [bk] at h
 | .ct _, _, h => by simp [bk] at h
 | .jk _ _, _, h => by simp [bk] at h
 | .bL _ _, _, h => by simp [bk] at h
theorem s9 {P : Program} (hl : dR P) : ∀ (l : List AV) (fs : List Field) (n t : Nat), cW P l fs → wL P fs n t → n + eh l = t
 | [], [], n, t, _, h => by simpa [wL, eh] using h
 | [], _ :: _, _, _, h, _ => by simp [cW] at h
 | _ :: _, [], _, _, h, _ => by simp [cW] at h
 | a :: l, f :: fs, n, t, h, hy => by
  simp only [cW] at h
  simp only [wL] at hy
  have := s9 hl l fs _ t h.2 hy.2
  have h1 := cR hl a f.type h.1
  simp only [eh]
  omega
end
structure bD (C C' : Ctx) : Prop where
 P : C'.P = C.P
 X : ∀ b, C.X b → C'.X b
 heap : ∀ b, C.X b → C'.w.heap[b]? = C.w.heap[b]?
theorem bD.cell {C C' : Ctx} (h : bD C C') {b : Nat} (hb : C.X b) (j : Nat) : C'.w.cell? ⟨b, j, none⟩ = C.w.cell? ⟨b, j, none⟩ := by
 unfold World.cell?
 rw [h.heap b hb]
theorem bD.refl (C : Ctx) : bD C C := ⟨rfl, fun _ h => h, fun _ _ => rfl⟩
theorem bD.trans {A B C : Ctx} (h : bD A B) (k : bD B C) : bD A C :=
 ⟨k.P.trans h.P, fun b hb => k.X b (h.X b hb), fun b hb => (k.heap b (h.X b hb)).trans (h.heap b hb)⟩
mutual
theorem lh {C C' : Ctx} (hk : bD C C') (hl : dR C.P) : ∀ (a : AV) (T : TypeId) (s s' : Src) (o o' : Nat), bk C.P a T →
  (∀ j, j < wid a → s' (o' + j) = s (o + j)) → M C a s o → M C' a s' o'
 | .lit v, T, s, s', o, o', _, hs, h => by
  simp only [M] at h ⊢
  have := hs 0 (by simp [wid])
  simp at this
  rw [this]; exact h
 | .ae E l, T, s, s', o, o', ht, hs, h => by
  simp only [M] at h ⊢
  have h0 := hs 0 (by simp [wid])
  simp at h0
  obtain ⟨h1, p, cap, h2, h3, h4⟩ := h
  rw [hk.P]
  refine ⟨h1, p, cap, by rw [h0]; exact h2, h3, fun hne => ?_⟩
  obtain ⟨b, off, hp, hb, hm⟩ := h4 hne
  refine ⟨b, off, hp, hk.X b hb, ?_⟩
  exact eL hk hl l E _ _ _ _ h1 (fun j _ => hk.cell hb _) hm
 | .agg l, T, s, s', o, o', ht, hs, h => by
  simp only [M] at h ⊢
  simp only [bk] at ht
  obtain ⟨fs, _, h2⟩ := ht
  exact Da hk hl l fs.toList s s' o o' h2 (by simpa [wid] using hs) h
 | .iz E a, T, s, s', o, o', ht, hs, h => by
  simp only [M] at h ⊢
  have h0 := hs 0 (by simp [wid])
  simp at h0
  simp only [bk] at ht
  obtain ⟨b, off, h1, h2, h3, h4⟩ := h
  rw [hk.P]
  exact ⟨b, off, by rw [h0]; exact h1, hk.X b h2, h3, lh hk hl a E _ _ _ _ ht.2 (fun j _ => hk.cell h2 _) h4⟩
 | .gO U a, T, s, s', o, o', ht, hs, h => by
  simp only [M] at h ⊢
  have h0 := hs 0 (by simp [wid])
  simp at h0
  simp only [bk] at ht
  obtain ⟨u, h1, h2, h3, h4⟩ := h
  exact ⟨u, by rw [h0]; exact h1, h2, h3, lh hk hl a U _ _ _ _ ht.2 (fun j _ => rfl) h4⟩
 | .iq K V ks vs, T, s, s', o, o', ht, hs, h => by
  simp only [M] at h ⊢
  have h0 := hs 0 (by simp [wid])
  simp at h0
  simp only [bk] at ht
  rw [h0, hk.P]
  rcases h with h | ⟨b, ents, clock, h1, h2, h3, h4, h5, h6, h7⟩
  ·exact .inl h
  ·exact .inr ⟨b, ents, clock, h1, hk.X b h2, by rw [hk.heap b h2]; exact h3, h4, h5, h6, nj hk hl vs V _ h6 h7⟩
 | .b7, _, _, _, _, _, h, _, _ => by simp [bk] at h
 | .bj _, _, _, _, _, _, h, _, _ => by simp [bk] at h
 | .aB _ _ _, _, _, _, _, _, h, _, _ => by simp [bk] at h
 | .ptr _ _ _ _, _, _, _, _, _, h, _, _ => by simp [bk] at h
 | .mp _, _, _, _, _, _, h, _, _ => by simp [bk] at h
 | .ct _, _, _, _, _, _, h, _, _ => by simp [bk] at h
 | .jk _ _, _, _, _, _, _, h, _, _ => by simp [bk] at h
 | .bL _ _, _, _, _, _, _, h, _, _ => by simp [bk] at h
theorem nj {C C' : Ctx} (hk : bD C C') (hl : dR C.P) : ∀ (l : List AV) (T : TypeId) (vs : List Value), bt C.P l T → MT C l vs → MT C' l vs
 | [], _, vs, _, h => by simpa [MT] using h
 | _ :: _, _, [], _, h => by simp [MT] at h
 | a :: l, T, v :: vs, ht, h => by
  simp only [bt] at ht
  simp only [MT] at h ⊢
  exact ⟨h.1, h.2.1, lh hk hl a T _ _ _ _ ht.1 (fun j _ => rfl) h.2.2.1, nj hk hl l T vs ht.2 h.2.2.2⟩
theorem Da {C C' : Ctx} (hk : bD C C') (hl : dR C.P) : ∀ (l : List AV) (fs : List Field) (s s' : Src) (o o' : Nat), cW C.P l fs →
  (∀ j, j < eh l → s' (o' + j) = s (o + j)) → ML C l s o → ML C' l s' o'
 | [], _, _, _, _, _, _, _, _ => by simp [ML]
 | _ :: _, [], _, _, _, _, h, _, _ => by simp [cW] at h
 | a :: l, f :: fs, s, s', o, o', ht, hs, h => by
  simp only [cW] at ht
  simp only [ML, eh] at h hs ⊢
  refine ⟨lh hk hl a f.type s s' o o' ht.1 (fun j hj => hs j (by omega)) h.1, Da hk hl l fs s s' _ _ ht.2 (fun j hj => ?_) h.2⟩
  have := hs (wid a + j) (by omega)
  rw [show o' + wid a + j = o' + (wid a + j) by omega, this]
  congr 1; omega
theorem eL {C C' : Ctx} (hk : bD C C') (hl : dR C.P) : ∀ (l : List AV) (T : TypeId) (s s' : Src) (o o' : Nat), bt C.P l T →
  (∀ j, j < l.length * C.P.cellsOf T → s' (o' + j) = s (o + j)) → MR C l (C.P.cellsOf T) s o → MR C' l (C.P.cellsOf T) s' o'
 | [], _, _, _, _, _, _, _, _ => by simp [MR]
 | a :: l, T, s, s', o, o', ht, hs, h => by
  simp only [bt] at ht
  simp only [MR] at h ⊢
  have hw := cR hl a T ht.1
  have hlen : (a :: l).length * C.P.cellsOf T = l.length * C.P.cellsOf T + C.P.cellsOf T := by simp [Nat.add_mul]
  refine ⟨lh hk hl a T s s' o o' ht.1 (fun j hj => hs j (by omega)) h.1, ?_⟩
  refine eL hk hl l T s s' (o + C.P.cellsOf T) (o' + C.P.cellsOf T) ht.2 (fun j hj => ?_) h.2
  have := hs (C.P.cellsOf T + j) (by omega)
  rw [show o' + C.P.cellsOf T + j = o' + (C.P.cellsOf T + j) by omega, this]
  congr 1; omega
end
structure dp (en : Array MapEntry) (cl : Nat) (en' : Array MapEntry) (cl' : Nat) : Prop where
 fwd : ∀ e, e ∈ en → ∃ e', e' ∈ en' ∧ e'.key = e.key ∧ e'.born = e.born
 bwd : ∀ e', e' ∈ en' → e'.born < cl → ∃ e, e ∈ en ∧ e.key = e'.key ∧ e.born = e'.born
 size : en'.size + cl = en.size + cl'
 le : cl ≤ cl'
theorem dp.refl (en : Array MapEntry) (cl : Nat) : dp en cl en cl := ⟨fun e he => ⟨e, he, rfl, rfl⟩, fun e he _ => ⟨e, he, rfl, rfl⟩, rfl, Nat.le_refl _⟩
theorem dp.trans {a b c : Array MapEntry} {x y z : Nat} (h : dp a x b y) (k : dp b y c z) : dp a x c z := by
 refine ⟨fun e he => ?_, fun e he hb => ?_, by have := h.size; have := k.size; omega, Nat.le_trans h.le k.le⟩
 ·obtain ⟨e1, h1, h2, h3⟩ := h.fwd e he
  obtain ⟨e2, k1, k2, k3⟩ := k.fwd e1 h1
  exact ⟨e2, k1, k2.trans h2, k3.trans h3⟩
 ·obtain ⟨e1, h1, h2, h3⟩ := k.bwd e he (Nat.lt_of_lt_of_le hb h.le)
  obtain ⟨e2, k1, k2, k3⟩ := h.bwd e1 h1 (by omega)
  exact ⟨e2, k1, k2.trans h2, k3.trans h3⟩
structure bP (C C' : Ctx) (i j : Nat) : Prop where
 lt : j < C'.st.length
 row : ∀ T xs', fP (ar C'.st j) = some (T, xs') → ∃ xs, fP (ar C.st i) = some (T, xs) ∧ C'.ι j = C.ι i ∧ xs.length ≤ xs'.length
 box : ∀ T a', ar C'.st j = .box T a' → ∃ a, ar C.st i = .box T a ∧ C'.ι j = C.ι i
 map : ∀ K V es', ar C'.st j = .map K V es' → ∃ es, ar C.st i = .map K V es ∧ C'.ι j = C.ι i ∧
  ∀ entries clock, C.w.heap[(C.ι i).block]? = some (.map entries clock) → ∃ entries' clock', C'.w.heap[(C.ι i).block]? = some (.map entries' clock') ∧
   dp entries clock entries' clock'
 loop : ∀ r', ar C'.st j = .loop r' → ∃ r, ar C.st i = .loop r ∧ C'.ι j = C.ι i
 iter : ∀ m n ks, ar C'.st j = .iter m n ks → ∃ m' ks', ar C.st i = .iter m' n ks' ∧ C'.ι j = C.ι i
 ext : ∀ t, ar C'.st j = .ext t → ∃ t', ar C.st i = .ext t' ∧ C'.ι j = C.ι i
 cL : ∀ s p, ar C'.st j = .cL s p → ∃ p', ar C.st i = .cL s p' ∧ C'.ι j = C.ι i
 fit : ∀ K V ks vs met, ar C'.st j = .fit K V ks vs met → ∃ met', ar C.st i = .fit K V ks vs met' ∧ C'.ι j = C.ι i
 rows : ∀ T E ls pd, ar C'.st j = .rows T E ls pd → ∃ ls' pd', ar C.st i = .rows T E ls' pd' ∧ C'.ι j = C.ι i ∧ ls.length = ls'.length ∧
  ∀ k m v, kb C (C.ι i).block E k (bw ls' k) m v → kb C' (C.ι i).block E k (bw ls k) m v
theorem lZ.move {C C' : Ctx} (hk : bD C C') {i j lo n : Nat} {v : Value} (h : bP C C' i j) (hv : lZ C i lo n v) : lZ C' j lo n v := by
 refine ⟨fun T xs' hx => ?_, fun T E ls pd hx => ?_⟩
 ·obtain ⟨xs, h1, h2, h3⟩ := h.row T xs' hx
  obtain ⟨h4, h5⟩ := hv.1 T xs h1
  rw [hk.P, h2]
  exact ⟨by omega, h5⟩
 ·obtain ⟨ls', pd', h1, h2, h3, h4⟩ := h.rows T E ls pd hx
  have h5 := hv.2 T E ls' pd' h1
  rw [h2]
  cases lo with
  | zero => exact ⟨by rw [h3]; exact h5.1, h5.2⟩
  | succ k => exact ⟨by rw [h3]; exact h5.1, h4 k n v h5.2⟩
theorem nv.move {C C' : Ctx} (hk : bD C C') {i j k off : Nat} {v : Value} (h : bP C C' i j) (hv : nv C i k off v) : nv C' j k off v := by
 refine ⟨fun T xs' hx => ?_, fun T a' hx => ?_, fun m n ks hx => ?_, fun s p hx => ?_, fun K V ks vs met hx => ?_, fun T E ls pd hx => ?_⟩
 ·obtain ⟨xs, h1, h2, h3⟩ := h.row T xs' hx
  obtain ⟨h4, h5⟩ := hv.1 T xs h1
  rw [hk.P, h2]
  exact ⟨by omega, h5⟩
 ·obtain ⟨a, h1, h2⟩ := h.box T a' hx
  rw [h2]
  exact hv.2.1 T a h1
 ·obtain ⟨m', ks', h1, h2⟩ := h.iter m n ks hx
  rw [h2]
  exact hv.2.2.1 _ _ _ h1
 ·obtain ⟨p', h1, h2⟩ := h.cL s p hx
  rw [h2]
  exact hv.2.2.2.1 _ _ h1
 ·obtain ⟨met', h1, h2⟩ := h.fit K V ks vs met hx
  rw [h2]
  exact hv.2.2.2.2.1 _ _ _ _ _ h1
 ·obtain ⟨ls', pd', h1, h2, h3, _⟩ := h.rows T E ls pd hx
  rw [h2, h3]
  exact hv.2.2.2.2.2 _ _ _ _ h1
theorem Gd.move {C C' : Ctx} {i j : Nat} {v : Value} (h : bP C C' i j) (hv : Gd C i v) : Gd C' j v := by
 intro K V es' hx
 obtain ⟨es, h1, h2, _⟩ := h.map K V es' hx
 rw [h2]; exact hv K V es h1
theorem vf.move {C C' : Ctx} {i j : Nat} {v : Value} (h : bP C C' i j) (hv : vf C i v) : vf C' j v := by
 refine ⟨fun r' hx => ?_, fun t hx => ?_⟩
 ·obtain ⟨r, h1, h2⟩ := h.loop r' hx
  rw [h2]; exact hv.1 r h1
 ·obtain ⟨r, h1, h2⟩ := h.ext t hx
  rw [h2]; exact hv.2 r h1
theorem sv.move {C C' : Ctx} {i j : Nat} {key v : Value} (h : bP C C' i j) (hv : sv C i key v) : sv C' j key v := by
 intro K V es' hx
 obtain ⟨es, h1, h2, h3⟩ := h.map K V es' hx
 obtain ⟨entries, clock, hh, e, he, hek, hv'⟩ := hv K V es h1
 obtain ⟨entries', clock', hh', hall⟩ := h3 entries clock hh
 obtain ⟨e', he', hk', hb'⟩ := hall.fwd e he
 rw [h2]
 exact ⟨entries', clock', hh', e', he', by rw [hk', hek], by rw [hb']; exact hv'⟩
@[simp] theorem wM (ρ : Nat → Option Nat) : ∀ a : AV, bE (j3 ρ a) = bE a
 | .agg l => by simp [j3, bE]
 | .b7 | .lit _ | .ae _ _ | .bj _ | .iz _ _ | .bL _ _ | .gO _ _ | .iq _ _ _ _ => by simp [j3, bE]
 | .aB i _ _ | .ptr i _ _ _ | .mp i | .ct i | .jk i _ => by simp only [j3]; split <;> simp [bE]
mutual
theorem mZ (ρ : Nat → Option Nat) : ∀ a : AV, wid (j3 ρ a) = wid a
 | .agg l => by simp only [j3, wid]; exact yA ρ l
 | .b7 | .lit _ | .ae _ _ | .bj _ | .iz _ _ | .bL _ _ | .gO _ _ | .iq _ _ _ _ => by simp [j3, wid]
 | .aB i _ _ | .ptr i _ _ _ | .mp i | .ct i | .jk i _ => by simp only [j3]; split <;> simp [wid]
theorem yA (ρ : Nat → Option Nat) : ∀ l : List AV, eh (fo ρ l) = eh l
 | [] => by simp [fo, eh]
 | a :: l => by simp only [fo, eh, mZ ρ a, yA ρ l]
end
mutual
theorem qk {C C' : Ctx} (hk : bD C C') (hl : dR C.P) (ρ : Nat → Option Nat) : ∀ (a : AV) (s s' : Src) (o o' : Nat),
  (∀ i, i ∈ refs a → i < C.st.length → ∃ j, ρ i = some j ∧ bP C C' i j) →
  (∀ j, j < wid a → s' (o' + j) = s (o + j)) → M C a s o → M C' (j3 ρ a) s' o'
 | .b7, _, _, _, _, _, _, _ => by simp [j3, M]
 | .lit v, s, s', o, o', _, hs, h => by
  simp only [j3, M] at h ⊢
  have := hs 0 (by simp [wid])
  simp at this
  rw [this]; exact h
 | .ae E l, s, s', o, o', _, hs, h => by
  simp only [j3, M] at h ⊢
  have h0 := hs 0 (by simp [wid])
  simp at h0
  obtain ⟨h1, p, cap, h2, h3, h4⟩ := h
  rw [hk.P]
  refine ⟨h1, p, cap, by rw [h0]; exact h2, h3, fun hne => ?_⟩
  obtain ⟨b, off, hp, hb, hm⟩ := h4 hne
  exact ⟨b, off, hp, hk.X b hb, eL hk hl l E _ _ _ _ h1 (fun j _ => hk.cell hb _) hm⟩
 | .agg l, s, s', o, o', hr, hs, h => by
  simp only [j3, M] at h ⊢
  exact CU hk hl ρ l s s' o o' (by simpa [refs] using hr) (by simpa [wid] using hs) h
 | .bj l, s, s', o, o', hr, hs, h => by
  simp only [j3, M] at h ⊢
  have h0 := hs 0 (by simp [wid])
  simp at h0
  obtain ⟨vs, h1, h2⟩ := h
  exact ⟨vs, by rw [h0]; exact h1, kM hk hl ρ l _ (by simpa [refs] using hr) h2⟩
 | .aB i lo n, s, s', o, o', hr, hs, h => by
  simp only [M] at h
  obtain ⟨hi, v, h1, h2, h3⟩ := h
  obtain ⟨j, hj, hrf⟩ := hr i (by simp [refs]) hi
  have h0 := hs 0 (by simp [wid])
  simp at h0
  simp only [j3, hj, M]
  exact ⟨hrf.lt, v, by rw [h0]; exact h1, h2, h3.move hk hrf⟩
 | .ptr i k p off, s, s', o, o', hr, hs, h => by
  simp only [M] at h
  obtain ⟨hi, v, h1, h2, h3⟩ := h
  obtain ⟨j, hj, hrf⟩ := hr i (by simp [refs]) hi
  have h0 := hs 0 (by simp [wid])
  simp at h0
  simp only [j3, hj, M]
  exact ⟨hrf.lt, v, by rw [h0]; exact h1, h2, h3.move hk hrf⟩
 | .iz T a, s, s', o, o', _, hs, h => by
  simp only [j3, M] at h ⊢
  have h0 := hs 0 (by simp [wid])
  simp at h0
  obtain ⟨b, off, h1, h2, h3, h4⟩ := h
  rw [hk.P]
  exact ⟨b, off, by rw [h0]; exact h1, hk.X b h2, h3, lh hk hl a T _ _ _ _ h3 (fun j _ => hk.cell h2 _) h4⟩
 | .mp i, s, s', o, o', hr, hs, h => by
  simp only [M] at h
  obtain ⟨hi, v, h1, h2, h3⟩ := h
  obtain ⟨j, hj, hrf⟩ := hr i (by simp [refs]) hi
  have h0 := hs 0 (by simp [wid])
  simp at h0
  simp only [j3, hj, M]
  exact ⟨hrf.lt, v, by rw [h0]; exact h1, h2, h3.move hrf⟩
 | .ct i, s, s', o, o', hr, hs, h => by
  simp only [M] at h
  obtain ⟨hi, v, h1, h2, h3⟩ := h
  obtain ⟨j, hj, hrf⟩ := hr i (by simp [refs]) hi
  have h0 := hs 0 (by simp [wid])
  simp at h0
  simp only [j3, hj, M]
  exact ⟨hrf.lt, v, by rw [h0]; exact h1, h2, h3.move hrf⟩
 | .jk i key, s, s', o, o', hr, hs, h => by
  simp only [M] at h
  obtain ⟨hi, v, h1, h2, h3⟩ := h
  obtain ⟨j, hj, hrf⟩ := hr i (by simp [refs]) hi
  have h0 := hs 0 (by simp [wid])
  simp at h0
  simp only [j3, hj, M]
  exact ⟨hrf.lt, v, by rw [h0]; exact h1, h2, h3.move hrf⟩
 | .bL f caps, s, s', o, o', hr, hs, h => by
  simp only [j3, M] at h ⊢
  have h0 := hs 0 (by simp [wid])
  simp at h0
  obtain ⟨vs, h1, h2⟩ := h
  exact ⟨vs, by rw [h0]; exact h1, kM hk hl ρ caps _ (by simpa [refs] using hr) h2⟩
 | .gO T a, s, s', o, o', hr, hs, h => by
  simp only [j3, M] at h ⊢
  have h0 := hs 0 (by simp [wid])
  simp at h0
  obtain ⟨u, h1, h2, h3, h4⟩ := h
  exact ⟨u, by rw [h0]; exact h1, by rw [h2, wM], by rw [h3, mZ], qk hk hl ρ a _ _ _ _ (by simpa [refs] using hr) (fun j _ => rfl) h4⟩
 | .iq K V ks vs, s, s', o, o', _, hs, h => by
  simp only [j3, M] at h ⊢
  have h0 := hs 0 (by simp [wid])
  simp at h0
  rw [h0, hk.P]
  rcases h with h | ⟨b, ents, clock, h1, h2, h3, h4, h5, h6, h7⟩
  ·exact .inl h
  ·exact .inr ⟨b, ents, clock, h1, hk.X b h2, by rw [hk.heap b h2]; exact h3, h4, h5, h6, nj hk hl vs V _ h6 h7⟩
theorem CU {C C' : Ctx} (hk : bD C C') (hl : dR C.P) (ρ : Nat → Option Nat) : ∀ (l : List AV) (s s' : Src) (o o' : Nat),
  (∀ i, i ∈ cw l → i < C.st.length → ∃ j, ρ i = some j ∧ bP C C' i j) →
  (∀ j, j < eh l → s' (o' + j) = s (o + j)) → ML C l s o → ML C' (fo ρ l) s' o'
 | [], _, _, _, _, _, _, _ => by simp [fo, ML]
 | a :: l, s, s', o, o', hr, hs, h => by
  simp only [fo, ML, eh] at h hs ⊢
  refine ⟨qk hk hl ρ a s s' o o' (fun i hi => hr i (by simp [cw, hi])) (fun j hj => hs j (by omega)) h.1, ?_⟩
  rw [mZ]
  refine CU hk hl ρ l s s' _ _ (fun i hi => hr i (by simp [cw, hi])) (fun j hj => ?_) h.2
  have := hs (wid a + j) (by omega)
  rw [show o' + wid a + j = o' + (wid a + j) by omega, this]
  congr 1; omega
theorem kM {C C' : Ctx} (hk : bD C C') (hl : dR C.P) (ρ : Nat → Option Nat) : ∀ (l : List AV) (vs : List Value),
  (∀ i, i ∈ cw l → i < C.st.length → ∃ j, ρ i = some j ∧ bP C C' i j) → MT C l vs → MT C' (fo ρ l) vs
 | [], vs, _, h => by simpa [fo, MT] using h
 | _ :: _, [], _, h => by simp [MT] at h
 | a :: l, v :: vs, hr, h => by
  simp only [fo, MT] at h ⊢
  refine ⟨?_, ?_, qk hk hl ρ a _ _ _ _ (fun i hi => hr i (by simp [cw, hi])) (fun j _ => rfl) h.2.2.1,
   kM hk hl ρ l vs (fun i hi => hr i (by simp [cw, hi])) h.2.2.2⟩
  ·rw [wM]; exact h.1.imp id (fun e => by subst e; rfl)
  ·rw [mZ]; exact h.2.1.imp id (fun e => by subst e; rfl)
end
theorem Rel.move {C C' : Ctx} (hk : bD C C') (hl : dR C.P) (ρ : Nat → Option Nat) {a : AV} {v : Value}
  (hr : ∀ i, i ∈ refs a → i < C.st.length → ∃ j, ρ i = some j ∧ bP C C' i j) (h : Rel C a v) : Rel C' (j3 ρ a) v := by
 refine ⟨?_, ?_, qk hk hl ρ a _ _ _ _ hr (fun j _ => rfl) h.2.2⟩
 ·rw [wM]; exact h.1.imp id (fun e => by subst e; rfl)
 ·rw [mZ]; exact h.2.1.imp id (fun e => by subst e; rfl)
mutual
theorem kB : ∀ a : AV, j3 some a = a
 | .agg l => by simp only [j3, gi l]
 | .bj l => by simp only [j3, gi l]
 | .bL f l => by simp only [j3, gi l]
 | .gO T a => by simp only [j3, kB a]
 | .b7 | .lit _ | .ae _ _ | .iz _ _ | .iq _ _ _ _ => by simp [j3]
 | .aB i _ _ | .ptr i _ _ _ | .mp i | .ct i | .jk i _ => by simp [j3]
theorem gi : ∀ l : List AV, fo some l = l
 | [] => by simp [fo]
 | a :: l => by simp only [fo, kB a, gi l]
end
theorem M.dN {C C' : Ctx} (hk : bD C C') (hl : dR C.P) {a : AV} {s s' : Src} {o o' : Nat}
  (hr : ∀ i, i ∈ refs a → i < C.st.length → bP C C' i i) (hs : ∀ j, j < wid a → s' (o' + j) = s (o + j)) (h : M C a s o) : M C' a s' o' := by
 have := qk hk hl some a s s' o o' (fun i hi hlt => ⟨i, rfl, hr i hi hlt⟩) hs h
 rwa [kB] at this
theorem Rel.dN {C C' : Ctx} (hk : bD C C') (hl : dR C.P) {a : AV} {v : Value}
  (hr : ∀ i, i ∈ refs a → i < C.st.length → bP C C' i i) (h : Rel C a v) : Rel C' a v := by
 have := h.move hk hl some (fun i hi hlt => ⟨i, rfl, hr i hi hlt⟩)
 rwa [kB] at this
end Go.Dn
