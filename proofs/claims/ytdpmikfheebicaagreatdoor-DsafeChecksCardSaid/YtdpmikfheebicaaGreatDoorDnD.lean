import Derived.Test.YtdpmikfheebicaaGreatDoorDnC
namespace Go.Dn
open Go
def yO (P : Program) : List Field → Nat → Nat → Prop
 | [], n, t => n = t
 | f :: fs, n, t => f.offset = n ∧ yO P fs (n + P.cellsOf f.type) t
def vf (P : Program) (T : TypeId) : Prop :=
 match P.underlying T with
 | some (.struct fs) => T < P.types.size → yO P fs.toList 0 (P.cellsOf T)
 | some (.array _ _) => True
 | some _ => P.cellsOf T = 1
 | none => True
def eQ (P : Program) : Prop := ∀ T, vf P T
mutual
theorem da {P : Program} (hl : eQ P) : ∀ (a : AV) (T : TypeId), bE P a T → wid a = P.cellsOf T
 | .lit v, T, h => by
  have := hl T
  simp only [bE, vf] at h this
  simp only [wid]
  split at h <;> simp_all
 | .ae E l, T, h => by
  have := hl T
  simp only [bE] at h
  simp only [vf, h.1] at this
  simp [wid, this]
 | .agg l, T, h => by
  have hT := hl T
  simp only [bE] at h
  obtain ⟨fs, h1, h2⟩ := h
  simp only [vf, h1.1] at hT
  have := uT hl l fs.toList 0 _ h2 (hT h1.2)
  simp only [wid]
  omega
 | .jH E a, T, h => by
  have := hl T
  simp only [bE] at h
  simp only [vf, h.1] at this
  simp [wid, this]
 | .jb U a, T, h => by
  have := hl T
  simp only [bE] at h
  obtain ⟨⟨ms, hm⟩, _⟩ := h
  simp only [vf, hm] at this
  simp [wid, this]
 | .cw, _, h => by simp [bE] at h
 | .bR _, _, h => by simp [bE] at h
 | .a7 _ _ _, _, h => by simp [bE] at h
 | .ptr _ _ _ _, _, h => by simp [bE] at h
 | .mp _, _, h => by simp [bE] at h
 | .dv _, _, h => by simp [bE] at h
 | .kr _ _, _, h => by simp [bE] at h
 | .dq _ _, _, h => by simp [bE] at h
theorem uT {P : Program} (hl : eQ P) : ∀ (l : List AV) (fs : List Field) (n t : Nat), dk P l fs → yO P fs n t → n + eG l = t
 | [], [], n, t, _, h => by simpa [yO, eG] using h
 | [], _ :: _, _, _, h, _ => by simp [dk] at h
 | _ :: _, [], _, _, h, _ => by simp [dk] at h
 | a :: l, f :: fs, n, t, h, hy => by
  simp only [dk] at h
  simp only [yO] at hy
  have := uT hl l fs _ t h.2 hy.2
  have h1 := da hl a f.type h.1
  simp only [eG]
  omega
end
structure bL (C C' : Ctx) : Prop where
 P : C'.P = C.P
 X : ∀ b, C.X b → C'.X b
 heap : ∀ b, C.X b → C'.w.heap[b]? = C.w.heap[b]?
theorem bL.cell {C C' : Ctx} (h : bL C C') {b : Nat} (hb : C.X b) (j : Nat) : C'.w.cell? ⟨b, j, none⟩ = C.w.cell? ⟨b, j, none⟩ := by
 unfold World.cell?
 rw [h.heap b hb]
theorem bL.refl (C : Ctx) : bL C C := ⟨rfl, fun _ h => h, fun _ _ => rfl⟩
theorem bL.trans {A B C : Ctx} (h : bL A B) (k : bL B C) : bL A C :=
 ⟨k.P.trans h.P, fun b hb => k.X b (h.X b hb), fun b hb => (k.heap b (h.X b hb)).trans (h.heap b hb)⟩
mutual
theorem pA {C C' : Ctx} (hk : bL C C') (hl : eQ C.P) : ∀ (a : AV) (T : TypeId) (s s' : Src) (o o' : Nat), bE C.P a T →
  (∀ j, j < wid a → s' (o' + j) = s (o + j)) → M C a s o → M C' a s' o'
 | .lit v, T, s, s', o, o', _, hs, h => by
  simp only [M] at h ⊢
  have := hs 0 (by simp [wid])
  simp at this
  rw [this]; exact h
 | .ae E l, T, s, s', o, o', ht, hs, h => by
  simp only [M] at h ⊢
  have h0 := hs 0 (by simp [wid])
  simp at h0
  obtain ⟨h1, p, cap, h2, h3, h4⟩ := h
  rw [hk.P]
  refine ⟨h1, p, cap, by rw [h0]; exact h2, h3, fun hne => ?_⟩
  obtain ⟨b, off, hp, hb, hm⟩ := h4 hne
  refine ⟨b, off, hp, hk.X b hb, ?_⟩
  exact fW hk hl l E _ _ _ _ h1 (fun j _ => hk.cell hb _) hm
 | .agg l, T, s, s', o, o', ht, hs, h => by
  simp only [M] at h ⊢
  simp only [bE] at ht
  obtain ⟨fs, _, h2⟩ := ht
  exact D0 hk hl l fs.toList s s' o o' h2 (by simpa [wid] using hs) h
 | .jH E a, T, s, s', o, o', ht, hs, h => by
  simp only [M] at h ⊢
  have h0 := hs 0 (by simp [wid])
  simp at h0
  simp only [bE] at ht
  obtain ⟨b, off, h1, h2, h3, h4⟩ := h
  rw [hk.P]
  exact ⟨b, off, by rw [h0]; exact h1, hk.X b h2, h3, pA hk hl a E _ _ _ _ ht.2 (fun j _ => hk.cell h2 _) h4⟩
 | .jb U a, T, s, s', o, o', ht, hs, h => by
  simp only [M] at h ⊢
  have h0 := hs 0 (by simp [wid])
  simp at h0
  simp only [bE] at ht
  obtain ⟨u, h1, h2, h3, h4⟩ := h
  exact ⟨u, by rw [h0]; exact h1, h2, h3, pA hk hl a U _ _ _ _ ht.2 (fun j _ => rfl) h4⟩
 | .cw, _, _, _, _, _, h, _, _ => by simp [bE] at h
 | .bR _, _, _, _, _, _, h, _, _ => by simp [bE] at h
 | .a7 _ _ _, _, _, _, _, _, h, _, _ => by simp [bE] at h
 | .ptr _ _ _ _, _, _, _, _, _, h, _, _ => by simp [bE] at h
 | .mp _, _, _, _, _, _, h, _, _ => by simp [bE] at h
 | .dv _, _, _, _, _, _, h, _, _ => by simp [bE] at h
 | .kr _ _, _, _, _, _, _, h, _, _ => by simp [bE] at h
 | .dq _ _, _, _, _, _, _, h, _, _ => by simp [bE] at h
theorem D0 {C C' : Ctx} (hk : bL C C') (hl : eQ C.P) : ∀ (l : List AV) (fs : List Field) (s s' : Src) (o o' : Nat), dk C.P l fs →
  (∀ j, j < eG l → s' (o' + j) = s (o + j)) → ML C l s o → ML C' l s' o'
 | [], _, _, _, _, _, _, _, _ => by simp [ML]
 | _ :: _, [], _, _, _, _, h, _, _ => by simp [dk] at h
 | a :: l, f :: fs, s, s', o, o', ht, hs, h => by
  simp only [dk] at ht
  simp only [ML, eG] at h hs ⊢
  refine ⟨pA hk hl a f.type s s' o o' ht.1 (fun j hj => hs j (by omega)) h.1, D0 hk hl l fs s s' _ _ ht.2 (fun j hj => ?_) h.2⟩
  have := hs (wid a + j) (by omega)
  rw [show o' + wid a + j = o' + (wid a + j) by omega, this]
  congr 1; omega
theorem fW {C C' : Ctx} (hk : bL C C') (hl : eQ C.P) : ∀ (l : List AV) (T : TypeId) (s s' : Src) (o o' : Nat), bW C.P l T →
  (∀ j, j < l.length * C.P.cellsOf T → s' (o' + j) = s (o + j)) → MR C l (C.P.cellsOf T) s o → MR C' l (C.P.cellsOf T) s' o'
 | [], _, _, _, _, _, _, _, _ => by simp [MR]
 | a :: l, T, s, s', o, o', ht, hs, h => by
  simp only [bW] at ht
  simp only [MR] at h ⊢
  have hw := da hl a T ht.1
  have hlen : (a :: l).length * C.P.cellsOf T = l.length * C.P.cellsOf T + C.P.cellsOf T := by simp [Nat.add_mul]
  refine ⟨pA hk hl a T s s' o o' ht.1 (fun j hj => hs j (by omega)) h.1, ?_⟩
  refine fW hk hl l T s s' (o + C.P.cellsOf T) (o' + C.P.cellsOf T) ht.2 (fun j hj => ?_) h.2
  have := hs (C.P.cellsOf T + j) (by omega)
  rw [show o' + C.P.cellsOf T + j = o' + (C.P.cellsOf T + j) by omega, this]
  congr 1; omega
end
structure dG (en : Array MapEntry) (cl : Nat) (en' : Array MapEntry) (cl' : Nat) : Prop where
 fwd : ∀ e, e ∈ en → ∃ e', e' ∈ en' ∧ e'.key = e.key ∧ e'.born = e.born
 bwd : ∀ e', e' ∈ en' → e'.born < cl → ∃ e, e ∈ en ∧ e.key = e'.key ∧ e.born = e'.born
 size : en'.size + cl = en.size + cl'
 le : cl ≤ cl'
theorem dG.refl (en : Array MapEntry) (cl : Nat) : dG en cl en cl := ⟨fun e he => ⟨e, he, rfl, rfl⟩, fun e he _ => ⟨e, he, rfl, rfl⟩, rfl, Nat.le_refl _⟩
theorem dG.trans {a b c : Array MapEntry} {x y z : Nat} (h : dG a x b y) (k : dG b y c z) : dG a x c z := by
 refine ⟨fun e he => ?_, fun e he hb => ?_, by have := h.size; have := k.size; omega, Nat.le_trans h.le k.le⟩
 ·obtain ⟨e1, h1, h2, h3⟩ := h.fwd e he
  obtain ⟨e2, k1, k2, k3⟩ := k.fwd e1 h1
  exact ⟨e2, k1, k2.trans h2, k3.trans h3⟩
 ·obtain ⟨e1, h1, h2, h3⟩ := k.bwd e he (Nat.lt_of_lt_of_le hb h.le)
  obtain ⟨e2, k1, k2, k3⟩ := h.bwd e1 h1 (by omega)
  exact ⟨e2, k1, k2.trans h2, k3.trans h3⟩
structure cd (C C' : Ctx) (i j : Nat) : Prop where
 lt : j < C'.st.length
 row : ∀ T xs', iE (aD C'.st j) = some (T, xs') → ∃ xs, iE (aD C.st i) = some (T, xs) ∧ C'.ι j = C.ι i ∧ xs.length ≤ xs'.length
 box : ∀ T a', aD C'.st j = .box T a' → ∃ a, aD C.st i = .box T a ∧ C'.ι j = C.ι i
 map : ∀ K V es', aD C'.st j = .map K V es' → ∃ es, aD C.st i = .map K V es ∧ C'.ι j = C.ι i ∧
  ∀ entries clock, C.w.heap[(C.ι i).block]? = some (.map entries clock) → ∃ entries' clock', C'.w.heap[(C.ι i).block]? = some (.map entries' clock') ∧
   dG entries clock entries' clock'
 loop : ∀ r', aD C'.st j = .loop r' → ∃ r, aD C.st i = .loop r ∧ C'.ι j = C.ι i
 iter : ∀ m n ks, aD C'.st j = .iter m n ks → ∃ m' ks', aD C.st i = .iter m' n ks' ∧ C'.ι j = C.ι i
 ext : ∀ t, aD C'.st j = .ext t → ∃ t', aD C.st i = .ext t' ∧ C'.ι j = C.ι i
 db : ∀ s p, aD C'.st j = .db s p → ∃ p', aD C.st i = .db s p' ∧ C'.ι j = C.ι i
theorem oI.move {C C' : Ctx} (hk : bL C C') {i j lo n : Nat} {v : Value} (h : cd C C' i j) (hv : oI C i lo n v) : oI C' j lo n v := by
 intro T xs' hx
 obtain ⟨xs, h1, h2, h3⟩ := h.row T xs' hx
 obtain ⟨h4, h5⟩ := hv T xs h1
 rw [hk.P, h2]
 exact ⟨by omega, h5⟩
theorem qh.move {C C' : Ctx} (hk : bL C C') {i j k off : Nat} {v : Value} (h : cd C C' i j) (hv : qh C i k off v) : qh C' j k off v := by
 refine ⟨fun T xs' hx => ?_, fun T a' hx => ?_, fun m n ks hx => ?_, fun s p hx => ?_⟩
 ·obtain ⟨xs, h1, h2, h3⟩ := h.row T xs' hx
  obtain ⟨h4, h5⟩ := hv.1 T xs h1
  rw [hk.P, h2]
  exact ⟨by omega, h5⟩
 ·obtain ⟨a, h1, h2⟩ := h.box T a' hx
  rw [h2]
  exact hv.2.1 T a h1
 ·obtain ⟨m', ks', h1, h2⟩ := h.iter m n ks hx
  rw [h2]
  exact hv.2.2.1 _ _ _ h1
 ·obtain ⟨p', h1, h2⟩ := h.db s p hx
  rw [h2]
  exact hv.2.2.2 _ _ h1
theorem Ha.move {C C' : Ctx} {i j : Nat} {v : Value} (h : cd C C' i j) (hv : Ha C i v) : Ha C' j v := by
 intro K V es' hx
 obtain ⟨es, h1, h2, _⟩ := h.map K V es' hx
 rw [h2]; exact hv K V es h1
theorem wy.move {C C' : Ctx} {i j : Nat} {v : Value} (h : cd C C' i j) (hv : wy C i v) : wy C' j v := by
 refine ⟨fun r' hx => ?_, fun t hx => ?_⟩
 ·obtain ⟨r, h1, h2⟩ := h.loop r' hx
  rw [h2]; exact hv.1 r h1
 ·obtain ⟨r, h1, h2⟩ := h.ext t hx
  rw [h2]; exact hv.2 r h1
theorem tX.move {C C' : Ctx} {i j : Nat} {key v : Value} (h : cd C C' i j) (hv : tX C i key v) : tX C' j key v := by
 intro K V es' hx
 obtain ⟨es, h1, h2, h3⟩ := h.map K V es' hx
 obtain ⟨entries, clock, hh, e, he, hek, hv'⟩ := hv K V es h1
 obtain ⟨entries', clock', hh', hall⟩ := h3 entries clock hh
 obtain ⟨e', he', hk', hb'⟩ := hall.fwd e he
 rw [h2]
 exact ⟨entries', clock', hh', e', he', by rw [hk', hek], by rw [hb']; exact hv'⟩
@[simp] theorem yM (ρ : Nat → Option Nat) : ∀ a : AV, bP (kR ρ a) = bP a
 | .agg l => by simp [kR, bP]
 | .cw | .lit _ | .ae _ _ | .bR _ | .jH _ _ | .dq _ _ | .jb _ _ => by simp [kR, bP]
 | .a7 i _ _ | .ptr i _ _ _ | .mp i | .dv i | .kr i _ => by simp only [kR]; split <;> simp [bP]
mutual
theorem nY (ρ : Nat → Option Nat) : ∀ a : AV, wid (kR ρ a) = wid a
 | .agg l => by simp only [kR, wid]; exact zN ρ l
 | .cw | .lit _ | .ae _ _ | .bR _ | .jH _ _ | .dq _ _ | .jb _ _ => by simp [kR, wid]
 | .a7 i _ _ | .ptr i _ _ _ | .mp i | .dv i | .kr i _ => by simp only [kR]; split <;> simp [wid]
theorem zN (ρ : Nat → Option Nat) : ∀ l : List AV, eG (gB ρ l) = eG l
 | [] => by simp [gB, eG]
 | a :: l => by simp only [gB, eG, nY ρ a, zN ρ l]
end
mutual
theorem rn {C C' : Ctx} (hk : bL C C') (hl : eQ C.P) (ρ : Nat → Option Nat) : ∀ (a : AV) (s s' : Src) (o o' : Nat),
  (∀ i, i ∈ refs a → i < C.st.length → ∃ j, ρ i = some j ∧ cd C C' i j) →
  (∀ j, j < wid a → s' (o' + j) = s (o + j)) → M C a s o → M C' (kR ρ a) s' o'
 | .cw, _, _, _, _, _, _, _ => by simp [kR, M]
 | .lit v, s, s', o, o', _, hs, h => by
  simp only [kR, M] at h ⊢
  have := hs 0 (by simp [wid])
  simp at this
  rw [this]; exact h
 | .ae E l, s, s', o, o', _, hs, h => by
  simp only [kR, M] at h ⊢
  have h0 := hs 0 (by simp [wid])
  simp at h0
  obtain ⟨h1, p, cap, h2, h3, h4⟩ := h
  rw [hk.P]
  refine ⟨h1, p, cap, by rw [h0]; exact h2, h3, fun hne => ?_⟩
  obtain ⟨b, off, hp, hb, hm⟩ := h4 hne
  exact ⟨b, off, hp, hk.X b hb, fW hk hl l E _ _ _ _ h1 (fun j _ => hk.cell hb _) hm⟩
 | .agg l, s, s', o, o', hr, hs, h => by
  simp only [kR, M] at h ⊢
  exact E3 hk hl ρ l s s' o o' (by simpa [refs] using hr) (by simpa [wid] using hs) h
 | .bR l, s, s', o, o', hr, hs, h => by
  simp only [kR, M] at h ⊢
  have h0 := hs 0 (by simp [wid])
  simp at h0
  obtain ⟨vs, h1, h2⟩ := h
  exact ⟨vs, by rw [h0]; exact h1, l9 hk hl ρ l _ (by simpa [refs] using hr) h2⟩
 | .a7 i lo n, s, s', o, o', hr, hs, h => by
  simp only [M] at h
  obtain ⟨hi, v, h1, h2, h3⟩ := h
  obtain ⟨j, hj, hrf⟩ := hr i (by simp [refs]) hi
  have h0 := hs 0 (by simp [wid])
  simp at h0
  simp only [kR, hj, M]
  exact ⟨hrf.lt, v, by rw [h0]; exact h1, h2, h3.move hk hrf⟩
 | .ptr i k p off, s, s', o, o', hr, hs, h => by
  simp only [M] at h
  obtain ⟨hi, v, h1, h2, h3⟩ := h
  obtain ⟨j, hj, hrf⟩ := hr i (by simp [refs]) hi
  have h0 := hs 0 (by simp [wid])
  simp at h0
  simp only [kR, hj, M]
  exact ⟨hrf.lt, v, by rw [h0]; exact h1, h2, h3.move hk hrf⟩
 | .jH T a, s, s', o, o', _, hs, h => by
  simp only [kR, M] at h ⊢
  have h0 := hs 0 (by simp [wid])
  simp at h0
  obtain ⟨b, off, h1, h2, h3, h4⟩ := h
  rw [hk.P]
  exact ⟨b, off, by rw [h0]; exact h1, hk.X b h2, h3, pA hk hl a T _ _ _ _ h3 (fun j _ => hk.cell h2 _) h4⟩
 | .mp i, s, s', o, o', hr, hs, h => by
  simp only [M] at h
  obtain ⟨hi, v, h1, h2, h3⟩ := h
  obtain ⟨j, hj, hrf⟩ := hr i (by simp [refs]) hi
  have h0 := hs 0 (by simp [wid])
  simp at h0
  simp only [kR, hj, M]
  exact ⟨hrf.lt, v, by rw [h0]; exact h1, h2, h3.move hrf⟩
 | .dv i, s, s', o, o', hr, hs, h => by
  simp only [M] at h
  obtain ⟨hi, v, h1, h2, h3⟩ := h
  obtain ⟨j, hj, hrf⟩ := hr i (by simp [refs]) hi
  have h0 := hs 0 (by simp [wid])
  simp at h0
  simp only [kR, hj, M]
  exact ⟨hrf.lt, v, by rw [h0]; exact h1, h2, h3.move hrf⟩
 | .kr i key, s, s', o, o', hr, hs, h => by
  simp only [M] at h
  obtain ⟨hi, v, h1, h2, h3⟩ := h
  obtain ⟨j, hj, hrf⟩ := hr i (by simp [refs]) hi
  have h0 := hs 0 (by simp [wid])
  simp at h0
  simp only [kR, hj, M]
  exact ⟨hrf.lt, v, by rw [h0]; exact h1, h2, h3.move hrf⟩
 | .dq f caps, s, s', o, o', hr, hs, h => by
  simp only [kR, M] at h ⊢
  have h0 := hs 0 (by simp [wid])
  simp at h0
  obtain ⟨vs, h1, h2⟩ := h
  exact ⟨vs, by rw [h0]; exact h1, l9 hk hl ρ caps _ (by simpa [refs] using hr) h2⟩
 | .jb T a, s, s', o, o', hr, hs, h => by
  simp only [kR, M] at h ⊢
  have h0 := hs 0 (by simp [wid])
  simp at h0
  obtain ⟨u, h1, h2, h3, h4⟩ := h
  exact ⟨u, by rw [h0]; exact h1, by rw [h2, yM], by rw [h3, nY], rn hk hl ρ a _ _ _ _ (by simpa [refs] using hr) (fun j _ => rfl) h4⟩
theorem E3 {C C' : Ctx} (hk : bL C C') (hl : eQ C.P) (ρ : Nat → Option Nat) : ∀ (l : List AV) (s s' : Src) (o o' : Nat),
  (∀ i, i ∈ cP l → i < C.st.length → ∃ j, ρ i = some j ∧ cd C C' i j) →
  (∀ j, j < eG l → s' (o' + j) = s (o + j)) → ML C l s o → ML C' (gB ρ l) s' o'
 | [], _, _, _, _, _, _, _ => by simp [gB, ML]
 | a :: l, s, s', o, o', hr, hs, h => by
  simp only [gB, ML, eG] at h hs ⊢
  refine ⟨rn hk hl ρ a s s' o o' (fun i hi => hr i (by simp [cP, hi])) (fun j hj => hs j (by omega)) h.1, ?_⟩
  rw [nY]
  refine E3 hk hl ρ l s s' _ _ (fun i hi => hr i (by simp [cP, hi])) (fun j hj => ?_) h.2
  have := hs (wid a + j) (by omega)
  rw [show o' + wid a + j = o' + (wid a + j) by omega, this]
  congr 1; omega
theorem l9 {C C' : Ctx} (hk : bL C C') (hl : eQ C.P) (ρ : Nat → Option Nat) : ∀ (l : List AV) (vs : List Value),
  (∀ i, i ∈ cP l → i < C.st.length → ∃ j, ρ i = some j ∧ cd C C' i j) → MT C l vs → MT C' (gB ρ l) vs
 | [], vs, _, h => by simpa [gB, MT] using h
 | _ :: _, [], _, h => by simp [MT] at h
 | a :: l, v :: vs, hr, h => by
  simp only [gB, MT] at h ⊢
  refine ⟨?_, ?_, rn hk hl ρ a _ _ _ _ (fun i hi => hr i (by simp [cP, hi])) (fun j _ => rfl) h.2.2.1,
   l9 hk hl ρ l vs (fun i hi => hr i (by simp [cP, hi])) h.2.2.2⟩
  ·rw [yM]; exact h.1.imp id (fun e => by subst e; rfl)
  ·rw [nY]; exact h.2.1.imp id (fun e => by subst e; rfl)
end
theorem Rel.move {C C' : Ctx} (hk : bL C C') (hl : eQ C.P) (ρ : Nat → Option Nat) {a : AV} {v : Value}
  (hr : ∀ i, i ∈ refs a → i < C.st.length → ∃ j, ρ i = some j ∧ cd C C' i j) (h : Rel C a v) : Rel C' (kR ρ a) v := by
 refine ⟨?_, ?_, rn hk hl ρ a _ _ _ _ hr (fun j _ => rfl) h.2.2⟩
 ·rw [yM]; exact h.1.imp id (fun e => by subst e; rfl)
 ·rw [nY]; exact h.2.1.imp id (fun e => by subst e; rfl)
mutual
theorem lz : ∀ a : AV, kR some a = a
 | .agg l => by simp only [kR, hU l]
 | .bR l => by simp only [kR, hU l]
 | .dq f l => by simp only [kR, hU l]
 | .jb T a => by simp only [kR, lz a]
 | .cw | .lit _ | .ae _ _ | .jH _ _ => by simp [kR]
 | .a7 i _ _ | .ptr i _ _ _ | .mp i | .dv i | .kr i _ => by simp [kR]
theorem hU : ∀ l : List AV, gB some l = l
 | [] => by simp [gB]
 | a :: l => by simp only [gB, lz a, hU l]
end
theorem M.fu {C C' : Ctx} (hk : bL C C') (hl : eQ C.P) {a : AV} {s s' : Src} {o o' : Nat}
  (hr : ∀ i, i ∈ refs a → i < C.st.length → cd C C' i i) (hs : ∀ j, j < wid a → s' (o' + j) = s (o + j)) (h : M C a s o) : M C' a s' o' := by
 have := rn hk hl some a s s' o o' (fun i hi hlt => ⟨i, rfl, hr i hi hlt⟩) hs h
 rwa [lz] at this
theorem Rel.fu {C C' : Ctx} (hk : bL C C') (hl : eQ C.P) {a : AV} {v : Value}
  (hr : ∀ i, i ∈ refs a → i < C.st.length → cd C C' i i) (h : Rel C a v) : Rel C' a v := by
 have := h.move hk hl some (fun i hi hlt => ⟨i, rfl, hr i hi hlt⟩)
 rwa [lz] at this
end Go.Dn
