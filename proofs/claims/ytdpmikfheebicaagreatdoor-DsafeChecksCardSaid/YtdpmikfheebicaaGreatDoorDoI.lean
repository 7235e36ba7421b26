import Derived.Test.YtdpmikfheebicaaGreatDoorDoH
namespace Go.Dn
open Go
def AQ (E : Env) (f k base : Nat) (Q : S → Prop) (K : Exit → S → Prop) : Exit → S → Prop
 | .normal, s => aZ (iZ E.P (E.live f k) base s) (Bn (canon E.P (E.live f k) base s) Q)
 | e, s => aZ (iZ E.P (E.live f (jL k e)) base s) (Bn (canon E.P (E.live f (jL k e)) base s) fun s' => K e s')
def kj (E : Env) (N f k : Nat) : Nat → jl
 | 0 => fun _ _ _ _ => False
 | n + 1 => fun rd base s K => vc E N f rd base (ag E.P f k) s (AQ E f k base (fun s' => kj E N f k n rd base s' K) K)
theorem Cw {E : Env} {f k base : Nat} {Q Q' : S → Prop} {K K' : Exit → S → Prop} (hQ : ∀ s, Q s → Q' s) (hK : ∀ e s, K e s → K' e s) : ∀ e s, AQ E f k base Q K e s → AQ E f k base Q' K' e s := by
 intro e s h
 cases e <;> simp only [AQ, l7] at h ⊢ <;> refine dF (fun h => ?_) h <;> first | exact hQ _ h | exact hK _ _ h
theorem kD {E : Env} (hM : ai E) {N f k : Nat} : ∀ n, (kj E N f k n).ot
 | 0 => fun _ _ _ _ _ _ h => h
 | n + 1 => fun rd base s K K' hK h => sR hM N _ _ _ _ _ _ _ (Cw (fun s' hs => kD hM n _ _ _ _ _ hK hs) hK) h
theorem rl {E : Env} (hM : ai E) {N f k : Nat} (n : Nat) : bg E N f k (kj E N f k n) := by
 intro rd base s K h
 refine ⟨fun m s' => kj E N f k m rd base s' K, n, h, ?_⟩
 intro m s' hs
 cases m with
 | zero => exact hs.elim
 | succ m =>
  refine sR hM N _ _ _ _ _ _ _ ?_ hs
  intro e s2 h2
  cases e <;> simp only [AQ, bC, l7] at h2 ⊢ <;> refine dF (fun h => ?_) h2 <;> first | exact ⟨m, Nat.lt_succ_self m, h⟩ | exact h
end Go.Dn
