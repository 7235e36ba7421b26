import Derived.Test.YtdpmikfheebicaaGreatDoorDoH
namespace Go.Dn
open Go
def yM (E : Env) (f k base : Nat) (Q : S → Prop) (K : Exit → S → Prop) : Exit → S → Prop
 | .normal, s => bg (ib E.P (E.live f k) base s) (zW (canon E.P (E.live f k) base s) Q)
 | e, s => bg (ib E.P (E.live f (jc k e)) base s) (zW (canon E.P (E.live f (jc k e)) base s) fun s' => K e s')
def jI (E : Env) (N f k : Nat) : Nat → eW
 | 0 => fun _ _ _ _ => False
 | n + 1 => fun rd base s K => vc E N f rd base (ag E.P f k) s (yM E f k base (fun s' => jI E N f k n rd base s' K) K)
theorem AU {E : Env} {f k base : Nat} {Q Q' : S → Prop} {K K' : Exit → S → Prop} (hQ : ∀ s, Q s → Q' s) (hK : ∀ e s, K e s → K' e s) : ∀ e s, yM E f k base Q K e s → yM E f k base Q' K' e s := by
 intro e s h
 cases e <;> simp only [yM, lv] at h ⊢ <;> refine cH (fun h => ?_) h <;> first | exact hQ _ h | exact hK _ _ h
theorem jQ {E : Env} (hM : ah E) {N f k : Nat} : ∀ n, (jI E N f k n).jb
 | 0 => fun _ _ _ _ _ _ h => h
 | n + 1 => fun rd base s K K' hK h => rN hM N _ _ _ _ _ _ _ (AU (fun s' hs => jQ hM n _ _ _ _ _ hK hs) hK) h
theorem pH {E : Env} (hM : ah E) {N f k : Nat} (n : Nat) : bq E N f k (jI E N f k n) := by
 intro rd base s K h
 refine ⟨fun m s' => jI E N f k m rd base s' K, n, h, ?_⟩
 intro m s' hs
 cases m with
 | zero => exact hs.elim
 | succ m =>
  refine rN hM N _ _ _ _ _ _ _ ?_ hs
  intro e s2 h2
  cases e <;> simp only [yM, bK, lv] at h2 ⊢ <;> refine cH (fun h => ?_) h2 <;> first | exact ⟨m, Nat.lt_succ_self m, h⟩ | exact h
end Go.Dn
