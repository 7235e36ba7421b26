import Derived.Test.YtbppdpbagmbmpaaGreatDoorDoH
namespace Go.Dn
open Go
def loopU (E : Env) (f k base : Nat) (Q : S → Prop) (K : Exit → S → Prop) : Exit → S → Prop
  | .normal, s => cnd (canonOk E.P (E.live f k) base s) (frcS (canon E.P (E.live f k) base s) Q)
  | e, s => cnd (canonOk E.P (E.live f (exitKey k e)) base s) (frcS (canon E.P (E.live f (exitKey k e)) base s) fun s' => K e s')
def unrollSp (E : Env) (N f k : Nat) : Nat → LoopSpec
  | 0 => fun _ _ _ _ => False
  | n + 1 => fun rd base s K => vc E N f rd base (loopCode E.P f k) s (loopU E f k base (fun s' => unrollSp E N f k n rd base s' K) K)
theorem loopU_mono {E : Env} {f k base : Nat} {Q Q' : S → Prop} {K K' : Exit → S → Prop} (hQ : ∀ s, Q s → Q' s) (hK : ∀ e s, K e s → K' e s) : ∀ e s, loopU E f k base Q K e s → loopU E f k base Q' K' e s := by
  intro e s h
  cases e <;> simp only [loopU, frcS_eq] at h ⊢ <;> refine cnd_mono (fun h => ?_) h <;> first | exact hQ _ h | exact hK _ _ h
theorem unroll_mono {E : Env} (hM : EnvMono E) {N f k : Nat} : ∀ n, (unrollSp E N f k n).Mono
  | 0 => fun _ _ _ _ _ _ h => h
  | n + 1 => fun _rd _base _s _K _K' hK h => vc_mono hM N _ _ _ _ _ _ _ (loopU_mono (fun _s' hs => unroll_mono hM n _ _ _ _ _ hK hs) hK) h
theorem unroll_ok {E : Env} (hM : EnvMono E) {N f k : Nat} (n : Nat) : LoopOk E N f k (unrollSp E N f k n) := by
  intro rd base s K h
  refine ⟨fun m s' => unrollSp E N f k m rd base s' K, n, h, ?_⟩
  intro m s' hs
  cases m with
  | zero => exact hs.elim
  | succ m =>
    refine vc_mono hM N _ _ _ _ _ _ _ ?_ hs
    intro e s2 h2
    cases e <;> simp only [loopU, loopK, frcS_eq] at h2 ⊢ <;> refine cnd_mono (fun h => ?_) h2 <;> first | exact ⟨m, Nat.lt_succ_self m, h⟩ | exact h
end Go.Dn
