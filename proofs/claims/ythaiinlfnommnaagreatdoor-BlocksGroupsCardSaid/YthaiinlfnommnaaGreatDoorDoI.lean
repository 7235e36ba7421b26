import Derived.Test.YthaiinlfnommnaaGreatDoorDoH
namespace Go.Dn
open Go
def Ca(E:Env)(f k base:Nat)(Q:S->Prop)(K:Exit->S->Prop):Exit->S->Prop
 | .normal,s=>a7 (jn E.P (E.live f k) base s) (Bt (canon E.P (E.live f k) base s) Q)
 |e,s=>a7 (jn E.P (E.live f (j6 k e)) base s) (Bt (canon E.P (E.live f (j6 k e)) base s) fun s'=>K e s')
def kz(E:Env)(N f k:Nat):Nat->fI
 |0=>fun _ _ _ _=>False
 |n+1=>fun rd base s K=>vc E N f rd base (af E.P f k) s (Ca E f k base (fun s'=>kz E N f k n rd base s' K) K)
theorem CV{E:Env}{f k base:Nat}{Q Q':S->Prop}{K K':Exit->S->Prop}(hQ: ∀s,Q s->Q' s)(hK: ∀e s,K e s->K' e s): ∀e s,Ca E f k base Q K e s->Ca E f k base Q' K' e s:=by
 intro e s h
 cases e<;>simp only[Ca,kV] at h⊢ <;>refine dd (fun h=>?_) h<;>first|exact hQ _ h|exact hK _ _ h
theorem kQ{E:Env}(hM:aj E){N f k:Nat}: ∀n,(kz E N f k n).iT
 |0=>fun _ _ _ _ _ _ h=>h
 |n+1=>fun rd base s K K' hK h=>te hM N _ _ _ _ _ _ _ (CV (fun s' hs=>kQ hM n _ _ _ _ _ hK hs) hK) h
theorem qY{E:Env}(hM:aj E){N f k:Nat}(n:Nat):bh E N f k (kz E N f k n):=by
 intro rd base s K h
 refine⟨fun m s'=>kz E N f k m rd base s' K,n,h,?_⟩
 intro m s' hs
 cases m with
 |zero=>exact hs.elim
 |succ m=>
  refine te hM N _ _ _ _ _ _ _ ?_ hs
  intro e s2 h2
  cases e<;>simp only[Ca,bH,kV] at h2⊢ <;>refine dd (fun h=>?_) h2<;>first|exact⟨m,Nat.lt_succ_self m,h⟩|exact h
end Go.Dn
