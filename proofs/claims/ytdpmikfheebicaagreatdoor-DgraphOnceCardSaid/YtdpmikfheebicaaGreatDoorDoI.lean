import Derived.Test.YtdpmikfheebicaaGreatDoorDoH
namespace Go.Dn
open Go
def zB(E:Env)(f k base:Nat)(Q:S->Prop)(K:Exit->S->Prop):Exit->S->Prop
 | .normal,s=>aO (iL E.P (E.live f k) base s) (zZ (canon E.P (E.live f k) base s) Q)
 |e,s=>aO (iL E.P (E.live f (jG k e)) base s) (zZ (canon E.P (E.live f (jG k e)) base s) fun s'=>K e s')
def jZ(E:Env)(N f k:Nat):Nat->fj
 |0=>fun _ _ _ _=>False
 |n+1=>fun rd base s K=>vc E N f rd base (ag E.P f k) s (zB E f k base (fun s'=>jZ E N f k n rd base s' K) K)
theorem Cc{E:Env}{f k base:Nat}{Q Q':S->Prop}{K K':Exit->S->Prop}(hQ: ∀s,Q s->Q' s)(hK: ∀e s,K e s->K' e s): ∀e s,zB E f k base Q K e s->zB E f k base Q' K' e s:=by
 intro e s h
 cases e<;>simp only[zB,mc] at h⊢ <;>refine cV (fun h=>?_) h<;>first|exact hQ _ h|exact hK _ _ h
theorem ky{E:Env}(hM:ai E){N f k:Nat}: ∀n,(jZ E N f k n).jI
 |0=>fun _ _ _ _ _ _ h=>h
 |n+1=>fun rd base s K K' hK h=>ss hM N _ _ _ _ _ _ _ (Cc (fun s' hs=>ky hM n _ _ _ _ _ hK hs) hK) h
theorem qL{E:Env}(hM:ai E){N f k:Nat}(n:Nat):bn E N f k (jZ E N f k n):=by
 intro rd base s K h
 refine⟨fun m s'=>jZ E N f k m rd base s' K,n,h,?_⟩
 intro m s' hs
 cases m with
 |zero=>exact hs.elim
 |succ m=>
  refine ss hM N _ _ _ _ _ _ _ ?_ hs
  intro e s2 h2
  cases e<;>simp only[zB,bI,mc] at h2⊢ <;>refine cV (fun h=>?_) h2<;>first|exact⟨m,Nat.lt_succ_self m,h⟩|exact h
end Go.Dn
