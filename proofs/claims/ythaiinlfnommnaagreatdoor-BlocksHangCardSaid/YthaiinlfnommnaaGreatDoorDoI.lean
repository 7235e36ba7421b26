import Derived.Test.YthaiinlfnommnaaGreatDoorDoH
namespace Go.Dn
open Go
def CU(E:Env)(f k base:Nat)(Q:S->Prop)(K:Exit->S->Prop):Exit->S->Prop
 | .normal,s=>aX (jD E.P (E.live f k) base s) (Bg (canon E.P (E.live f k) base s) Q)
 |e,s=>aX (jD E.P (E.live f (ka k e)) base s) (Bg (canon E.P (E.live f (ka k e)) base s) fun s'=>K e s')
def la(E:Env)(N f k:Nat):Nat->gg
 |0=>fun _ _ _ _=>False
 |n+1=>fun rd base s K=>vc E N f rd base (af E.P f k) s (CU E f k base (fun s'=>la E N f k n rd base s' K) K)
theorem En{E:Env}{f k base:Nat}{Q Q':S->Prop}{K K':Exit->S->Prop}(hQ: ∀s,Q s->Q' s)(hK: ∀e s,K e s->K' e s): ∀e s,CU E f k base Q K e s->CU E f k base Q' K' e s:=by
 intro e s h
 cases e<;>simp only[CU,lu] at h⊢ <;>refine dj (fun h=>?_) h<;>first|exact hQ _ h|exact hK _ _ h
theorem lg{E:Env}(hM:aj E){N f k:Nat}: ∀n,(la E N f k n).ji
 |0=>fun _ _ _ _ _ _ h=>h
 |n+1=>fun rd base s K K' hK h=>tM hM N _ _ _ _ _ _ _ (En (fun s' hs=>lg hM n _ _ _ _ _ hK hs) hK) h
theorem sr{E:Env}(hM:aj E){N f k:Nat}(n:Nat):bj E N f k (la E N f k n):=by
 intro rd base s K h
 refine⟨fun m s'=>la E N f k m rd base s' K,n,h,?_⟩
 intro m s' hs
 cases m with
 |zero=>exact hs.elim
 |succ m=>
  refine tM hM N _ _ _ _ _ _ _ ?_ hs
  intro e s2 h2
  cases e<;>simp only[CU,bK,lu] at h2⊢ <;>refine dj (fun h=>?_) h2<;>first|exact⟨m,Nat.lt_succ_self m,h⟩|exact h
end Go.Dn
