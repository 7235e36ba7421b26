import Derived.Test.YthaiinlfnommnaaGreatDoorDoH
namespace Go.Dn
open Go
def Bh(E:Env)(f k base:Nat)(Q:S->Prop)(K:Exit->S->Prop):Exit->S->Prop
 | .normal,s=>a7 (jB E.P (E.live f k) base s) (BY (canon E.P (E.live f k) base s) Q)
 |e,s=>a7 (jB E.P (E.live f (ke k e)) base s) (BY (canon E.P (E.live f (ke k e)) base s) fun s'=>K e s')
def kt(E:Env)(N f k:Nat):Nat->fO
 |0=>fun _ _ _ _=>False
 |n+1=>fun rd base s K=>vc E N f rd base (af E.P f k) s (Bh E f k base (fun s'=>kt E N f k n rd base s' K) K)
theorem EF{E:Env}{f k base:Nat}{Q Q':S->Prop}{K K':Exit->S->Prop}(hQ: ∀s,Q s->Q' s)(hK: ∀e s,K e s->K' e s): ∀e s,Bh E f k base Q K e s->Bh E f k base Q' K' e s:=by
 intro e s h
 cases e<;>simp only[Bh,lg] at h⊢ <;>refine dj (fun h=>?_) h<;>first|exact hQ _ h|exact hK _ _ h
theorem lu{E:Env}(hM:aj E){N f k:Nat}: ∀n,(kt E N f k n).jf
 |0=>fun _ _ _ _ _ _ h=>h
 |n+1=>fun rd base s K K' hK h=>tG hM N _ _ _ _ _ _ _ (EF (fun s' hs=>lu hM n _ _ _ _ _ hK hs) hK) h
theorem sh{E:Env}(hM:aj E){N f k:Nat}(n:Nat):bj E N f k (kt E N f k n):=by
 intro rd base s K h
 refine⟨fun m s'=>kt E N f k m rd base s' K,n,h,?_⟩
 intro m s' hs
 cases m with
 |zero=>exact hs.elim
 |succ m=>
  refine tG hM N _ _ _ _ _ _ _ ?_ hs
  intro e s2 h2
  cases e<;>simp only[Bh,bJ,lg] at h2⊢ <;>refine dj (fun h=>?_) h2<;>first|exact⟨m,Nat.lt_succ_self m,h⟩|exact h
end Go.Dn
