import Derived.Test.YtioeffnadipbaaaGreatDoorDoH
namespace Go.Dn
open Go
def vg(E:Env)(f k base:Nat)(Q:S->Prop)(K:Exit->S->Prop):Exit->S->Prop
 | .normal,s=>aP (ji E.P (E.live f k) base s) (BX (canon E.P (E.live f k) base s) Q)
 |e,s=>aP (ji E.P (E.live f (jR k e)) base s) (BX (canon E.P (E.live f (jR k e)) base s) fun s'=>K e s')
def km(E:Env)(N f k:Nat):Nat->jl
 |0=>fun _ _ _ _=>False
 |n+1=>fun rd base s K=>vc E N f rd base (ag E.P f k) s (vg E f k base (fun s'=>km E N f k n rd base s' K) K)
theorem wo{E:Env}{f k base:Nat}{Q Q':S->Prop}{K K':Exit->S->Prop}(hQ: ∀s,Q s->Q' s)(hK: ∀e s,K e s->K' e s): ∀e s,vg E f k base Q K e s->vg E f k base Q' K' e s:=by
 intro e s h
 cases e<;>simp only[vg,jQ] at h⊢ <;>refine cq (fun h=>?_) h<;>first|exact hQ _ h|exact hK _ _ h
theorem kO{E:Env}(hM:aj E){N f k:Nat}: ∀n,(km E N f k n).ib
 |0=>fun _ _ _ _ _ _ h=>h
 |n+1=>fun _rd _base _s _K _K' hK h=>oA hM N _ _ _ _ _ _ _ (wo (fun _s' hs=>kO hM n _ _ _ _ _ hK hs) hK) h
theorem rO{E:Env}(hM:aj E){N f k:Nat}(n:Nat):bf E N f k (km E N f k n):=by
 intro rd base s K h
 refine⟨fun m s'=>km E N f k m rd base s' K,n,h,?_⟩
 intro m s' hs
 cases m with
 |zero=>exact hs.elim
 |succ m=>
  refine oA hM N _ _ _ _ _ _ _ ?_ hs
  intro e s2 h2
  cases e<;>simp only[vg,bB,jQ] at h2⊢ <;>refine cq (fun h=>?_) h2<;>first|exact⟨m,Nat.lt_succ_self m,h⟩|exact h
end Go.Dn
