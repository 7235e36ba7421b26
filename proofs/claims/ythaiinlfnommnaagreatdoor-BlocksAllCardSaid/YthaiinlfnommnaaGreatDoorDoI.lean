import Derived.Test.YthaiinlfnommnaaGreatDoorDoH
namespace Go.Dn
open Go
def BO(E:Env)(f k base:Nat)(Q:S->Prop)(K:Exit->S->Prop):Exit->S->Prop
 | .normal,s=>ba (jF E.P (E.live f k) base s) (BL (canon E.P (E.live f k) base s) Q)
 |e,s=>ba (jF E.P (E.live f (km k e)) base s) (BL (canon E.P (E.live f (km k e)) base s) fun s'=>K e s')
def lf(E:Env)(N f k:Nat):Nat->fY
 |0=>fun _ _ _ _=>False
 |n+1=>fun rd base s K=>vc E N f rd base (ah E.P f k) s (BO E f k base (fun s'=>lf E N f k n rd base s' K) K)
theorem EI{E:Env}{f k base:Nat}{Q Q':S->Prop}{K K':Exit->S->Prop}(hQ: ∀s,Q s->Q' s)(hK: ∀e s,K e s->K' e s): ∀e s,BO E f k base Q K e s->BO E f k base Q' K' e s:=by
 intro e s h
 cases e<;>simp only[BO,lL] at h⊢ <;>refine dk (fun h=>?_) h<;>first|exact hQ _ h|exact hK _ _ h
theorem lI{E:Env}(hM:aj E){N f k:Nat}: ∀n,(lf E N f k n).jk
 |0=>fun _ _ _ _ _ _ h=>h
 |n+1=>fun rd base s K K' hK h=>uh hM N _ _ _ _ _ _ _ (EI (fun s' hs=>lI hM n _ _ _ _ _ hK hs) hK) h
theorem ss{E:Env}(hM:aj E){N f k:Nat}(n:Nat):bk E N f k (lf E N f k n):=by
 intro rd base s K h
 refine⟨fun m s'=>lf E N f k m rd base s' K,n,h,?_⟩
 intro m s' hs
 cases m with
 |zero=>exact hs.elim
 |succ m=>
  refine uh hM N _ _ _ _ _ _ _ ?_ hs
  intro e s2 h2
  cases e<;>simp only[BO,bL,lL] at h2⊢ <;>refine dk (fun h=>?_) h2<;>first|exact⟨m,Nat.lt_succ_self m,h⟩|exact h
end Go.Dn
