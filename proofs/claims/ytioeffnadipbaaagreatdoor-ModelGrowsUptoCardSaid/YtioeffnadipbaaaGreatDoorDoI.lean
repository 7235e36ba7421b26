import Derived.Test.YtioeffnadipbaaaGreatDoorDoH
namespace Go.Dn
open Go
def CO(E:Env)(f k base:Nat)(Q:S->Prop)(K:Exit->S->Prop):Exit->S->Prop
 | .normal,s=>aV (jN E.P (E.live f k) base s) (CN (canon E.P (E.live f k) base s) Q)
 |e,s=>aV (jN E.P (E.live f (lS k e)) base s) (CN (canon E.P (E.live f (lS k e)) base s) fun s'=>K e s')
def la(E:Env)(N f k:Nat):Nat->jT
 |0=>fun _ _ _ _=>False
 |n+1=>fun rd base s K=>vc E N f rd base (ad E.P f k) s (CO E f k base (fun s'=>la E N f k n rd base s' K) K)
theorem GA{E f k base Q b K a}(d: ∀s,Q s->b s)(c: ∀e s,K e s->a e s): ∀e s,CO E f k base Q K e s->CO E f k base b a e s:=by
 intro e s h;cases e<;>simp[CO,kl] at h⊢ <;>refine cx (fun h=>?_) h<;>grind
theorem lL{E}(b:aj E){N f k}: ∀n,(la E N f k n).fY
 |0=>fun _ _ _ _ _ _ h=>h
 |n+1=>fun g a j l e c h=>uT b N _ _ _ _ _ _ _ (GA (fun i d=>lL b n _ _ _ _ _ c d) c) h
theorem sR{E}(hM:aj E){N f k} n:aU E N f k (la E N f k n):=by
 intro rd base s K h;refine⟨fun m s'=>la E N f k m _ _ s' K,n,h,?_⟩;intro m s' hs;cases m with
 |zero=>exact hs.elim
 |succ m=>
  refine uT hM N _ _ _ _ _ _ _ ?_ hs;intro e s2 h2;cases e<;>simp[CO,bj,kl] at h2⊢ <;>refine cx (fun h=>?_) h2<;>grind
end Go.Dn
