import Derived.Test.YtioeffnadipbaaaGreatDoorDoH
namespace Go.Dn
open Go
def CX(E:Env)(f k base:Nat)(Q:S->Prop)(K:Exit->S->Prop):Exit->S->Prop
 | .normal,s=>aV (jI E.P (E.live f k) base s) (CF (canon E.P (E.live f k) base s) Q)
 |e,s=>aV (jI E.P (E.live f (lB k e)) base s) (CF (canon E.P (E.live f (lB k e)) base s) fun s'=>K e s')
def lh(E:Env)(N f k:Nat):Nat->jN
 |0=>fun _ _ _ _=>False
 |n+1=>fun rd base s K=>vc E N f rd base (ad E.P f k) s (CX E f k base (fun s'=>lh E N f k n rd base s' K) K)
theorem FL{E f k base Q b K a}(d: ∀s,Q s->b s)(c: ∀e s,K e s->a e s): ∀e s,CX E f k base Q K e s->CX E f k base b a e s:=by
 intro e s h;cases e<;>simp[CX,kn] at h⊢ <;>refine cx (fun h=>?_) h<;>grind
theorem lU{E}(b:aj E){N f k}: ∀n,(lh E N f k n).fU
 |0=>fun _ _ _ _ _ _ h=>h
 |n+1=>fun g a j l e c h=>vm b N _ _ _ _ _ _ _ (FL (fun i d=>lU b n _ _ _ _ _ c d) c) h
theorem tK{E}(hM:aj E){N f k} n:aU E N f k (lh E N f k n):=by
 intro rd base s K h;refine⟨fun m s'=>lh E N f k m _ _ s' K,n,h,?_⟩;intro m s' hs;cases m with
 |zero=>exact hs.elim
 |succ m=>
  refine vm hM N _ _ _ _ _ _ _ ?_ hs;intro e s2 h2;cases e<;>simp[CX,bj,kn] at h2⊢ <;>refine cx (fun h=>?_) h2<;>grind
end Go.Dn
