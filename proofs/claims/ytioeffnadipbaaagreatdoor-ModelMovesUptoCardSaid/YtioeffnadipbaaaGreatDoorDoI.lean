import Derived.Test.YtioeffnadipbaaaGreatDoorDoH
namespace Go.Dn
open Go
def D1(E:Env)(f k base:Nat)(Q:S->Prop)(K:Exit->S->Prop):Exit->S->Prop
 | .normal,s=>aR (jL E.P (E.live f k) base s) (Dd (canon E.P (E.live f k) base s) Q)
 |e,s=>aR (jL E.P (E.live f (lz k e)) base s) (Dd (canon E.P (E.live f (lz k e)) base s) fun s'=>K e s')
def kL(E:Env)(N f k:Nat):Nat->j1
 |0=>fun _ _ _ _=>False
 |n+1=>fun rd base s K=>vc E N f rd base (ae E.P f k) s (D1 E f k base (fun s'=>kL E N f k n rd base s' K) K)
theorem Gt{E f k base Q b K a}(d: ∀s,Q s->b s)(c: ∀e s,K e s->a e s): ∀e s,D1 E f k base Q K e s->D1 E f k base b a e s:=by
 intro e s h;cases e<;>simp[D1,kx] at h⊢ <;>refine cy (fun h=>?_) h<;>grind
theorem lS{E}(b:aj E){N f k}: ∀n,(kL E N f k n).gn
 |0=>fun _ _ _ _ _ _ h=>h
 |n+1=>fun g a j l e c h=>vb b N _ _ _ _ _ _ _ (Gt (fun i d=>lS b n _ _ _ _ _ c d) c) h
theorem tJ{E}(hM:aj E){N f k} n:aX E N f k (kL E N f k n):=by
 intro rd base s K h;refine⟨fun m s'=>kL E N f k m _ _ s' K,n,h,?_⟩;intro m s' hs;cases m with
 |zero=>exact hs.elim
 |succ m=>
  refine vb hM N _ _ _ _ _ _ _ ?_ hs;intro e s2 h2;cases e<;>simp[D1,bj,kx] at h2⊢ <;>refine cy (fun h=>?_) h2<;>grind
end Go.Dn
