import Derived.Test.YtioeffnadipbaaaGreatDoorDoH
namespace Go.Dn
open Go
def ED(E:Env)(f k base:Nat)(Q:S->Prop)(K:Exit->S->Prop):Exit->S->Prop
 | .normal,s=>aW (kc E.P (E.live f k) base s) (Ej (canon E.P (E.live f k) base s) Q)
 |e,s=>aW (kc E.P (E.live f (mf k e)) base s) (Ej (canon E.P (E.live f (mf k e)) base s) fun s'=>K e s')
def lW(E:Env)(N f k:Nat):Nat->ki
 |0=>fun _ _ _ _=>False
 |n+1=>fun rd base s K=>vc E N f rd base (ad E.P f k) s (ED E f k base (fun s'=>lW E N f k n rd base s' K) K)
theorem Hr{E f k base Q b K a}(d: ∀s,Q s->b s)(c: ∀e s,K e s->a e s): ∀e s,ED E f k base Q K e s->ED E f k base b a e s:=by
 intro e s h;cases e<;>simp[ED,kW] at h⊢ <;>refine cH (fun h=>?_) h<;>grind
theorem mE{E}(b:aj E){N f k}: ∀n,(lW E N f k n).gl
 |0=>fun _ _ _ _ _ _ h=>h
 |n+1=>fun g a j l e c h=>wU b N _ _ _ _ _ _ _ (Hr (fun i d=>mE b n _ _ _ _ _ c d) c) h
theorem u5{E}(hM:aj E){N f k} n:aU E N f k (lW E N f k n):=by
 intro rd base s K h;refine⟨fun m s'=>lW E N f k m _ _ s' K,n,h,?_⟩;intro m s' hs;cases m with
 |zero=>exact hs.elim
 |succ m=>
  refine wU hM N _ _ _ _ _ _ _ ?_ hs;intro e s2 h2;cases e<;>simp[ED,bg,kW] at h2⊢ <;>refine cH (fun h=>?_) h2<;>grind
end Go.Dn
