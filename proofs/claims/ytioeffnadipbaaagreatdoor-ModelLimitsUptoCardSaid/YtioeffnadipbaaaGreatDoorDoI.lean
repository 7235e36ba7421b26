import Derived.Test.YtioeffnadipbaaaGreatDoorDoH
namespace Go.Dn
open Go
def Cz(E:Env)(f k base:Nat)(Q:S->Prop)(K:Exit->S->Prop):Exit->S->Prop
 | .normal,s=>aW (jN E.P (E.live f k) base s) (Dt (canon E.P (E.live f k) base s) Q)
 |e,s=>aW (jN E.P (E.live f (l4 k e)) base s) (Dt (canon E.P (E.live f (l4 k e)) base s) fun s'=>K e s')
def lv(E:Env)(N f k:Nat):Nat->jQ
 |0=>fun _ _ _ _=>False
 |n+1=>fun rd base s K=>vc E N f rd base (ad E.P f k) s (Cz E f k base (fun s'=>lv E N f k n rd base s' K) K)
theorem ET{E f k base Q b K a}(d: ∀s,Q s->b s)(c: ∀e s,K e s->a e s): ∀e s,Cz E f k base Q K e s->Cz E f k base b a e s:=by
 intro e s h;cases e<;>simp[Cz,kz] at h⊢ <;>refine cx (fun h=>?_) h<;>grind
theorem lL{E}(b:aj E){N f k}: ∀n,(lv E N f k n).gw
 |0=>fun _ _ _ _ _ _ h=>h
 |n+1=>fun _g _a _j _l _e c h=>vB b N _ _ _ _ _ _ _ (ET (fun _i d=>lL b n _ _ _ _ _ c d) c) h
theorem tO{E}(hM:aj E){N f k} n:aR E N f k (lv E N f k n):=by
 intro rd base s K h;refine⟨fun m s'=>lv E N f k m _ _ s' K,n,h,?_⟩;intro m s' hs;cases m with
 |zero=>exact hs.elim
 |succ m=>
  refine vB hM N _ _ _ _ _ _ _ ?_ hs;intro e s2 h2;cases e<;>simp[Cz,bh,kz] at h2⊢ <;>refine cx (fun h=>?_) h2<;>grind
end Go.Dn
