import Derived.Test.YtbppdpbagmbmpaaGreatDoorDoI
namespace Go.Dn
open Go
structure EB where
  E : Env
  ok : EnvOK E
  mono : EnvMono E
def EB.loop (b : EB) {N f k base : Nat} {α : Type} {st : α → S} {side : α → Prop} {out : α → Out (Exit × S)} (h : LoopOk b.E N f k (loopE base st side out)) : EB :=
  ⟨b.E.addLoop f k (loopE base st side out), b.ok.addLoop b.mono h, b.mono.addLoop loopE_mono⟩
def EB.call (b : EB) {N f : Nat} {α : Type} {st : α → List AV × List Obj} {side : α → Prop} {out : α → Out (AV × List Obj)} (h : CallOk b.E N f (callE st side out)) : EB :=
  ⟨b.E.addCall f (callE st side out), b.ok.addCall b.mono h, b.mono.addCall callE_mono⟩
def EB.pure (b : EB) {N f : Nat} {g : List AV → Option (Bool × AV)} (h : PureOk b.E N f g) : EB := ⟨b.E.addPure f g, b.ok.addPure b.mono h, b.mono.addPure⟩
def EB.fresh (b : EB) {N f : Nat} {g : List AV → Option (Bool × AV)} (h : FreshOk b.E N f g) : EB := ⟨b.E.addFresh f g, b.ok.addFresh b.mono h, b.mono.addFresh⟩
def EB.range (b : EB) {N g : Nat} (f k : Nat) {sp : RangeSpec} (hm : sp.Mono) (h : RangeOk b.E N g sp) (gen : FuncId → Bool) : EB :=
  ⟨(b.E.addRange f k g sp).withGen gen, (b.ok.addRange b.mono h).withGen _, (b.mono.addRange hm).withGen _⟩
def EB.calm (b : EB) (l : List Nat) : EB := ⟨b.E.withCalm fun f => memN f l || b.E.calm f, b.ok.withCalm _, ⟨b.mono.call, b.mono.loop, b.mono.rng⟩⟩
end Go.Dn
