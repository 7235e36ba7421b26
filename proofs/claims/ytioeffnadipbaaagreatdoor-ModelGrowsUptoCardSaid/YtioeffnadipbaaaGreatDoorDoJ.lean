import Derived.Test.YtioeffnadipbaaaGreatDoorDoI
namespace Go.Dn
open Go
theorem Pj{P f args st K} l(h:b7 P f args (wY l st) K):b7 P f args st K:=by
 refine⟨h.1,fun C vs hP hI hst hm=>?_⟩;obtain⟨C1,a1,a2,a3,a4,a5⟩:=rH l hI;have hlen:C.st.length<=C1.st.length:=by
  rcases Nat.eq_zero_or_pos C.st.length with e|e
  ·omega
  ·have:=(a5.refs (C.st.length - 1) (by omega)).lt;omega
 have hm1:=by
  have:=lq a5.keeps hI.lay _ _ _ (fun i hi hil=>⟨i,rfl,a5.refs i hil⟩) hm
  rwa [gm] at this
 have:=h.2 C1 _ (a2.trans hP) a3 (by grind) hm1
 rw[a1] at this;refine this.mono ?_;rintro e w' ⟨v,r,C',rfl,rfl,b1,b2,b3,b4,b5⟩;rw[←hst];rw[←hst,←a4] at b4;exact⟨v,r,_,rfl,rfl,b1.trans a2,b2,b3,a5.trans b4 hlen,b5⟩
structure EB where
 E:Env
 ok:aE E
 mono:aj E
def EB.loop(b:EB){N f k base α}{st:α->S}{a c}(h:aU b.E N f k (aG base st a c)):EB:=
 ⟨_,b.ok.an b.mono h,b.mono.an aJ⟩
def EB.call(b:EB){N f α st}{a:α->Prop}{c}(h:bc b.E N f (aO st a c)):EB:=
 ⟨_,b.ok.aw b.mono h,b.mono.aw aI⟩
def EB.pure(b:EB){N f g}(h:cd b.E N f g):EB:=⟨_,b.ok.aK b.mono h,b.mono.aK⟩
def EB.fresh(b:EB){N f g}(h:zZ b.E N f g):EB:=⟨_,b.ok.kF b.mono h,b.mono.kF⟩
def EB.range(b:EB){N g}(f k:Nat){sp}(c:sp.fU)(h:ir b.E N g sp)(a:FuncId->Bool):EB:=
 ⟨(b.E.addRange f k g _).cV a,(b.ok.addRange b.mono h).cV _,(b.mono.addRange c).cV _⟩
def EB.calm(b:EB)(l:List Nat):EB:=⟨b.E.js fun f=>iH f l||b.E.calm f,b.ok.js _,⟨b.mono.call,b.mono.loop,b.mono.lp⟩⟩
def EB.narrow(b:EB){f:Nat}{α β st}{side:α->Prop}{out st'}{side':β->Prop}{out'}
  (h: ∀args s K,aO st side out args s K->b.E.call f args s K) (k: ∀args s K,aO st' side' out' args s K->aO st side out args s K):EB:=
 ⟨_,b.ok.fK fun _ _ _ hh=>b.ok.call _ _ _ _ (h _ _ _ (k _ _ _ hh)),b.mono.aw aI⟩
def EB.ZA(b:EB)(l:List Nat):EB:=⟨{b.E with inl:=fun f=>!iH f l&&b.E.inl f},⟨b.ok.prog,b.ok.gV,b.ok.call,b.ok.lp,b.ok.loop⟩,⟨b.mono.call,b.mono.loop,b.mono.lp⟩⟩
end Go.Dn
