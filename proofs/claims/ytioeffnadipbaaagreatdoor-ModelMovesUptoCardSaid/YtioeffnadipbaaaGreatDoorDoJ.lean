import Derived.Test.YtioeffnadipbaaaGreatDoorDoI
namespace Go.Dn
open Go
theorem LF{P f args st K} l(h:bZ P f args (x6 l st) K):bZ P f args st K:=by
 refine⟨h.1,fun C vs hP hI hst hm=>?_⟩;obtain⟨C1,a1,a2,a3,a4,a5⟩:=rl l hI;have hlen:C.st.length<=C1.st.length:=by
  rcases Nat.eq_zero_or_pos C.st.length with e|e
  ·omega
  ·have:=(a5.refs (C.st.length - 1) (by omega)).lt;omega
 have hm1:=by
  have:=lB a5.keeps hI.lay _ _ _ (fun i hi hil=>⟨i,rfl,a5.refs i hil⟩) hm
  rwa [gk] at this
 have:=h.2 C1 _ (a2.trans hP) a3 (by grind) hm1
 rw[a1] at this;refine this.mono ?_;rintro e w' ⟨v,r,C',rfl,rfl,b1,b2,b3,b4,b5⟩;rw[←hst];rw[←hst,←a4] at b4;exact⟨v,r,_,rfl,rfl,b1.trans a2,b2,b3,a5.trans b4 hlen,b5⟩
structure EB where
 E:Env
 ok:aE E
 mono:aj E
def EB.loop(b:EB){N f k base α}{st:α->S}{a c}(h:aX b.E N f k (aG base st a c)):EB:=
 ⟨_,b.ok.aq b.mono h,b.mono.aq aI⟩
def EB.call(b:EB){N f α st}{a:α->Prop}{c}(h:bg b.E N f (aO st a c)):EB:=
 ⟨_,b.ok.aw b.mono h,b.mono.aw aH⟩
def EB.pure(b:EB){N f g}(h:cg b.E N f g):EB:=⟨_,b.ok.aK b.mono h,b.mono.aK⟩
def EB.fresh(b:EB){N f g}(h:BL b.E N f g):EB:=⟨_,b.ok.kZ b.mono h,b.mono.kZ⟩
def EB.range(b:EB){N g}(f k:Nat){sp}(c:sp.gn)(h:jk b.E N g sp)(a:FuncId->Bool):EB:=
 ⟨(b.E.addRange f k g _).cQ a,(b.ok.addRange b.mono h).cQ _,(b.mono.addRange c).cQ _⟩
def EB.calm(b:EB)(l:List Nat):EB:=⟨b.E.iY fun f=>iV f l||b.E.calm f,b.ok.iY _,⟨b.mono.call,b.mono.loop,b.mono.kQ⟩⟩
def EB.narrow(b:EB){f:Nat}{α β st}{side:α->Prop}{out st'}{side':β->Prop}{out'}
  (h: ∀args s K,aO st side out args s K->b.E.call f args s K) (k: ∀args s K,aO st' side' out' args s K->aO st side out args s K):EB:=
 ⟨_,b.ok.fT fun _ _ _ hh=>b.ok.call _ _ _ _ (h _ _ _ (k _ _ _ hh)),b.mono.aw aH⟩
def EB.Ye(b:EB)(l:List Nat):EB:=⟨{b.E with inl:=fun f=>!iV f l&&b.E.inl f},⟨b.ok.prog,b.ok.hH,b.ok.call,b.ok.kQ,b.ok.loop⟩,⟨b.mono.call,b.mono.loop,b.mono.kQ⟩⟩
end Go.Dn
