import Derived.Test.YtioeffnadipbaaaGreatDoorDoI
namespace Go.Dn
open Go
theorem Q5{P f args st K} l(h:cf P f args (yl l st) K):cf P f args st K:=by
 refine⟨h.1,fun C vs hP hI hst hm=>?_⟩;obtain⟨C1,a1,a2,a3,a4,a5⟩:=sO l hI;have hlen:C.st.length<=C1.st.length:=by
  rcases Nat.eq_zero_or_pos C.st.length with e|e
  ·omega
  ·have:=(a5.refs (C.st.length - 1) (by omega)).lt;omega
 have hm1:=by
  have:=l4 a5.keeps hI.lay _ _ _ (fun i hi hil=>⟨i,rfl,a5.refs i hil⟩) hm
  rwa [gQ] at this
 have:=h.2 C1 _ (a2.trans hP) a3 (by grind) hm1
 rw[a1] at this;refine this.mono ?_;rintro e w' ⟨v,r,C',rfl,rfl,b1,b2,b3,b4,b5⟩;rw[←hst];rw[←hst,←a4] at b4;exact⟨v,r,_,rfl,rfl,b1.trans a2,b2,b3,a5.trans b4 hlen,b5⟩
structure EB where
 E:Env
 ok:aE E
 mono:aj E
def EB.loop(b:EB){N f k base α}{st:α->S}{a c}(h:aU b.E N f k (aG base st a c)):EB:=
 ⟨_,b.ok.an b.mono h,b.mono.an aK⟩
def EB.call(b:EB){N f α st}{a:α->Prop}{c}(h:bd b.E N f (aM st a c)):EB:=
 ⟨_,b.ok.ax b.mono h,b.mono.ax aJ⟩
def EB.pure(b:EB){N f g}(h:cm b.E N f g):EB:=⟨_,b.ok.aO b.mono h,b.mono.aO⟩
def EB.fresh(b:EB){N f g}(h:Bu b.E N f g):EB:=⟨_,b.ok.lr b.mono h,b.mono.lr⟩
def EB.range(b:EB){N g}(f k:Nat){sp}(c:sp.gl)(h:jf b.E N g sp)(a:FuncId->Bool):EB:=
 ⟨(b.E.addRange f k g _).dc a,(b.ok.addRange b.mono h).dc _,(b.mono.addRange c).dc _⟩
def EB.calm(b:EB)(l:List Nat):EB:=⟨b.E.jR fun f=>jr f l||b.E.calm f,b.ok.jR _,⟨b.mono.call,b.mono.loop,b.mono.ll⟩⟩
def EB.narrow(b:EB){f:Nat}{α β st}{side:α->Prop}{out st'}{side':β->Prop}{out'}
  (h: ∀args s K,aM st side out args s K->b.E.call f args s K) (k: ∀args s K,aM st' side' out' args s K->aM st side out args s K):EB:=
 ⟨_,b.ok.fQ fun _ _ _ hh=>b.ok.call _ _ _ _ (h _ _ _ (k _ _ _ hh)),b.mono.ax aJ⟩
def EB.ag8(b:EB)(l:List Nat):EB:=⟨{b.E with inl:=fun f=>!jr f l&&b.E.inl f},⟨b.ok.prog,b.ok.iI,b.ok.call,b.ok.ll,b.ok.loop⟩,⟨b.mono.call,b.mono.loop,b.mono.ll⟩⟩
end Go.Dn
