import Derived.Test.YtioeffnadipbaaaGreatDoorDoI
namespace Go.Dn
open Go
theorem Pn{P f args st K} l(h:b6 P f args (xX l st) K):b6 P f args st K:=by
 refine⟨h.1,fun C vs hP hI hst hm=>?_⟩;obtain⟨C1,a1,a2,a3,a4,a5⟩:=sn l hI;have hlen:C.st.length<=C1.st.length:=by
  rcases Nat.eq_zero_or_pos C.st.length with e|e
  ·omega
  ·have:=(a5.refs (C.st.length - 1) (by omega)).lt;omega
 have hm1:=by
  have:=lI a5.keeps hI.lay _ _ _ (fun i hi hil=>⟨i,rfl,a5.refs i hil⟩) hm
  rwa [gp] at this
 have:=h.2 C1 _ (a2.trans hP) a3 (by grind) hm1
 rw[a1] at this;refine this.mono ?_;rintro e w' ⟨v,r,C',rfl,rfl,b1,b2,b3,b4,b5⟩;rw[←hst];rw[←hst,←a4] at b4;exact⟨v,r,_,rfl,rfl,b1.trans a2,b2,b3,a5.trans b4 hlen,b5⟩
structure EB where
 E:Env
 ok:aE E
 mono:aj E
def EB.loop(b:EB){N f k base α}{st:α->S}{a c}(h:aR b.E N f k (aG base st a c)):EB:=
 ⟨_,b.ok.an b.mono h,b.mono.an aI⟩
def EB.call(b:EB){N f α st}{a:α->Prop}{c}(h:bg b.E N f (aO st a c)):EB:=
 ⟨_,b.ok.aw b.mono h,b.mono.aw aH⟩
def EB.pure(b:EB){N f g}(h:cj b.E N f g):EB:=⟨_,b.ok.aK b.mono h,b.mono.aK⟩
def EB.fresh(b:EB){N f g}(h:A1 b.E N f g):EB:=⟨_,b.ok.kX b.mono h,b.mono.kX⟩
def EB.range(b:EB){N g}(f k:Nat){sp}(c:sp.gw)(h:jb b.E N g sp)(a:FuncId->Bool):EB:=
 ⟨(b.E.addRange f k g _).cO a,(b.ok.addRange b.mono h).cO _,(b.mono.addRange c).cO _⟩
def EB.calm(b:EB)(l:List Nat):EB:=⟨b.E.jy fun f=>iS f l||b.E.calm f,b.ok.jy _,⟨b.mono.call,b.mono.loop,b.mono.lF⟩⟩
def EB.narrow(b:EB){f:Nat}{α β st}{side:α->Prop}{out st'}{side':β->Prop}{out'}
  (h: ∀args s K,aO st side out args s K->b.E.call f args s K) (k: ∀args s K,aO st' side' out' args s K->aO st side out args s K):EB:=
 ⟨_,b.ok.fV fun _ _ _ hh=>b.ok.call _ _ _ _ (h _ _ _ (k _ _ _ hh)),b.mono.aw aH⟩
def EB.Zk(b:EB)(l:List Nat):EB:=⟨{b.E with inl:=fun f=>!iS f l&&b.E.inl f},⟨b.ok.prog,b.ok.ia,b.ok.call,b.ok.lF,b.ok.loop⟩,⟨b.mono.call,b.mono.loop,b.mono.lF⟩⟩
end Go.Dn
