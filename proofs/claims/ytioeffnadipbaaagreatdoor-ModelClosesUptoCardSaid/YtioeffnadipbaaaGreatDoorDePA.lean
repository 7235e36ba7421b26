import Derived.Test.YtioeffnadipbaaaGreatDoorDnA
import Derived.Sort.Walk0
import Derived.Test.YtioeffnadipbaaaGreatDoorDeP9
import Derived.Test.YtioeffnadipbaaaGreatDoorDoM
namespace Go.Rl
open Go Go.Dn
structure vR{α:Type}(c:α->α->Int):Prop where
 swap: ∀a b,c b a= - c a b
 trans: ∀a b d,c a b<=0->c b d<=0->c a d<=0
theorem vR.self{α c}(h:vR c)(a:α):c a a=0:=by
 have:=h.swap a a;omega
theorem vR.L4{α c}(h:vR c){a b d:α}(i:c a b<0)(f:c b d<=0):c a d<0:=by
 rcases Int.lt_or_le _ 0 with g|g
 ·omega
 ·have e:=h.trans b d a f (by rw[h.swap a d];omega)
  rw[h.swap a b] at e;omega
theorem vR.ay3{α c}(h:vR c){a b d:α}(f:c a b<=0)(i:c b d<0):c a d<0:=by
 rcases Int.lt_or_le _ 0 with g|g
 ·omega
 ·have e:=h.trans d a b (by rw[h.swap a d];omega) f
  rw[h.swap b d] at e;omega
def rD{α:Type}(c:α->α->Int):List α->List α->Int
 |[],[]=>0
 |[],_::_=> -1
 |_::_,[]=>1
 |a::l,b::m=>bif decide (c a b=0) then rD c l m else c a b
theorem LY{α}{c:α->α->Int}(h:vR c):vR (rD c):=by
 refine⟨?_,?_⟩
 ·intro a
  induction a with
  |nil=>intro b;cases b<;>simp[rD]
  | cons a l j=>
   intro b;cases b with
   |nil=>simp[rD]
   |cons b m=>
    simp only[rD];have:=h.swap a b
    by_cases e:c a b=0
    ·rw[aD1 e,aD1 (by omega)];exact j m
    ·rw[aC9 e,aC9 (by omega)];exact this
 ·intro a
  induction a with
  |nil=>intro b d _ _;cases d<;>simp[rD]
  | cons a l j=>
   intro b d g f;cases b with
   |nil=>simp[rD] at g
   | cons b m=>
    cases d with
    |nil=>simp[rD] at f
    | cons d n=>
     simp only[rD] at g f⊢;by_cases o:c a b=0
     ·rw[aD1 o,aD2] at g
      by_cases i:c b d=0
      ·rw[aD1 i,aD2] at f
       have q:c a d=0:=by
        have k:=h.trans a b d (by omega) (by omega);have p:=h.trans d b a (by rw[h.swap b d];omega) (by rw[h.swap a b];omega);rw[h.swap a d] at p;omega
       rw[aD1 q];exact j m n g f
      ·rw[aC9 i,aD0] at f
       have:=h.ay3 (a:=a) (b:=b) (d:=d) (by omega) (by omega)
       rw[aC9 (by omega)];simp only[aD0];omega
     ·rw[aC9 o,aD0] at g
      have k:c b d<=0:=by
       by_cases i:c b d=0
       ·omega
       ·rwa [aC9 i,aD0] at f
      have:=h.L4 (a:=a) (b:=b) (d:=d) (by omega) k
      rw[aC9 (by omega)];simp only[aD0];omega
def zO(a b:Int):=bif decide (a<b) then -1 else bif decide (b<a) then 1 else 0
def CG(a b:ByteArray):=bif Op.bytesLess a.toList b.toList then -1 else bif Op.bytesLess b.toList a.toList then 1 else 0
theorem AS:vR zO:=by
 refine⟨fun a b=>?_,fun a b d=>?_⟩<;>unfold zO<;>simp[Bool.cond_decide]<;>omega
theorem Mj{a b}:zO a b=0↔a=b:=by
 grind [zO]
theorem toList_inj{a b:ByteArray}:a.toList=b.toList↔a=b:=by
 grind [ByteArray.toList_eq,ByteArray.ext,Array.toList_inj]
theorem yA a b:CG a b=if a.toList<b.toList then -1 else if b.toList<a.toList then 1 else 0:=by
 simp_all[CG,Go.Proofs.bytesLess_eq,Bool.cond_decide]
theorem AU:vR CG:=by
 refine⟨fun a b=>?_,fun a b d=>?_⟩
 ·grind [yA]
 grind [yA]
theorem Mk{a b}:CG a b=0↔a=b:=by
 grind [yA,toList_inj]
def pf a b:=
 bif toBool (af a 0)&&toBool (af b 0) then CG (toStr (af a 2)) (toStr (af b 2)) else bif toBool (af a 0) then 1 else bif toBool (af b 0) then -1 else zO (toInt (af a 1)) (toInt (af b 1))
theorem Lo:vR pf:=by
 refine⟨fun a b=>?_,fun a b d=>?_⟩<;>unfold pf
 ·cases toBool (af a 0)<;>cases toBool _<;>simp[AU.swap (toStr (af a 2)),AS.swap (toInt (af a 1))]
 ·cases toBool _<;>cases toBool (af b 0)<;>cases toBool (af d 0)<;>simp
  ·exact AS.trans _ _ _
  ·exact AU.trans _ _ _
def bD:=rD pf
theorem bX:vR bD:=LY Lo
abbrev RL:=List (List AV)
def rat(L:RL) i:=L.getD i []
def swp(L:RL)(i j:Nat):RL:=(L.set i (rat L j)).set j (rat L i)
theorem Ac{L i} h:rat L i=L[i]:=by grind [rat]
theorem Ka L i k x(h:i<L.length):rat (L.set i x) k=if i=k then x else rat L k:=by
 grind [rat]
theorem oC L i j:(swp L i j).length=L.length:=by simp[swp]
theorem uW{L i j}(b:i<L.length)(a:j<L.length) k:rat (swp L i j) k=if j=k then rat L i else if i=k then rat L j else rat L k:=by
 grind [swp,Ka]
theorem RK{L i j}(a:i<L.length)(b:j<L.length):(swp L i j).Perm L:=by
 grind [swp,Ac,List.set_set_perm]
inductive Sw (a b:Nat) (L:RL):RL->Prop
 |refl:Sw a b L L
 |swap {M:RL} (h:Sw a b L M) (i j:Nat) (hi:a<=i/\i<b) (hj:a<=j/\j<b) (hb:b<=M.length):Sw a b L (swp M i j)
theorem Sw.len{a b L M}(h:Sw a b L M):M.length=L.length:=by
 induction h<;>grind [oC]
theorem Sw.perm{a b L M}(h:Sw a b L M):M.Perm L:=by
 induction h with
 |refl=>rfl
 |swap h i j d e f c=>exact(RK (by omega) (by omega)).trans c
theorem Sw.out{a b L M}(h:Sw a b L M){k}(d:k<a\/b<=k):rat M k=rat L k:=by
 induction h with
 |refl=>rfl
 |swap h i j e f g c=>rw[uW (by omega) (by omega),if_neg (by omega),if_neg (by omega),c]
theorem Sw.inn{a b L M}(h:Sw a b L M): ∀k,a<=k->k<b->∃x,(a<=x/\x<b)/\rat M k=rat L x:=by
 induction h with
 |refl=>exact fun k c d=>⟨k,⟨c,d⟩,rfl⟩
 |swap h i j f g l e=>
  grind [uW]
theorem Sw.trans{a b L M N}(h:Sw a b L M)(k:Sw a b M N):Sw a b L N:=by
 induction k with
 |refl=>omega
 |swap _ i j d e f c=>exact c.swap i j d e f
theorem Sw.mono{a b d c L M}(h:Sw a b L M)(g:d<=a)(k:b<=c)(n:c<=L.length):Sw d c L M:=by
 induction h with
 |refl=>exact .refl
 |swap h i j l m f e=>exact e.swap i j (by omega) (by omega) (by rw[h.len];omega)
def Up L a b:=∀i j,a<=i->i<j->j<b->bD (rat L i) (rat L j)<=0
theorem Up.le{L a b}(h:Up L a b){i j}(d:a<=i)(f:i<=j)(c:j<b):bD (rat L i) (rat L j)<=0:=by
 rcases Nat.lt_or_ge i j with e|e
 ·exact h i j d e c
 ·obtain rfl:i=j:=by omega
  rw[bX.self];simp
theorem Up.same{L M a b}(h:Up L a b)(e: ∀k,a<=k->k<b->rat M k=rat L k):Up M a b:=fun i j d f c=>by
 rw[e i (by omega) (by omega),e j (by omega) c];exact h i j d f c
theorem Up.one L{a b}(h:b<=a+1):Up L a b:=fun i j d e c=>by omega
structure Nh(a m b:Nat)(L M:RL):Prop where
 sw:Sw a b L M
 lo: ∀k,a<=k->k<a+(b - m)->rat M k=rat L (k+(m - a))
 hi: ∀k,a+(b - m)<=k->k<b->rat M k=rat L (k - (b - m))
structure Cut(a m b s e:Nat)(L:RL):Prop where
 h1:a<s->e<b->bD (rat L (s - 1)) (rat L e)<=0
 h2:s<m->m<e->bD (rat L (e - 1)) (rat L s)<=0
theorem EM{a m b s e h L M N}(E:a<=s/\s<=m/\m<=e/\e<=b)(F:s+(e - m)=h)(l:Up L a m)(g:Up L m b)(z:Cut a m b s e L)
  (n:Nh s m e L M) (t:Sw a h M N):(∀k,a<=k->k<h->∀j,h<=j->j<b->bD (rat N k) (rat M j)<=0)/\Up M a s/\Up M s h/\Up M h e/\Up M e b:=by
 have lo: ∀k,a<=k->k<s->rat M k=rat L k:=fun k c d=>n.sw.out (.inl d)
 have r: ∀k,e<=k->rat M k=rat L k:=fun k c=>n.sw.out (.inr c)
 have u: ∀k,s<=k->k<h->rat M k=rat L (k+(m - s)):=fun k c d=>n.lo k c (by omega)
 have o: ∀k,h<=k->k<e->rat M k=rat L (k - (e - m)):=fun k c d=>n.hi k (by omega) d
 refine⟨fun k B C j y w=>?_,(Up.same (fun i j c d f=>l i j c d (by omega)) lo),fun i j c d f=>?_,fun i j c d f=>?_,(Up.same (fun i j c d f=>g i j (by omega) d f) (fun k c _=>r k c))⟩
 ·obtain⟨x,⟨v,D⟩,A⟩:=t.inn k B C
  rw[A];rcases Nat.lt_or_ge x s with p|p
  ·rw[lo x v p]
   rcases Nat.lt_or_ge j e with q|q
   ·rw[o j y q];exact l.le v (by omega) (by omega)
   ·rw[r j q]
    exact bX.trans _ _ _ (l.le v (show x<=s - 1 by omega) (by omega)) (bX.trans _ _ _ (z.h1 (by omega) (by omega)) (g.le (by omega) q w))
  ·rw[u x p D]
   rcases Nat.lt_or_ge j e with q|q
   ·rw[o j y q]
    exact bX.trans _ _ _ (g.le (by omega) (show x+(m - s)<=e - 1 by omega) (by omega)) (bX.trans _ _ _ (z.h2 (by omega) (by omega)) (l.le (by omega) (by omega) (by omega)))
   ·rw[r j q];exact g.le (by omega) (by omega) w
 ·rw[u i c (by omega),u j (by omega) f];exact g _ _ (by omega) (by omega) (by omega)
 ·rw[o i c (by omega),o j (by omega) f];exact l _ _ (by omega) (by omega) (by omega)
theorem U7{a h b M N O}(r: ∀k,a<=k->k<h->∀j,h<=j->j<b->bD (rat N k) (rat M j)<=0)(o:Sw a h M N)(m:Up N a h)(c:Sw h b N O)(f:Up O h b):Up O a b:=by
 intro i j g e d;rcases Nat.lt_or_ge j h with q|q
 ·rw[c.out (by grind),c.out (.inl q)];exact m i j g e q
 ·rcases Nat.lt_or_ge i h with p|p
  ·obtain⟨x,⟨l,s⟩,n⟩:=c.inn j q d
   rw[c.out (.inl p),n,o.out (.inr l)]
   grind
  ·exact f i j p e d
structure Vo(a i j:Nat)(L M:RL):Prop where
 sw:Sw a (i+1) L M
 up: ∀x y,a<=x->x<y->y<=i->x≠j->y≠j->bD (rat M x) (rat M y)<=0
 be: ∀y,j<y->y<=i->bD (rat M j) (rat M y)<=0
theorem Vo.start{a i L}(u:Up L a i):Vo a i i L L:=⟨.refl,fun x y c b e f d=>u x y c b (by omega),by grind⟩
theorem Vo.step{a i j L M}(h:Vo a i j L M)(p:a<j/\j<=i)(n:i<L.length)(q:bD (rat M j) (rat M (j - 1))<0):Vo a i (j - 1) L (swp M j (j - 1)):=by
 have o:=h.sw.len;have e: ∀k,rat (swp M j (j - 1)) k=if j - 1=k then rat M j else if j=k then rat M (j - 1) else rat M k:=fun k=>uW (by omega) (by omega) k
 refine⟨h.sw.swap j (j - 1) ⟨by omega,by omega⟩ ⟨by omega,by omega⟩ (by omega),fun x y d c f l m=>?_,fun y d c=>?_⟩
 ·rw[e,e,if_neg (Ne.symm l),if_neg (Ne.symm m)]
  by_cases g:j=x
  ·subst g
   rw[if_pos rfl,if_neg (by omega)];exact h.up _ _ (by omega) (by omega) f (by omega) (by omega)
  ·rw[if_neg g]
   by_cases b:j=y
   ·subst b
    rw[if_pos rfl];exact h.up _ _ d (by omega) (by omega) (by omega) (by omega)
   ·rw[if_neg b]
    exact h.up _ _ d c f (by omega) (by omega)
 ·rw[e,e,if_pos rfl,if_neg (by omega)]
  by_cases b:j=y
  ·subst b;rw[if_pos rfl];omega
  ·rw[if_neg b];exact h.be y (by omega) c
theorem Vo.done{a i j L M}(h:Vo a i j L M)(l:a<=j/\j<=i)(k:a<j->0<=bD (rat M j) (rat M (j - 1))):Up M a (i+1):=by
 intro x y f d m;by_cases c:y=j
 ·subst c
  have g:bD (rat M (y - 1)) (rat M y)<=0:=by
   rw[bX.swap (rat M y)];omega
  by_cases e:x=y - 1
  ·rw[e];exact g
  ·exact bX.trans _ _ _ (h.up x (y - 1) f (by omega) (by omega) (by omega) (by omega)) g
 ·by_cases b:x=j
  ·subst b;exact h.be y d (by omega)
  ·exact h.up x y f d (by omega) b c
structure Fw(a b k:Nat)(L M:RL):Prop where
 sw:Sw a b L M
 me:rat M k=rat L a
 lo: ∀x,a<=x->x<k->rat M x=rat L (x+1)
 hi: ∀x,k<x->rat M x=rat L x
theorem Fw.start a b L:Fw a b a L L:=⟨.refl,rfl,by omega,by simp⟩
theorem Fw.step{a b k L M}(h:Fw a b k L M)(f:a<=k/\k+1<b)(i:b<=L.length):Fw a b (k+1) L (swp M k (k+1)):=by
 have g:=h.sw.len;have e: ∀x,rat (swp M k (k+1)) x=if k+1=x then rat M k else if k=x then rat M (k+1) else rat M x:=fun x=>uW (by omega) (by omega) x
 refine⟨h.sw.swap k (k+1) ⟨by omega,by omega⟩ ⟨by omega,by omega⟩ (by omega),by rw[e,if_pos rfl,h.me],fun x c j=>?_,fun x c=>?_⟩
 ·rw[e,if_neg (by omega)]
  by_cases d:k=x
  ·subst d;rw[if_pos rfl,h.hi _ (by omega)]
  ·rw[if_neg d,h.lo x c (by omega)]
 ·rw[e,if_neg (by omega),if_neg (by omega),h.hi x (by omega)]
theorem Fw.done{a b i L M}(h:Fw a b (i - 1) L M)(j:a+1<=i/\i<=b)(u:Up L (a+1) b)(e:a+1<i->bD (rat L (i - 1)) (rat L a)<=0)(d:i<b->bD (rat L a) (rat L i)<=0):Up M a b:=by
 intro x y f g c;rcases Nat.lt_trichotomy x (i - 1) with p|p|p
 ·rw[h.lo x f p]
  rcases Nat.lt_trichotomy y (i - 1) with q|q|q
  ·rw[h.lo y (by omega) q];exact u _ _ (by omega) (by omega) (by omega)
  ·rw[q,h.me];exact bX.trans _ _ _ (u.le (by omega) (show x+1<=i - 1 by omega) (by omega)) (e (by omega))
  ·rw[h.hi y q];exact u.le (by omega) (by omega) c
 ·subst p
  rw[h.me,h.hi y (by omega)];exact bX.trans _ _ _ (d (by omega)) (u.le (by omega) (by omega) c)
 ·rw[h.hi x p,h.hi y (by omega)];exact u x y (by omega) g c
structure Bw(a m k:Nat)(L M:RL):Prop where
 sw:Sw a (m+1) L M
 me:rat M k=rat L m
 hi: ∀x,k<x->x<=m->rat M x=rat L (x - 1)
 lo: ∀x,x<k->rat M x=rat L x
theorem Bw.start a m L:Bw a m m L L:=⟨.refl,rfl,by omega,by simp⟩
theorem Bw.step{a m k L M}(h:Bw a m k L M)(f:a<k/\k<=m)(g:m<L.length):Bw a m (k - 1) L (swp M k (k - 1)):=by
 have i:=h.sw.len;have e: ∀x,rat _ x=if k - 1=x then rat M k else if k=x then rat M (k - 1) else rat M x:=fun x=>uW (by omega) (by omega) x
 refine⟨h.sw.swap k (k - 1) ⟨by omega,by omega⟩ ⟨by omega,by omega⟩ (by omega),by rw[e,if_pos rfl,h.me],fun x c d=>?_,fun x c=>?_⟩
 ·rw[e,if_neg (by omega)]
  by_cases b:k=x
  ·subst b;rw[if_pos rfl,h.lo _ (by omega)]
  ·rw[if_neg b,h.hi x (by omega) d]
 ·rw[e,if_neg (by omega),if_neg (by omega),h.lo x (by omega)]
theorem Bw.done{a m i L M}(h:Bw a m i L M)(g:a<=i/\i<=m)(u:Up L a m)(e:a<i->bD (rat L (i - 1)) (rat L m)<=0)(d:i<m->bD (rat L m) (rat L i)<=0):Up M a (m+1):=by
 intro x y b c f;rcases Nat.lt_trichotomy y i with p|p|p
 ·rw[h.lo x (by omega),h.lo y p];exact u x y b c (by omega)
 ·subst p
  rw[h.lo x c,h.me];exact bX.trans _ _ _ (u.le b (show x<=y - 1 by omega) (by omega)) (e (by omega))
 ·rw[h.hi y p (by omega)]
  rcases Nat.lt_trichotomy x i with q|q|q
  ·rw[h.lo x q];exact u.le b (by omega) (by omega)
  ·subst q;rw[h.me];exact bX.trans _ _ _ (d (by omega)) (u.le b (by omega) (by omega))
  ·rw[h.hi x q (by omega)];exact u _ _ (by omega) (by omega) (by omega)
structure Xr(p q k lo hi:Nat)(L M:RL):Prop where
 sw:Sw lo hi L M
 a: ∀x,p<=x->x<p+k->rat M x=rat L (x+(q - p))
 b: ∀x,q<=x->x<q+k->rat M x=rat L (x - (q - p))
 c: ∀x,¬ (p<=x/\x<p+k)-> ¬ (q<=x/\x<q+k)->rat M x=rat L x
theorem Xr.start p q lo a L:Xr p q 0 lo a L L:=⟨.refl,by omega,by grind,by simp⟩
theorem Xr.step{p q k n lo f L M}(h:Xr p q k lo f L M)(j:k<n)(r:lo<=p)(s:p+n<=q)(l:q+n<=f)(m:f<=L.length):Xr p q (k+1) lo f L (swp M (p+k) (q+k)):=by
 have o:=h.sw.len;have e: ∀x,rat (swp M (p+k) (q+k)) x=if q+k=x then rat M (p+k) else if p+k=x then rat M (q+k) else rat M x:=fun x=>uW (by omega) (by omega) x
 refine⟨h.sw.swap _ _ ⟨by omega,by omega⟩ ⟨by omega,by omega⟩ (by omega),fun x g i=>?_,fun x g i=>?_,fun x g i=>?_⟩
 ·rw[e,if_neg (by omega)]
  by_cases d:p+k=x
  ·rw[if_pos d,h.c (q+k) (by omega) (by omega)];congr 1;omega
  ·rw[if_neg d,h.a x g (by omega)]
 ·rw[e]
  by_cases d:q+k=x
  ·rw[if_pos d,h.c (p+k) (by omega) (by omega)];congr 1;omega
  ·rw[if_neg d,if_neg (by omega),h.b x g (by omega)]
 ·rw[e,if_neg (by omega),if_neg (by omega),h.c x (by omega) (by omega)]
theorem Xr.mono{p q k lo f e d L M}(h:Xr p q k lo f L M)(i:e<=lo)(j:f<=d)(g:d<=L.length):Xr p q k e d L M:=⟨h.sw.mono i j g,h.a,h.b,h.c⟩
structure La(a m b i j:Nat)(L M:RL):Prop where
 sw:Sw a b L M
 go: ∀X,Nh (m - i) m (m+j) M X->Nh a m b L X
theorem La.start{a m b}(c:a<=m)(d:m<=b) L:La a m b (m - a) (b - m) L L:=⟨.refl,by grind⟩
theorem La.down{a m b i j L M N}(h:La a m b i j L M)(o:a<=m - i/\i<=m)(n:m+j<=b)(p:b<=L.length)(l:j<i)(d:Xr (m - i) m j (m - i) (m+j) M N):La a m b (i - j) j L N:=by
 have r:=h.sw.len;refine⟨h.sw.trans (d.sw.mono (by omega) n (by omega)),fun X e=>h.go X ⟨d.sw.trans (e.sw.mono (by omega) (Nat.le_refl _) (by rw[d.sw.len];omega)),fun k f g=>?_,fun k f g=>?_⟩⟩
 ·rw[e.sw.out (.inl (by omega)),d.a k f (by omega)]
 ·rcases Nat.lt_or_ge k (m - (i - j)+j) with q|q
  ·rw[e.lo k (by omega) (by omega),d.b _ (by omega) (by omega)];congr 1;omega
  ·rw[e.hi k (by omega) g,d.c _ (by omega) (by omega)]
theorem La.up{a m b i j L M N}(h:La a m b i j L M)(o:a<=m - i/\i<=m)(f:m+j<=b)(s:b<=L.length)(l:i<j)(d:Xr (m - i) (m+j - i) i (m - i) (m+j) M N):La a m b i (j - i) L N:=by
 have p:=h.sw.len;refine⟨h.sw.trans (d.sw.mono (by omega) f (by omega)),fun X e=>h.go X ⟨d.sw.trans (e.sw.mono (by omega) (by omega) (by rw[d.sw.len];omega)),fun k g n=>?_,fun k g n=>?_⟩⟩
 ·rcases Nat.lt_or_ge k (m - i+(j - i)) with q|q
  ·rw[e.lo k (by omega) (by omega),d.c _ (by omega) (by omega)]
  ·rcases Nat.lt_or_ge k (m+(j - i)) with r|r
   ·rw[e.hi k (by omega) r,d.a _ (by omega) (by omega)];congr 1;omega
   ·omega
 ·rcases Nat.lt_or_ge k (m+(j - i)) with r|r
  ·omega
  ·rw[e.sw.out (.inr (by omega)),d.b k (by omega) (by omega)];congr 1;omega
theorem La.done{a m b i L M X}(h:La a m b i i L M)(f:i<=m)(c:Xr (m - i) m i (m - i) (m+i) M X):Nh a m b L X:=
 h.go X ⟨c.sw,fun k d e=>by rw[c.a k d (by omega)],fun k d e=>by rw[c.b k (by omega) (by omega)];grind⟩
theorem Sw.upr{a b c d L M}(h:Sw a b L M)(u:Up L c d)(hd:b<=c):Up M c d:=u.same fun _ e _=>h.out (by grind)
theorem Sw.upl{a b c d L M}(h:Sw a b L M)(u:Up L c d)(hd:d<=a):Up M c d:=u.same fun _ _ e=>h.out (by grind)
theorem Up.cut{L a b c}(h:Up L a b)(f:c<=b):Up L a c:=fun i j d e g=>h i j d e (by omega)
structure Sr(a b:Nat)(L M:RL):Prop where
 sw:Sw a b L M
 up:Up M a b
theorem Nh.none{a m b L}(h:m=a\/b=m):Nh a m b L L:=⟨.refl,by grind,by grind⟩
end Go.Rl
namespace Go.Proofs.YtioeffnadipbaaaGreatDoor
open Go Go.Dn Go.Rl Go.Proofs
structure OkR(a:dx):Prop where
 s:du a
 r:ba (aL a)=true
 f:jZ (aL a)=true
def aq0(a:dx):List AV×List Dn.Obj:=([aw a],[])
def aj9(a:dx):Out (AV×List Dn.Obj):= .one (.aH [.ak 0 0 (c6 (aL a)).length, .int 0],[.row 3 (ints (c6 (aL a)))])
theorem ag7: ∀b st K,aM aq0 OkR aj9 b st K->aM FM du Ml b st K:=by
 rintro b st K ⟨a,e,c,d⟩;refine⟨a,e,c.s,?_⟩;simp[Ml];rw[c.r,c.f];exact d
noncomputable def BGg κ:=EB.calm ⟨_,eHg κ,mHg _⟩ [888888]
theorem XO κ a st K(h:aM FM du Ml a st K):(BGg κ).E.call 62 a st K:=h
noncomputable def BQo κ:=((BGg κ).narrow (XO _) ag7).calm [62]
def EB.Hf(b:EB)(l:List Nat):EB:=⟨{b.E with quiet:=fun f=>jr f l||b.E.quiet f},⟨b.ok.prog,b.ok.iI,b.ok.call,b.ok.ll,b.ok.loop⟩,⟨b.mono.call,b.mono.loop,b.mono.ll⟩⟩
def EB.inline(b:EB)(l:List Nat):EB:=⟨{b.E with inl:=fun f=>jr f l||b.E.inl f},⟨b.ok.prog,b.ok.iI,b.ok.call,b.ok.ll,b.ok.loop⟩,⟨b.mono.call,b.mono.loop,b.mono.ll⟩⟩
def EB.owns(b:EB)(l:List Nat):EB:=⟨{b.E with own:=fun f=>jr f l||b.E.own f},⟨b.ok.prog,b.ok.iI,b.ok.call,b.ok.ll,b.ok.loop⟩,⟨b.mono.call,b.mono.loop,b.mono.ll⟩⟩
noncomputable def BR0 κ:=EB.owns (EB.inline (EB.Hf (BQo κ) [150,149,101,100,54])
 [54,81,57,39])
 [199,190,166,167,128,79,80]
end Go.Proofs.YtioeffnadipbaaaGreatDoor
namespace Go.Proofs.YtioeffnadipbaaaGreatDoor
open Go Go.Dn Go.Rl Go.Proofs
attribute [local irreducible] a8 vc
set_option maxRecDepth 20000
structure fe where
 y:Bool
 n:Int
 s:ByteArray
abbrev fq(v:fe):AV:= .agg [.bool v.y, .int v.n, .lit (.string v.s)]
def Ad(x:AV):fe:=⟨toBool (af x 0),toInt (af x 1),toStr (af x 2)⟩
theorem yOi κ a b K:(a8 (BR0 κ).E 12 150 [.int a, .int b] [] K)=(
 aq (decide (a<b)) (K (AV.int (-1)) []) (aq (decide (a>b)) (K (AV.int 1) []) (K (AV.int 0) []))):=by kernel_rfl
def gOi:List AV->Option (Bool×AV)
 |[.lit (.int .i64 a), .lit (.int .i64 b)]=>some (true, .int (zO a b))
 |_=>none
def gOs:List AV->Option (Bool×AV)
 |[.lit (.string a), .lit (.string b)]=>some (true, .int (CG a b))
 |_=>none
theorem pOi κ:cm (BR0 κ).E 12 150 gOi:=by
 intro d x c;unfold gOi at c;split at c
 ·rename_i a b
  simp[aC8,aD4,true_and] at c;subst c;refine⟨_,rfl,rfl,Eq.mpr (yOi κ a b _) ?_⟩
  grind [zO,ae]
 grind
noncomputable def BOi κ:=(BR0 κ).pure (pOi _)
theorem yOs κ a b K:(a8 (BOi κ).E 12 149 [.lit (.string a), .lit (.string b)] [] K)=(
 aq (Op.bytesLess (ByteArray.toList a) (ByteArray.toList b)) (K (AV.int (-1)) []) (aq (!(Op.bytesLess (ByteArray.toList a) (ByteArray.toList b)||
 ByteArray.toList a==ByteArray.toList b)) (K (AV.int 1) []) (K (AV.int 0) []))):=by kernel_rfl
theorem T9{a b:ByteArray}(h:Op.bytesLess a.toList b.toList=false):Op.bytesLess b.toList a.toList= !a.toList==b.toList:=by
 grind [Go.Proofs.bytesLess_eq]
theorem pOs κ:cm (BOi κ).E 12 149 gOs:=by
 intro d x c;unfold gOs at c;split at c
 ·rename_i a b
  simp only[aC8,aD4,true_and] at c;subst c;refine⟨_,rfl,rfl,Eq.mpr (yOs κ a b _) ?_⟩;unfold CG;refine ae.2 ⟨by grind,fun h=>?_⟩;rw[h,T9 h]
  grind [ae]
 ·cases c
noncomputable def Xb κ:=(BOi κ).pure (pOs _)
theorem yVa κ a b K:(a8 (Xb κ).E 12 101 [fq a,fq b] [] K)=(
 letI c:=aq a.y (K (AV.int 1) []) (aq b.y (K (AV.int (-1)) []) (K (AV.int (zO a.n b.n)) []))
 aq a.y (aq b.y (K (AV.int (CG a.s b.s)) []) c) c):=by kernel_rfl
theorem KX a b K(d:K (.int (pf (fq a) (fq b))) []) κ:a8 (Xb κ).E 12 101 [fq a,fq b] [] K:=by
 refine Eq.mpr (yVa _ a b K) ?_;obtain⟨c,h,g⟩:=a;obtain⟨e,i,f⟩:=b;cases c<;>cases e<;>exact d
def gVa:List AV->Option (Bool×AV)
 |[.agg [.lit (.bool y), .lit (.int .i64 n), .lit (.string s)], .agg [.lit (.bool b), .lit (.int .i64 a), .lit (.string s')]]=>some (true, .int (pf (.agg [.bool y, .int n, .lit (.string s)]) (.agg [.bool b, .int a, .lit (.string s')])))
 |_=>none
theorem pVa κ:cm (Xb κ).E 12 101 gVa:=by
 intro b x a;unfold gVa at a;split at a
 ·simp[aC8,aD4,true_and] at a
  subst a;exact⟨_,rfl,rfl,KX ⟨_,_,_⟩ ⟨_,_,_⟩ _ rfl κ⟩
 grind
def aq7(x:fe×fe):List AV×List Dn.Obj:=([fq x.1,fq x.2],[])
def al2(x:fe×fe):Out (AV×List Dn.Obj):= .one (.int (pf (fq x.1) (fq x.2)),[])
theorem cVa κ:bd (Xb κ).E 12 101 (aM aq7 (fun _=>True) al2):=by
 refine aQ ?_;rintro⟨a,b⟩ K _ c;exact KX a b K c _
noncomputable def BVc κ:=(Xb κ).call (cVa _)
theorem am4 κ:gW (Pr κ) 101 gVa:=nB (Xb _).ok (Xb _).mono (pVa _)
noncomputable def Xn κ:=(BVc κ).Uc (am4 _)
theorem xCf κ l m(i:Nat) I n K:(vc (Xn κ).E 12 100 none 0 (ad (Pr κ).toProgram 100 2) (sp 39 [(0, .ah 72 l),(1, .ah 72 m),(2, .bo 101 []),(11, .ah 72 l),(12, .int l.length),(13, .int i)] []) (bg (Xn κ).E 100 2 0 I n K))=(
 letI a:=AV.int
 letI b:=AV.bool
 letI c:=Int.toNat ↑i
 letI d:=↑i<(↑(l.length):Int)
 aq (decide d) (aW (true&&decide d) (aq (decide (↑i>=(↑(m.length):Int))) (K .ret (sp 39 [(6,a 1)] [])) (aW (true&&decide (↑i<(↑(m.length):Int))) (∃e1,letI e:=.agg [b e1.1.y,a e1.1.n,AV.str e1.1.s];letI f:=.agg [b e1.2.y,a e1.2.n,AV.str e1.2.s];([.agg [b (Dn.toBool (af (nth l c) 0)),a (toInt (af (nth l c) 1)),AV.str (toStr (af (nth l c) 2))],.agg [b (Dn.toBool (af (nth m c) 0)),a (toInt (af (nth m c) 1)),AV.str (toStr (af (nth m c) 2))]],[])=aq7 e1/\True/\aq (pf e f != 0) (K .ret (sp 39 [(6,a (pf e f))] [])) (∃e0,e0<n/\I e0 (sp 39 [(0,.ah 72 l),(1,.ah 72 m),(2,.bo 101 []),(11,.ah 72 l),(12,a ↑(l.length)),(13,a (IntKind.wrap .i64 (↑i+1)))] [])))))) (K (.exit 0) (sp 39 [(0,.ah 72 l),(1,.ah 72 m)] []))):=by kernel_rfl
def HQ:List AV->List AV->Bool
 |[],_=>true
 |_::_,[]=>false
 |a::l,b::m=>decide (pf a b=0)&&HQ l m
theorem D9: ∀l m,HQ l m=true->bD l m=bif decide (l.length<m.length) then -1 else 0
 |[],[],_=>rfl
 |[],_::_,_=>by rfl
 |_::_,[],h=>by grind [HQ]
 |a::l,b::m,h=>by
  simp[HQ] at h;have:=D9 l m h.2
  simp_all[bD,rD]
structure ACf where
 l:List AV
 m:List AV
 i:Nat
abbrev an9(x:ACf):=sp 39 [(0, .ah 72 x.l),(1, .ah 72 x.m),(2, .bo 101 []),(11, .ah 72 x.l),(12, .int x.l.length),(13, .int x.i)] []
def QB(x:ACf):=x.i<=x.l.length/\x.i<=x.m.length/\x.l.length<=aX
def PV(x:ACf):Out (Exit×S):= .aq (HQ (x.l.drop x.i) (x.m.drop x.i)) (.one (.exit 0,sp 39 [(0, .ah 72 x.l),(1, .ah 72 x.m)] [])) (.one (.ret,sp 39 [(6, .int (bD (x.l.drop x.i) (x.m.drop x.i)))] []))
theorem lCf κ:aU (Xn κ).E 12 100 2 (aG 0 an9 QB PV):=by
 refine aC (fun x=>x.l.length - x.i) ?_;rintro⟨l,m,i⟩ K ⟨f,d,c⟩ a;simp only[aX] at f d c;rw[show(Xn κ).E.P=Pr κ from rfl];refine Eq.mpr (xCf κ l m i _ _ K) ?_;simp only[PV,Out.run,ae] at a;simp only[Int.toNat_natCast];rw[ae,at3,aC7];refine⟨fun h=>ai.2 ⟨by simp;omega,ae.2 ⟨fun e=>?_,fun e=>?_⟩⟩,fun h=>?_⟩
 ·have e:m.length<=i:=by simpa using e
  rw[aD3 e,aD6 (show i<l.length by omega)] at a;exact a.2 rfl
 ·have e:i<m.length:=by simpa using e
  rw[aD6 (show i<l.length by omega),←aV l i (by omega),aD6 e,←aV m i e] at a;simp only[HQ,bD,rD] at a;refine ai.2 ⟨by simp;omega,(Ad (nth l i),Ad (nth m i)),rfl,trivial,?_⟩;rw[show pf (fq (Ad (nth l i))) (fq (Ad (nth m i)))=pf (nth l i) (nth m i) from rfl];rw[ae,bne_iff_ne,bne_eq_false_iff_eq];refine⟨fun b=>?_,fun b=>?_⟩
  ·grind
  ·rw[aD1 b,aE2,aD2] at a
   rw[az (n:=(i:Int)+1) (by omega) (by omega)];refine⟨_,?_,⟨l,m,i+1⟩,rfl,⟨by simp only;omega,e,by simpa[aX] using c⟩,rfl,?_⟩
   ·simp only;omega
   ·simp only[PV,Out.run,ae]
    exact a
 ·rw[aD3 (show l.length<=i by omega)] at a
  exact a.1 rfl
noncomputable def BCf κ:=(Xn κ).loop (lCf _)
theorem yCf κ l m K:(a8 (BCf κ).E 12 100 [.ah 72 l, .ah 72 m, .bo 101 []] [] K)=(
 letI a:=AV.int
 letI b:=Pg.toProgram (Env.P (EB.E (Xn κ)))
 ad b 100 2=ad b 100 2/\∃e0,sp 39 [(0,.ah 72 l),(1,.ah 72 m),(2,.bo 101 []),(11,.ah 72 l),(12,a ↑(l.length)),(13,
 a 0)] []=an9 e0/\QB e0/\aq (HQ (List.drop e0.i e0.l) (List.drop e0.i e0.m)) (aq (decide (↑(e0.l.length)<(↑(e0.m.length):Int))) (K (a
 (-1)) []) (K (a 0) [])) (K (a (bD (List.drop e0.i e0.l) (List.drop e0.i e0.m))) [])):=by kernel_rfl
def gCf:List AV->Option (Bool×AV)
 |[.ah 72 l, .ah 72 m, .bo 101 []]=>some (decide (l.length<=aX), .int (bD l m))
 |_=>none
theorem pCf κ:cm (BCf κ).E 12 100 gCf:=by
 intro b x a;unfold gCf at a;split at a
 ·rename_i l m
  simp only[aC8,aD4,at3] at a;obtain⟨c,rfl⟩:=a;refine⟨_,rfl,rfl,Eq.mpr (yCf κ l m _) ?_⟩;refine⟨rfl,⟨l,m,0⟩,rfl,⟨Nat.zero_le _,Nat.zero_le _,c⟩,?_⟩
  grind [ae,D9]
 grind
noncomputable def BCg κ:=(BCf κ).pure (pCf _)
theorem yCq κ l m K:(a8 (BCg κ).E 12 54 [.ah 72 l, .ah 72 m] [] K)=(
 aW (decide (l.length<=9223372036854775807)) (K (AV.int (bD l m)) [])):=by kernel_rfl
def gCq:List AV->Option (Bool×AV)
 |[.ah 72 l, .ah 72 m]=>some (decide (l.length<=aX), .int (bD l m))
 |_=>none
theorem pCq κ:cm (BCg κ).E 12 54 gCq:=by
 intro b x a;unfold gCq at a;split at a
 ·rename_i l m
  simp   at a;obtain⟨c,rfl⟩:=a;refine⟨_,rfl,rfl,Eq.mpr (yCq _ l m _) ?_⟩;exact ai.2 ⟨aD1 c,rfl⟩
 grind
noncomputable def R5 κ:=(BCg κ).pure (pCq _)
abbrev rws(L:RL):List AV:=L.map fun r=> .ah 72 r
theorem eC L:(rws L).length=L.length:=by simp
theorem gy: ∀L i,ag (nth (rws L) i)=rat L i
 |[],i=>by rfl
 |r::L,0=>rfl
 |r::L,i+1=>by
  have:=gy L i
  grind [nth,rat]
theorem wQ r: ∀L i,bP (rws L) i (.ah 72 r)=rws (L.set i r)
 |[],i=>by rfl
 |a::L,0=>rfl
 |a::L,i+1=>by
  have:=wQ r L i
  grind [bP]
def fK(L:RL):=∀r,r∈L->r.length<=aX
theorem lq{L}(h:fK L) i:(rat L i).length<=aX:=by
 unfold rat;rw[List.getD_eq_getElem?_getD];cases e:L[i]? with
 |none=>simp
 |some r=>exact h r (by grind)
theorem fJ{L M}(h:fK L)(p:M.Perm L):fK M:=fun r a=>h r (by grind)
abbrev pe:AV:= .bo 54 []
abbrev kh(L:RL):Dn.Obj:= .row 70 (rws L)
theorem wT L i j:bP (bP (rws L) i (.ah 72 (ag (nth (rws L) j)))) j (.ah 72 (ag (nth (rws L) i)))=rws (swp L i j):=by
 rw[gy,gy,wQ,wQ];rfl
theorem xSr κ L(a b n i:Nat) I m K:(vc (R5 κ).E 12 199 none 1 (ad (Pr κ).toProgram 199 1) (sp 38 [(0, .ak 0 0 L.length),(1, .int a),(2, .int b),(3, .int n),(10, .int i)] [kh L]) (bg (R5 κ).E 199 1 1 I m K))=(
 letI c:=IntKind.wrap .i64
 letI d:=↑a+(↑i:Int)
 letI f:=decide (0<=c d)&&decide (c d<↑(L.length))
 letI e:=↑b+(↑i:Int)
 letI g:=decide (0<=c e)&&decide (c e<↑(L.length))
 letI h:=c d
 letI j:=c e
 aq (decide (↑i<(↑n:Int))) (aW g (aW f (aW f (aW g (∃e0,e0<m/\I e0 (sp 38 [(0,.ak 0 0 L.length),(1,AV.int ↑a),(2,
 AV.int ↑b),(3,AV.int ↑n),(10,AV.int (c (↑i+1)))] [.row 70 (bP (bP (rws L) (0+Int.toNat h)
 (.ah 72 (ag (nth (rws L) (0+Int.toNat j))))) (0+Int.toNat j) (.ah 72 (ag (nth (rws L) (0+Int.toNat h)))))])))))) (K (.exit 0) (sp 38 []
 [.row 70 (rws L)]))):=by kernel_rfl
structure ASr where
 L0:RL
 L:RL
 a:Nat
 b:Nat
 n:Nat
 i:Nat
abbrev Za(x:ASr):=sp 38 [(0, .ak 0 0 x.L.length),(1, .int x.a),(2, .int x.b),(3, .int x.n),(10, .int x.i)] [kh x.L]
def ab3(x:ASr):=Xr x.a x.b x.i x.a (x.b+x.n) x.L0 x.L/\x.i<=x.n/\x.a+x.n<=x.b/\x.b+x.n<=x.L.length/\x.L.length<=aX
def ak5(x:ASr):Out (Exit×S):= .all (fun M=>Xr x.a x.b x.n x.a (x.b+x.n) x.L0 M) fun M=> .one (.exit 0,sp 38 [] [kh M])
theorem lSr κ:aU (R5 κ).E 12 199 1 (aG 1 Za ab3 ak5):=by
 refine aC (fun x=>x.n - x.i) ?_;rintro⟨m,L,a,b,n,i⟩ K ⟨c,l,d,g,e⟩ j;simp only[aX] at c l d g e;rw[show(R5 κ).E.P=Pr κ from rfl];refine Eq.mpr (xSr κ L a b n i _ _ K) ?_;have o:=c.sw.len;rw[ae,at3,aC7];refine⟨fun h=>?_,fun h=>?_⟩
 ·rw[az (n:=(b:Int)+i) (by omega) (by omega),az (n:=(a:Int)+i) (by omega) (by omega),az (n:=(i:Int)+1) (by omega) (by omega)]
  have f:(decide (0<=(b:Int)+i)&&decide ((b:Int)+i<L.length))=true:=by simp;omega
  have k:(decide (0<=(a:Int)+i)&&decide ((a:Int)+i<L.length))=true:=by simp;omega
  refine ai.2 ⟨f,ai.2 ⟨k,ai.2 ⟨k,ai.2 ⟨f,_,?_,⟨m,swp L (a+i) (b+i),a,b,n,i+1⟩,?_,⟨c.step (n:=n) (by omega) (Nat.le_refl _) d (Nat.le_refl _) (by omega),by simp only;omega,d,by rw[oC];exact g,by rw[oC];exact e⟩,rfl,j⟩⟩⟩⟩
  ·simp only;omega
  ·rw[show 0+((a:Int)+i).toNat=a+i by omega,show 0+((b:Int)+i).toNat=b+i by omega,wT]
   simp only[Za,oC];rfl
 ·obtain rfl:i=n:=by omega
  exact j L c
noncomputable def Xe κ:=(R5 κ).loop (lSr _)
theorem ySr κ L(a b n:Nat) K:(a8 (Xe κ).E 12 199 [.ak 0 0 L.length, .int a, .int b, .int n,pe] [kh L] K)=(
 letI c:=Pg.toProgram (Env.P (EB.E (R5 κ)))
 ad c 199 1=ad c 199 1/\∃e1,sp 38 [(0,.ak 0 0 L.length),(1,AV.int ↑a),(2,AV.int ↑b),(3,AV.int ↑n),(10,AV.int
 0)] [.row 70 (rws L)]=Za e1/\ab3 e1/\∀e0,Xr e1.a e1.b e1.n e1.a (e1.b+e1.n) e1.L0 e0->K (.aH []) [.row 70 (rws e0)]):=by kernel_rfl
structure Np where
 L:RL
 a:Nat
 b:Nat
 n:Nat
def UW(x:Np):=([.ak 0 0 x.L.length, .int x.a, .int x.b, .int x.n,pe],[kh x.L])
def Ds(x:Np):=x.a+x.n<=x.b/\x.b+x.n<=x.L.length/\x.L.length<=aX
def ak6(x:Np):Out (AV×List Dn.Obj):= .all (fun M=>Xr x.a x.b x.n x.a (x.b+x.n) x.L M) fun M=> .one (.aH [],[kh M])
theorem cSr κ:bd (Xe κ).E 12 199 (aM UW Ds ak6):=by
 refine aQ ?_;rintro⟨L,a,b,n⟩ K ⟨d,e,f⟩ c;exact Eq.mpr (ySr _ L a b n K) ⟨rfl,⟨L,L,a,b,n,0⟩,rfl,⟨.start _ _ _ _ _,Nat.zero_le _,d,e,f⟩,c⟩
noncomputable def Gq κ:=(Xe κ).call (cSr _)
theorem xRo κ L(m i j:Nat) I n K:(vc (Gq κ).E 12 190 none 1 (ad (Pr κ).toProgram 190 2) (sp 58 [(0, .ak 0 0 L.length),(2, .int m),(4,pe),(10, .int i),(11, .int j)] [kh L]) (bg (Gq κ).E 190 2 1 I n K))=(
 letI a:=IntKind.wrap .i64
 letI b:=AV.int
 letI c:=Obj.row
 letI d:=a (↑m - ↑i)
 aq (↑i != (↑j:Int)) (aq (decide (↑i>(↑j:Int))) (∃e2,([.ak 0 0 L.length,b d,b ↑m,b ↑j,.bo
 54 []],[c 70 (rws L)])=UW e2/\Ds e2/\∀e1,Xr e2.a e2.b e2.n e2.a (e2.b+e2.n) e2.L e1->∃e0,e0<n/\I e0 (sp 58 [(0,.ak 0 0
 L.length),(2,b ↑m),(4,.bo 54 []),(10,b (a (↑i - ↑j))),(11,b ↑j)] [c 70
 (rws e1)])) (∃e2,([.ak 0 0 L.length,b d,b (a (a (↑m+↑j) - ↑i)),
 b ↑i,.bo 54 []],[c 70 (rws L)])=UW e2/\Ds e2/\∀e1,Xr e2.a e2.b e2.n e2.a (e2.b+e2.n) e2.L e1->∃e0,e0<n/\I e0
 (sp 58 [(0,.ak 0 0 L.length),(2,b ↑m),(4,.bo 54 []),(10,b ↑i),(11,b (a (↑j - ↑i)))] [c 70 (rws e1)]))) (K (.exit 0) (sp 58 [(0,.ak 0 0 L.length),(2,b ↑m),(4,.bo 54 []),(10,b ↑i)] [c
 70 (rws L)]))):=by kernel_rfl
structure ARo where
 L0:RL
 L:RL
 a:Nat
 m:Nat
 b:Nat
 i:Nat
 j:Nat
abbrev aq3(x:ARo):=sp 58 [(0, .ak 0 0 x.L.length),(2, .int x.m),(4,pe),(10, .int x.i),(11, .int x.j)] [kh x.L]
def ab2(x:ARo):=La x.a x.m x.b x.i x.j x.L0 x.L/\(0<x.i/\x.a<=x.m - x.i/\x.i<=x.m)/\(0<x.j/\x.m+x.j<=x.b)/\x.b<=x.L0.length/\x.L0.length<=aX
def ak1(x:ARo):Out (Exit×S):= .all (fun r:Nat×RL=>La x.a x.m x.b r.1 r.1 x.L0 r.2/\(x.a<=x.m - r.1/\r.1<=x.m)/\x.m+r.1<=x.b) fun r=> .one (.exit 0,sp 58 [(0, .ak 0 0 r.2.length),(2, .int x.m),(4,pe),(10, .int r.1)] [kh r.2])
theorem lRo κ:aU (Gq κ).E 12 190 2 (aG 1 aq3 ab2 ak1):=by
 refine aC (fun x=>x.i+x.j) ?_;rintro⟨p,L,a,m,b,i,j⟩ K ⟨f,g,k,d,o⟩ l;simp only[aX] at f g k d o;rw[show(Gq κ).E.P=Pr κ from rfl];refine Eq.mpr (xRo κ L m i j _ _ K) ?_;have q:=f.sw.len;rw[ae,bne_iff_ne,bne_eq_false_iff_eq];refine⟨fun h=>ae.2 ⟨fun e=>?_,fun e=>?_⟩,fun h=>?_⟩
 ·have e:j<i:=by simpa using e
  rw[az (n:=(m:Int) - i) (by omega) (by omega),az (n:=(i:Int) - j) (by omega) (by omega),show(m:Int) - i=(m - i:Nat) by omega,show(i:Int) - j=(i - j:Nat) by omega];refine⟨⟨L,m - i,m,j⟩,rfl,⟨by simp only;omega,by simp only;omega,by simp only[aX];omega⟩,fun M c=>?_⟩;have hd:=f.down g.2 k.2 d e c;refine⟨_,?_,⟨p,M,a,m,b,i - j,j⟩,by rw[←c.sw.len],⟨hd,by simp only;omega,k,d,by simpa[aX] using o⟩,rfl,l⟩;simp only;omega
 ·have e:i<j:=by
   have:i<=j:=by simpa using e
   omega
  rw[az (n:=(m:Int) - i) (by omega) (by omega),az (n:=(m:Int)+j) (by omega) (by omega),az (n:=(m:Int)+j - i) (by omega) (by omega),az (n:=(j:Int) - i) (by omega) (by omega),show(m:Int) - i=(m - i:Nat) by omega,show(m:Int)+j - i=(m+j - i:Nat) by omega,show(j:Int) - i=(j - i:Nat) by omega];refine⟨⟨L,m - i,m+j - i,i⟩,rfl,⟨by simp only;omega,by simp only;omega,by simp only[aX];omega⟩,fun M c=>?_⟩;simp only[show m+j - i+i=m+j by omega] at c;have hd:=f.up g.2 k.2 d e c;refine⟨_,?_,⟨p,M,a,m,b,i,j - i⟩,by rw[←c.sw.len],⟨hd,g,by simp only;omega,d,by simpa[aX] using o⟩,rfl,l⟩;simp only;omega
 ·obtain rfl:i=j:=by omega
  exact l (i,L) ⟨f,g.2,k.2⟩
noncomputable def BRo κ:=(Gq κ).loop (lRo _)
theorem yRo κ L(a m b:Nat) K:(a8 (BRo κ).E 12 190 [.ak 0 0 L.length, .int a, .int m, .int b,pe] [kh L] K)=(
 letI c:=IntKind.wrap .i64
 letI d:=AV.int
 letI e:=Pg.toProgram (Env.P (EB.E (Gq κ)))
 ad e 190 2=ad e 190 2/\∃e3,sp 58 [(0,.ak 0 0 L.length),(2,d ↑m),(4,.bo 54 []),(10,d (c (↑m - ↑a))),(11,d (c (↑b - ↑m)))] [.row 70 (rws L)]=aq3 e3/\ab2 e3/\∀(e2:Nat×RL),La e3.a
 e3.m e3.b e2.1 e2.1 e3.L0 e2.2/\(e3.a<=e3.m - e2.1/\e2.1<=e3.m)/\e3.m+e2.1<=e3.b->∃e1,([.ak 0 0 e2.2.length,d (IntKind.wrap
 .i64 (↑(e3.m) - ↑(e2.1))),d ↑(e3.m),d ↑(e2.1),.bo 54 []],[.row 70 (rws e2.2)])=UW e1/\Ds e1/\∀e0,Xr e1.a e1.b e1.n e1.a (e1.b+e1.n) e1.L e0->K (.aH []) [.row 70 (rws e0)]):=by kernel_rfl
def Ry(x:Np):=([.ak 0 0 x.L.length, .int x.a, .int x.b, .int x.n,pe],[kh x.L])
def Dq(x:Np):=x.a<x.b/\x.b<x.n/\x.n<=x.L.length/\x.L.length<=aX
def Yt(x:Np):Out (AV×List Dn.Obj):= .all (fun M=>Nh x.a x.b x.n x.L M) fun M=> .one (.aH [],[kh M])
theorem cRo κ:bd (BRo κ).E 12 190 (aM Ry Dq Yt):=by
 refine aQ ?_;rintro⟨L,a,m,b⟩ K ⟨g,e,f,d⟩ k;simp only[aX] at g e f d;refine Eq.mpr (yRo κ L a m b K) ?_;rw[az (n:=(m:Int) - a) (by omega) (by omega),az (n:=(b:Int) - m) (by omega) (by omega),show(m:Int) - a=(m - a:Nat) by omega,show(b:Int) - m=(b - m:Nat) by omega];refine⟨rfl,⟨L,L,a,m,b,m - a,b - m⟩,rfl,⟨.start (Nat.le_of_lt g) (Nat.le_of_lt e) L,by simp only;omega,by simp only;omega,f,by simpa[aX] using d⟩,fun r ⟨c,h,l⟩=>?_⟩;obtain⟨i,M⟩:=r;simp only at c h l;have o:=c.sw.len;simp only;rw[az (n:=(m:Int) - i) (by omega) (by omega),show(m:Int) - i=(m - i:Nat) by omega];exact⟨⟨M,m - i,m,i⟩,rfl,⟨by simp only;omega,by simp only;omega,by simp only[aX];omega⟩,fun X j=>k X (c.done h.2 j)⟩
noncomputable def Xc κ:=(BRo κ).call (cRo _)
theorem xIj κ L(a b i j:Nat) I n K:(vc (Xc κ).E 12 166 none 1 (ad (Pr κ).toProgram 166 4) (sp 53 [(0, .ak 0 0 L.length),(1, .int a),(2, .int b),(3,pe),(8, .int i),(9, .int j)] [kh L]) (bg (Xc κ).E 166 4 1 I n K))=(
 letI c:=IntKind.wrap .i64
 letI d:=AV.int
 letI l:=K (.exit 2) (sp 53 [(0,.ak 0 0 L.length),(1,d ↑a),(2,d ↑b),(3,.bo 54 []),(8,d ↑i)] [.row
  70 (rws L)])
 letI e:=true&&decide (↑j<(↑(L.length):Int))
 letI f:=ag (nth (rws L) (0+Int.toNat ↑j))
 letI g:=↑j - (1:Int)
 letI h:=decide (0<=c g)&&decide (c g<↑(L.length))
 letI k:=c g
 letI m:=ag (nth (rws L) (0+Int.toNat k))
 aq (decide (↑j>(↑a:Int))) (aW e (aW h (aW (decide (List.length f<=9223372036854775807)) (aq (decide (bD f m<0)) (aW h (aW e (aW e
 (aW h (∃e0,e0<n/\I e0 (sp 53 [(0,.ak 0 0 L.length),(1,d ↑a),(2,d ↑b),(3,.bo 54 []),(8,d ↑i),
 (9,d k)] [.row 70 (bP (bP (rws L) (0+Int.toNat ↑j) (.ah 72 m)) (0+Int.toNat k) (.ah 72 f))])))))) l)))) l):=by kernel_rfl
structure AIj where
 L0:RL
 L:RL
 a:Nat
 b:Nat
 i:Nat
 j:Nat
abbrev Y0(x:AIj):=sp 53 [(0, .ak 0 0 x.L.length),(1, .int x.a),(2, .int x.b),(3,pe),(8, .int x.i),(9, .int x.j)] [kh x.L]
def aa6(x:AIj):=Vo x.a x.i x.j x.L0 x.L/\(x.a<=x.j/\x.j<=x.i)/\x.i<x.L0.length/\x.L0.length<=aX/\fK x.L0
def ai3(x:AIj):Out (Exit×S):= .all (fun M=>Sw x.a (x.i+1) x.L0 M/\Up M x.a (x.i+1)) fun M=> .one (.exit 2,sp 53 [(0, .ak 0 0 M.length),(1, .int x.a),(2, .int x.b),(3,pe),(8, .int x.i)] [kh M])
theorem lIj κ:aU (Xc κ).E 12 166 4 (aG 1 Y0 aa6 ai3):=by
 refine aC (fun x=>x.j) ?_;rintro⟨r,L,a,b,i,j⟩ K ⟨c,k,g,p,f⟩ l;simp only[aX] at c k g p f;rw[show(Xc κ).E.P=Pr κ from rfl];refine Eq.mpr (xIj κ L a b i j _ _ K) ?_;have t:=c.sw.len;have s:=fJ f c.sw.perm;rw[ae,at3,aC7];refine⟨fun h=>?_,fun h=>?_⟩
 ·rw[az (n:=(j:Int) - 1) (by omega) (by omega)]
  have m:(true&&decide ((j:Int)<L.length))=true:=by simp;omega
  have d:(decide (0<=(j:Int) - 1)&&decide ((j:Int) - 1<L.length))=true:=by simp;omega
  rw[show 0+(j:Int).toNat=j by omega,show 0+((j:Int) - 1).toNat=j - 1 by omega,wT,gy,gy,show(j:Int) - 1=(j - 1:Nat) by omega];rw[show(j:Int) - 1=(j - 1:Nat) by omega] at d;refine ai.2 ⟨m,ai.2 ⟨d,ai.2 ⟨aD1 (lq s j),ae.2 ⟨fun e=>?_,fun e=>?_⟩⟩⟩⟩
  ·have o:bD (rat L j) (rat L (j - 1))<0:=by simpa using e
   refine ai.2 ⟨d,ai.2 ⟨m,ai.2 ⟨m,ai.2 ⟨d,_,?_,⟨r,swp L j (j - 1),a,b,i,j - 1⟩,?_,⟨c.step (by omega) g o,by simp only;omega,g,by simpa[aX] using p,f⟩,rfl,l⟩⟩⟩⟩
   ·simp only;omega
   ·simp only[Y0,oC]
  ·have o:0<=bD (rat L j) (rat L (j - 1)):=by simpa using e
   exact l L ⟨c.sw,c.done k fun _=>o⟩
 ·exact l L ⟨c.sw,c.done k fun q=>absurd q (by omega)⟩
noncomputable def Zs κ:=(Xc κ).loop (lIj _)
theorem xIs κ L(a b i:Nat) I n K:(vc (Zs κ).E 12 166 none 1 (ad (Pr κ).toProgram 166 1) (sp 53 [(0, .ak 0 0 L.length),(1, .int a),(2, .int b),(3,pe),(8, .int i)] [kh L]) (bg (Zs κ).E 166 1 1 I n K))=(
 letI c:=AV.int
 letI d:=Pg.toProgram (Env.P (EB.E (Xc κ)))
 aq (decide (↑i<(↑b:Int))) (ad d 166 4=ad d 166 4/\∃e3,sp 53 [(0,.ak 0 0 L.length),(1,c ↑a),(2,c ↑b),
 (3,.bo 54 []),(8,c ↑i),(9,c ↑i)] [.row 70 (rws L)]=Y0 e3/\aa6 e3/\∀e2,(Sw e3.a (e3.i+1) e3.L0 e2/\∀e1 e0,e3.a<=e1->e1<e0->e0<e3.i+1->bD (rat e2 e1) (rat e2 e0)<=0)->∃e0,e0<n/\I e0 (sp 53 [(0,.ak 0 0 e2.length),(1,c
 ↑(e3.a)),(2,c ↑(e3.b)),(3,.bo 54 []),(8,c (IntKind.wrap .i64 (↑(e3.i)+1)))] [.row 70 (rws e2)]))
 (K (.exit 0) (sp 53 [] [.row 70 (rws L)]))):=by kernel_rfl
structure AIs where
 L0:RL
 L:RL
 a:Nat
 b:Nat
 i:Nat
abbrev Wi(x:AIs):=sp 53 [(0, .ak 0 0 x.L.length),(1, .int x.a),(2, .int x.b),(3,pe),(8, .int x.i)] [kh x.L]
def aa7(x:AIs):=Sw x.a x.b x.L0 x.L/\Up x.L x.a x.i/\(x.a<x.i/\(x.i<=x.b\/x.b<=x.a))/\x.b<=x.L0.length/\x.L0.length<=aX/\fK x.L0
def ai5(x:AIs):Out (Exit×S):= .all (fun M=>Sw x.a x.b x.L0 M/\Up M x.a x.b) fun M=> .one (.exit 0,sp 53 [] [kh M])
theorem lIs κ:aU (Zs κ).E 12 166 1 (aG 1 Wi aa7 ai5):=by
 refine aC (fun x=>x.b - x.i) ?_;rintro⟨m,L,a,b,i⟩ K ⟨c,f,l,e,g,d⟩ j;simp only[aX] at c f l e g d;refine Eq.mpr (xIs κ L a b i _ _ K) ?_;have q:=c.len;rw[ae,at3,aC7];refine⟨fun h=>?_,fun h=>?_⟩
 ·refine⟨rfl,⟨L,L,a,b,i,i⟩,rfl,⟨.start f,by simp only;omega,by simp only;omega,by simp only[aX];omega,fJ d c.perm⟩,fun M o=>?_⟩
  obtain⟨p,k⟩:Sw a (i+1) L M/\Up M a (i+1):=o;rw[az (n:=(i:Int)+1) (by omega) (by omega)];refine⟨_,?_,⟨m,M,a,b,i+1⟩,rfl,⟨c.trans (p.mono (Nat.le_refl _) (by omega) (by omega)),k,by simp only;omega,e,by simpa[aX] using g,d⟩,rfl,j⟩;simp only;omega
 ·refine j L ⟨c,?_⟩
  grind [Up.one]
noncomputable def BIs κ:=(Zs κ).loop (lIs _)
theorem yIs κ L(a b:Nat) K:(a8 (BIs κ).E 12 166 [.ak 0 0 L.length, .int a, .int b,pe] [kh L] K)=(
 letI c:=Pg.toProgram (Env.P (EB.E (Zs κ)))
 ad c 166 1=ad c 166 1/\∃e3,sp 53 [(0,.ak 0 0 L.length),(1,AV.int ↑a),(2,AV.int ↑b),(3,.bo 54 []),(8,AV.int
 (IntKind.wrap .i64 (↑a+1)))] [.row 70 (rws L)]=Wi e3/\aa7 e3/\∀e2,(Sw e3.a e3.b e3.L0 e2/\∀e1 e0,e3.a<=e1->
 e1<e0->e0<e3.b->bD (rat e2 e1) (rat e2 e0)<=0)->K (.aH []) [.row 70 (rws e2)]):=by kernel_rfl
structure ZQ where
 L:RL
 a:Nat
 b:Nat
def Y1(x:ZQ):=([.ak 0 0 x.L.length, .int x.a, .int x.b,pe],[kh x.L])
def Ig(x:ZQ):=x.a<=x.b/\x.b<=x.L.length/\x.L.length<=100000000/\fK x.L
def ai4(x:ZQ):Out (AV×List Dn.Obj):= .all (fun M=>Sw x.a x.b x.L M/\Up M x.a x.b) fun M=> .one (.aH [],[kh M])
theorem cIr κ:bd (BIs κ).E 12 166 (aM Y1 Ig ai4):=by
 refine aQ ?_;rintro⟨L,a,b⟩ K ⟨e,c,f,d⟩ g;simp only at e c f d;refine Eq.mpr (yIs κ L a b K) ?_;rw[az  (by omega) (by omega)];exact⟨rfl,⟨L,L,a,b,a+1⟩,rfl,⟨.refl,Up.one L (Nat.le_refl _),by grind,c,by grind [aX],d⟩,g⟩
noncomputable def kz κ:=(BIs κ).call (cIr _)
end Go.Proofs.YtioeffnadipbaaaGreatDoor
