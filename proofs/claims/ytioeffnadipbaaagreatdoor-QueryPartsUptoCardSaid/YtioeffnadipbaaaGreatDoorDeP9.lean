import Derived.Test.YtioeffnadipbaaaGreatDoorDnA
import Derived.Sort.Walk0
import Derived.Test.YtioeffnadipbaaaGreatDoorDeP8
import Derived.Test.YtioeffnadipbaaaGreatDoorDoM
namespace Go.Rl
open Go Go.Dn
structure uZ{α:Type}(c:α->α->Int):Prop where
 swap: ∀a b,c b a= - c a b
 trans: ∀a b d,c a b<=0->c b d<=0->c a d<=0
theorem uZ.self{α c}(h:uZ c)(a:α):c a a=0:=by
 have:=h.swap a a;omega
theorem uZ.Jw{α c}(h:uZ c){a b d:α}(i:c a b<0)(f:c b d<=0):c a d<0:=by
 rcases Int.lt_or_le _ 0 with g|g
 ·omega
 ·have e:=h.trans b d a f (by rw[h.swap a d];omega)
  rw[h.swap a b] at e;omega
theorem uZ.ah7{α c}(h:uZ c){a b d:α}(f:c a b<=0)(i:c b d<0):c a d<0:=by
 rcases Int.lt_or_le _ 0 with g|g
 ·omega
 ·have e:=h.trans d a b (by rw[h.swap a d];omega) f
  rw[h.swap b d] at e;omega
def qT{α:Type}(c:α->α->Int):List α->List α->Int
 |[],[]=>0
 |[],_::_=> -1
 |_::_,[]=>1
 |a::l,b::m=>bif decide (c a b=0) then qT c l m else c a b
theorem Jr{α}{c:α->α->Int}(h:uZ c):uZ (qT c):=by
 refine⟨?_,?_⟩
 ·intro a
  induction a with
  |nil=>intro b;cases b<;>simp[qT]
  | cons a l j=>
   intro b;cases b with
   |nil=>simp[qT]
   |cons b m=>
    simp only[qT];have:=h.swap a b
    by_cases e:c a b=0
    ·rw[an8 e,an8 (by omega)];exact j m
    ·rw[an6 e,an6 (by omega)];exact this
 ·intro a
  induction a with
  |nil=>intro b d _ _;cases d<;>simp[qT]
  | cons a l j=>
   intro b d g f;cases b with
   |nil=>simp[qT] at g
   | cons b m=>
    cases d with
    |nil=>simp[qT] at f
    | cons d n=>
     simp only[qT] at g f⊢;by_cases o:c a b=0
     ·rw[an8 o,an9] at g
      by_cases i:c b d=0
      ·rw[an8 i,an9] at f
       have q:c a d=0:=by
        have k:=h.trans a b d (by omega) (by omega);have p:=h.trans d b a (by rw[h.swap b d];omega) (by rw[h.swap a b];omega);rw[h.swap a d] at p;omega
       rw[an8 q];exact j m n g f
      ·rw[an6 i,an7] at f
       have:=h.ah7 (a:=a) (b:=b) (d:=d) (by omega) (by omega)
       rw[an6 (by omega)];simp only[an7];omega
     ·rw[an6 o,an7] at g
      have k:c b d<=0:=by
       by_cases i:c b d=0
       ·omega
       ·rwa [an6 i,an7] at f
      have:=h.Jw (a:=a) (b:=b) (d:=d) (by omega) k
      rw[an6 (by omega)];simp only[an7];omega
def yA(a b:Int):=bif decide (a<b) then -1 else bif decide (b<a) then 1 else 0
def Bh(a b:ByteArray):=bif Op.bytesLess a.toList b.toList then -1 else bif Op.bytesLess b.toList a.toList then 1 else 0
theorem zu:uZ yA:=by
 refine⟨fun a b=>?_,fun a b d=>?_⟩<;>unfold yA<;>simp[Bool.cond_decide]<;>omega
theorem JL{a b}:yA a b=0↔a=b:=by
 grind [yA]
theorem toList_inj{a b:ByteArray}:a.toList=b.toList↔a=b:=by
 grind [ByteArray.toList_eq,ByteArray.ext,Array.toList_inj]
theorem xn a b:Bh a b=if a.toList<b.toList then -1 else if b.toList<a.toList then 1 else 0:=by
 simp_all[Bh,Go.Proofs.bytesLess_eq,Bool.cond_decide]
theorem zw:uZ Bh:=by
 refine⟨fun a b=>?_,fun a b d=>?_⟩
 ·grind [xn]
 grind [xn]
theorem JM{a b}:Bh a b=0↔a=b:=by
 grind [xn,toList_inj]
def oF a b:=
 bif toBool (af a 0)&&toBool (af b 0) then Bh (toStr (af a 2)) (toStr (af b 2)) else bif toBool (af a 0) then 1 else bif toBool (af b 0) then -1 else yA (toInt (af a 1)) (toInt (af b 1))
theorem IZ:uZ oF:=by
 refine⟨fun a b=>?_,fun a b d=>?_⟩<;>unfold oF
 ·cases toBool (af a 0)<;>cases toBool _<;>simp[zw.swap (toStr (af a 2)),zu.swap (toInt (af a 1))]
 ·cases toBool _<;>cases toBool (af b 0)<;>cases toBool (af d 0)<;>simp
  ·exact zu.trans _ _ _
  ·exact zw.trans _ _ _
def bC:=qT oF
theorem cf:uZ bC:=Jr IZ
abbrev RL:=List (List AV)
def rat(L:RL) i:=L.getD i []
def swp(L:RL)(i j:Nat):RL:=(L.set i (rat L j)).set j (rat L i)
theorem yO{L i} h:rat L i=L[i]:=by grind [rat]
theorem Hv L i k x(h:i<L.length):rat (L.set i x) k=if i=k then x else rat L k:=by
 grind [rat]
theorem nS L i j:(swp L i j).length=L.length:=by simp[swp]
theorem uf{L i j}(b:i<L.length)(a:j<L.length) k:rat (swp L i j) k=if j=k then rat L i else if i=k then rat L j else rat L k:=by
 grind [swp,Hv]
theorem OD{L i j}(a:i<L.length)(b:j<L.length):(swp L i j).Perm L:=by
 grind [swp,yO,List.set_set_perm]
inductive Sw (a b:Nat) (L:RL):RL->Prop
 |refl:Sw a b L L
 |swap {M:RL} (h:Sw a b L M) (i j:Nat) (hi:a<=i/\i<b) (hj:a<=j/\j<b) (hb:b<=M.length):Sw a b L (swp M i j)
theorem Sw.len{a b L M}(h:Sw a b L M):M.length=L.length:=by
 induction h<;>grind [nS]
theorem Sw.perm{a b L M}(h:Sw a b L M):M.Perm L:=by
 induction h with
 |refl=>rfl
 |swap h i j d e f c=>exact(OD (by omega) (by omega)).trans c
theorem Sw.out{a b L M}(h:Sw a b L M){k}(d:k<a\/b<=k):rat M k=rat L k:=by
 induction h with
 |refl=>rfl
 |swap h i j e f g c=>rw[uf (by omega) (by omega),if_neg (by omega),if_neg (by omega),c]
theorem Sw.inn{a b L M}(h:Sw a b L M): ∀k,a<=k->k<b->∃x,(a<=x/\x<b)/\rat M k=rat L x:=by
 induction h with
 |refl=>exact fun k c d=>⟨k,⟨c,d⟩,rfl⟩
 |swap h i j f g l e=>
  grind [uf]
theorem Sw.trans{a b L M N}(h:Sw a b L M)(k:Sw a b M N):Sw a b L N:=by
 induction k with
 |refl=>omega
 |swap _ i j d e f c=>exact c.swap i j d e f
theorem Sw.mono{a b d c L M}(h:Sw a b L M)(g:d<=a)(k:b<=c)(n:c<=L.length):Sw d c L M:=by
 induction h with
 |refl=>exact .refl
 |swap h i j l m f e=>exact e.swap i j (by omega) (by omega) (by rw[h.len];omega)
def Up L a b:=∀i j,a<=i->i<j->j<b->bC (rat L i) (rat L j)<=0
theorem Up.le{L a b}(h:Up L a b){i j}(d:a<=i)(f:i<=j)(c:j<b):bC (rat L i) (rat L j)<=0:=by
 rcases Nat.lt_or_ge i j with e|e
 ·exact h i j d e c
 ·obtain rfl:i=j:=by omega
  rw[cf.self];simp
theorem Up.same{L M a b}(h:Up L a b)(e: ∀k,a<=k->k<b->rat M k=rat L k):Up M a b:=fun i j d f c=>by
 rw[e i (by omega) (by omega),e j (by omega) c];exact h i j d f c
theorem Up.one L{a b}(h:b<=a+1):Up L a b:=fun i j d e c=>by omega
structure KF(a m b:Nat)(L M:RL):Prop where
 sw:Sw a b L M
 lo: ∀k,a<=k->k<a+(b - m)->rat M k=rat L (k+(m - a))
 hi: ∀k,a+(b - m)<=k->k<b->rat M k=rat L (k - (b - m))
structure Cut(a m b s e:Nat)(L:RL):Prop where
 h1:a<s->e<b->bC (rat L (s - 1)) (rat L e)<=0
 h2:s<m->m<e->bC (rat L (e - 1)) (rat L s)<=0
theorem CT{a m b s e h L M N}(E:a<=s/\s<=m/\m<=e/\e<=b)(F:s+(e - m)=h)(l:Up L a m)(g:Up L m b)(z:Cut a m b s e L)
  (n:KF s m e L M) (t:Sw a h M N):(∀k,a<=k->k<h->∀j,h<=j->j<b->bC (rat N k) (rat M j)<=0)/\Up M a s/\Up M s h/\Up M h e/\Up M e b:=by
 have lo: ∀k,a<=k->k<s->rat M k=rat L k:=fun k c d=>n.sw.out (.inl d)
 have r: ∀k,e<=k->rat M k=rat L k:=fun k c=>n.sw.out (.inr c)
 have u: ∀k,s<=k->k<h->rat M k=rat L (k+(m - s)):=fun k c d=>n.lo k c (by omega)
 have o: ∀k,h<=k->k<e->rat M k=rat L (k - (e - m)):=fun k c d=>n.hi k (by omega) d
 refine⟨fun k B C j y w=>?_,(Up.same (fun i j c d f=>l i j c d (by omega)) lo),fun i j c d f=>?_,fun i j c d f=>?_,(Up.same (fun i j c d f=>g i j (by omega) d f) (fun k c _=>r k c))⟩
 ·obtain⟨x,⟨v,D⟩,A⟩:=t.inn k B C
  rw[A];rcases Nat.lt_or_ge x s with p|p
  ·rw[lo x v p]
   rcases Nat.lt_or_ge j e with q|q
   ·rw[o j y q];exact l.le v (by omega) (by omega)
   ·rw[r j q]
    exact cf.trans _ _ _ (l.le v (show x<=s - 1 by omega) (by omega)) (cf.trans _ _ _ (z.h1 (by omega) (by omega)) (g.le (by omega) q w))
  ·rw[u x p D]
   rcases Nat.lt_or_ge j e with q|q
   ·rw[o j y q]
    exact cf.trans _ _ _ (g.le (by omega) (show x+(m - s)<=e - 1 by omega) (by omega)) (cf.trans _ _ _ (z.h2 (by omega) (by omega)) (l.le (by omega) (by omega) (by omega)))
   ·rw[r j q];exact g.le (by omega) (by omega) w
 ·rw[u i c (by omega),u j (by omega) f];exact g _ _ (by omega) (by omega) (by omega)
 ·rw[o i c (by omega),o j (by omega) f];exact l _ _ (by omega) (by omega) (by omega)
theorem Rr{a h b M N O}(r: ∀k,a<=k->k<h->∀j,h<=j->j<b->bC (rat N k) (rat M j)<=0)(o:Sw a h M N)(m:Up N a h)(c:Sw h b N O)(f:Up O h b):Up O a b:=by
 intro i j g e d;rcases Nat.lt_or_ge j h with q|q
 ·rw[c.out (by grind),c.out (.inl q)];exact m i j g e q
 ·rcases Nat.lt_or_ge i h with p|p
  ·obtain⟨x,⟨l,s⟩,n⟩:=c.inn j q d
   rw[c.out (.inl p),n,o.out (.inr l)]
   grind
  ·exact f i j p e d
structure RE(a i j:Nat)(L M:RL):Prop where
 sw:Sw a (i+1) L M
 up: ∀x y,a<=x->x<y->y<=i->x≠j->y≠j->bC (rat M x) (rat M y)<=0
 be: ∀y,j<y->y<=i->bC (rat M j) (rat M y)<=0
theorem RE.start{a i L}(u:Up L a i):RE a i i L L:=⟨.refl,fun x y c b e f d=>u x y c b (by omega),by grind⟩
theorem RE.step{a i j L M}(h:RE a i j L M)(p:a<j/\j<=i)(n:i<L.length)(q:bC (rat M j) (rat M (j - 1))<0):RE a i (j - 1) L (swp M j (j - 1)):=by
 have o:=h.sw.len;have e: ∀k,rat (swp M j (j - 1)) k=if j - 1=k then rat M j else if j=k then rat M (j - 1) else rat M k:=fun k=>uf (by omega) (by omega) k
 refine⟨h.sw.swap j (j - 1) ⟨by omega,by omega⟩ ⟨by omega,by omega⟩ (by omega),fun x y d c f l m=>?_,fun y d c=>?_⟩
 ·rw[e,e,if_neg (Ne.symm l),if_neg (Ne.symm m)]
  by_cases g:j=x
  ·subst g
   rw[if_pos rfl,if_neg (by omega)];exact h.up _ _ (by omega) (by omega) f (by omega) (by omega)
  ·rw[if_neg g]
   by_cases b:j=y
   ·subst b
    rw[if_pos rfl];exact h.up _ _ d (by omega) (by omega) (by omega) (by omega)
   ·rw[if_neg b]
    exact h.up _ _ d c f (by omega) (by omega)
 ·rw[e,e,if_pos rfl,if_neg (by omega)]
  by_cases b:j=y
  ·subst b;rw[if_pos rfl];omega
  ·rw[if_neg b];exact h.be y (by omega) c
theorem RE.done{a i j L M}(h:RE a i j L M)(l:a<=j/\j<=i)(k:a<j->0<=bC (rat M j) (rat M (j - 1))):Up M a (i+1):=by
 intro x y f d m;by_cases c:y=j
 ·subst c
  have g:bC (rat M (y - 1)) (rat M y)<=0:=by
   rw[cf.swap (rat M y)];omega
  by_cases e:x=y - 1
  ·rw[e];exact g
  ·exact cf.trans _ _ _ (h.up x (y - 1) f (by omega) (by omega) (by omega) (by omega)) g
 ·by_cases b:x=j
  ·subst b;exact h.be y d (by omega)
  ·exact h.up x y f d (by omega) b c
structure Fw(a b k:Nat)(L M:RL):Prop where
 sw:Sw a b L M
 me:rat M k=rat L a
 lo: ∀x,a<=x->x<k->rat M x=rat L (x+1)
 hi: ∀x,k<x->rat M x=rat L x
theorem Fw.start a b L:Fw a b a L L:=⟨.refl,rfl,by omega,by simp⟩
theorem Fw.step{a b k L M}(h:Fw a b k L M)(f:a<=k/\k+1<b)(i:b<=L.length):Fw a b (k+1) L (swp M k (k+1)):=by
 have g:=h.sw.len;have e: ∀x,rat (swp M k (k+1)) x=if k+1=x then rat M k else if k=x then rat M (k+1) else rat M x:=fun x=>uf (by omega) (by omega) x
 refine⟨h.sw.swap k (k+1) ⟨by omega,by omega⟩ ⟨by omega,by omega⟩ (by omega),by rw[e,if_pos rfl,h.me],fun x c j=>?_,fun x c=>?_⟩
 ·rw[e,if_neg (by omega)]
  by_cases d:k=x
  ·subst d;rw[if_pos rfl,h.hi _ (by omega)]
  ·rw[if_neg d,h.lo x c (by omega)]
 ·rw[e,if_neg (by omega),if_neg (by omega),h.hi x (by omega)]
theorem Fw.done{a b i L M}(h:Fw a b (i - 1) L M)(j:a+1<=i/\i<=b)(u:Up L (a+1) b)(e:a+1<i->bC (rat L (i - 1)) (rat L a)<=0)(d:i<b->bC (rat L a) (rat L i)<=0):Up M a b:=by
 intro x y f g c;rcases Nat.lt_trichotomy x (i - 1) with p|p|p
 ·rw[h.lo x f p]
  rcases Nat.lt_trichotomy y (i - 1) with q|q|q
  ·rw[h.lo y (by omega) q];exact u _ _ (by omega) (by omega) (by omega)
  ·rw[q,h.me];exact cf.trans _ _ _ (u.le (by omega) (show x+1<=i - 1 by omega) (by omega)) (e (by omega))
  ·rw[h.hi y q];exact u.le (by omega) (by omega) c
 ·subst p
  rw[h.me,h.hi y (by omega)];exact cf.trans _ _ _ (d (by omega)) (u.le (by omega) (by omega) c)
 ·rw[h.hi x p,h.hi y (by omega)];exact u x y (by omega) g c
structure Bw(a m k:Nat)(L M:RL):Prop where
 sw:Sw a (m+1) L M
 me:rat M k=rat L m
 hi: ∀x,k<x->x<=m->rat M x=rat L (x - 1)
 lo: ∀x,x<k->rat M x=rat L x
theorem Bw.start a m L:Bw a m m L L:=⟨.refl,rfl,by omega,by simp⟩
theorem Bw.step{a m k L M}(h:Bw a m k L M)(f:a<k/\k<=m)(g:m<L.length):Bw a m (k - 1) L (swp M k (k - 1)):=by
 have i:=h.sw.len;have e: ∀x,rat _ x=if k - 1=x then rat M k else if k=x then rat M (k - 1) else rat M x:=fun x=>uf (by omega) (by omega) x
 refine⟨h.sw.swap k (k - 1) ⟨by omega,by omega⟩ ⟨by omega,by omega⟩ (by omega),by rw[e,if_pos rfl,h.me],fun x c d=>?_,fun x c=>?_⟩
 ·rw[e,if_neg (by omega)]
  by_cases b:k=x
  ·subst b;rw[if_pos rfl,h.lo _ (by omega)]
  ·rw[if_neg b,h.hi x (by omega) d]
 ·rw[e,if_neg (by omega),if_neg (by omega),h.lo x (by omega)]
theorem Bw.done{a m i L M}(h:Bw a m i L M)(g:a<=i/\i<=m)(u:Up L a m)(e:a<i->bC (rat L (i - 1)) (rat L m)<=0)(d:i<m->bC (rat L m) (rat L i)<=0):Up M a (m+1):=by
 intro x y b c f;rcases Nat.lt_trichotomy y i with p|p|p
 ·rw[h.lo x (by omega),h.lo y p];exact u x y b c (by omega)
 ·subst p
  rw[h.lo x c,h.me];exact cf.trans _ _ _ (u.le b (show x<=y - 1 by omega) (by omega)) (e (by omega))
 ·rw[h.hi y p (by omega)]
  rcases Nat.lt_trichotomy x i with q|q|q
  ·rw[h.lo x q];exact u.le b (by omega) (by omega)
  ·subst q;rw[h.me];exact cf.trans _ _ _ (d (by omega)) (u.le b (by omega) (by omega))
  ·rw[h.hi x q (by omega)];exact u _ _ (by omega) (by omega) (by omega)
structure Xr(p q k lo hi:Nat)(L M:RL):Prop where
 sw:Sw lo hi L M
 a: ∀x,p<=x->x<p+k->rat M x=rat L (x+(q - p))
 b: ∀x,q<=x->x<q+k->rat M x=rat L (x - (q - p))
 c: ∀x,¬ (p<=x/\x<p+k)-> ¬ (q<=x/\x<q+k)->rat M x=rat L x
theorem Xr.start p q lo a L:Xr p q 0 lo a L L:=⟨.refl,by omega,by grind,by simp⟩
theorem Xr.step{p q k n lo f L M}(h:Xr p q k lo f L M)(j:k<n)(r:lo<=p)(s:p+n<=q)(l:q+n<=f)(m:f<=L.length):Xr p q (k+1) lo f L (swp M (p+k) (q+k)):=by
 have o:=h.sw.len;have e: ∀x,rat (swp M (p+k) (q+k)) x=if q+k=x then rat M (p+k) else if p+k=x then rat M (q+k) else rat M x:=fun x=>uf (by omega) (by omega) x
 refine⟨h.sw.swap _ _ ⟨by omega,by omega⟩ ⟨by omega,by omega⟩ (by omega),fun x g i=>?_,fun x g i=>?_,fun x g i=>?_⟩
 ·rw[e,if_neg (by omega)]
  by_cases d:p+k=x
  ·rw[if_pos d,h.c (q+k) (by omega) (by omega)];congr 1;omega
  ·rw[if_neg d,h.a x g (by omega)]
 ·rw[e]
  by_cases d:q+k=x
  ·rw[if_pos d,h.c (p+k) (by omega) (by omega)];congr 1;omega
  ·rw[if_neg d,if_neg (by omega),h.b x g (by omega)]
 ·rw[e,if_neg (by omega),if_neg (by omega),h.c x (by omega) (by omega)]
theorem Xr.mono{p q k lo f e d L M}(h:Xr p q k lo f L M)(i:e<=lo)(j:f<=d)(g:d<=L.length):Xr p q k e d L M:=⟨h.sw.mono i j g,h.a,h.b,h.c⟩
structure IH(a m b i j:Nat)(L M:RL):Prop where
 sw:Sw a b L M
 go: ∀X,KF (m - i) m (m+j) M X->KF a m b L X
theorem IH.start{a m b}(c:a<=m)(d:m<=b) L:IH a m b (m - a) (b - m) L L:=⟨.refl,by grind⟩
theorem IH.down{a m b i j L M N}(h:IH a m b i j L M)(o:a<=m - i/\i<=m)(n:m+j<=b)(p:b<=L.length)(l:j<i)(d:Xr (m - i) m j (m - i) (m+j) M N):IH a m b (i - j) j L N:=by
 have r:=h.sw.len;refine⟨h.sw.trans (d.sw.mono (by omega) n (by omega)),fun X e=>h.go X ⟨d.sw.trans (e.sw.mono (by omega) (Nat.le_refl _) (by rw[d.sw.len];omega)),fun k f g=>?_,fun k f g=>?_⟩⟩
 ·rw[e.sw.out (.inl (by omega)),d.a k f (by omega)]
 ·rcases Nat.lt_or_ge k (m - (i - j)+j) with q|q
  ·rw[e.lo k (by omega) (by omega),d.b _ (by omega) (by omega)];congr 1;omega
  ·rw[e.hi k (by omega) g,d.c _ (by omega) (by omega)]
theorem IH.up{a m b i j L M N}(h:IH a m b i j L M)(o:a<=m - i/\i<=m)(f:m+j<=b)(s:b<=L.length)(l:i<j)(d:Xr (m - i) (m+j - i) i (m - i) (m+j) M N):IH a m b i (j - i) L N:=by
 have p:=h.sw.len;refine⟨h.sw.trans (d.sw.mono (by omega) f (by omega)),fun X e=>h.go X ⟨d.sw.trans (e.sw.mono (by omega) (by omega) (by rw[d.sw.len];omega)),fun k g n=>?_,fun k g n=>?_⟩⟩
 ·rcases Nat.lt_or_ge k (m - i+(j - i)) with q|q
  ·rw[e.lo k (by omega) (by omega),d.c _ (by omega) (by omega)]
  ·rcases Nat.lt_or_ge k (m+(j - i)) with r|r
   ·rw[e.hi k (by omega) r,d.a _ (by omega) (by omega)];congr 1;omega
   ·omega
 ·rcases Nat.lt_or_ge k (m+(j - i)) with r|r
  ·omega
  ·rw[e.sw.out (.inr (by omega)),d.b k (by omega) (by omega)];congr 1;omega
theorem IH.done{a m b i L M X}(h:IH a m b i i L M)(f:i<=m)(c:Xr (m - i) m i (m - i) (m+i) M X):KF a m b L X:=
 h.go X ⟨c.sw,fun k d e=>by rw[c.a k d (by omega)],fun k d e=>by rw[c.b k (by omega) (by omega)];grind⟩
theorem Sw.upr{a b c d L M}(h:Sw a b L M)(u:Up L c d)(hd:b<=c):Up M c d:=u.same fun _ e _=>h.out (by grind)
theorem Sw.upl{a b c d L M}(h:Sw a b L M)(u:Up L c d)(hd:d<=a):Up M c d:=u.same fun _ _ e=>h.out (by grind)
theorem Up.cut{L a b c}(h:Up L a b)(f:c<=b):Up L a c:=fun i j d e g=>h i j d e (by omega)
structure Sr(a b:Nat)(L M:RL):Prop where
 sw:Sw a b L M
 up:Up M a b
theorem KF.none{a m b L}(h:m=a\/b=m):KF a m b L L:=⟨.refl,by grind,by grind⟩
end Go.Rl
namespace Go.Proofs.YtioeffnadipbaaaGreatDoor
open Go Go.Dn Go.Rl Go.Proofs
def SS.all(s:SS):List Int:=s.dU++s.cx++s.cy
structure SS.IG(s:SS):Prop where
 c:s.dU.length=s.cn.length
 b:s.cx.length=s.binds.length
 e:s.cy.length=s.eqs.length
theorem IJ{bd:List AV}{s:SS}(h:s.IG)(e:Int×AT):(my bd s e).IG:=by
 obtain⟨h1,h2,h3⟩:=h;unfold my;cases !qP bd e.2 with
 |true=>exact⟨by simp[h1],h2,h3⟩
 |false=>cases mu e.2.s (strs s.binds) with
  |true=>exact⟨h1,h2,by simp[h3]⟩
  |false=>exact⟨h1,by simp[h2],h3⟩
theorem Ln(bd:List AV)(s:SS)(e:Int×AT):(my bd s e).all.Perm (s.all++[e.1]):=by
 unfold my SS.all;cases !qP bd e.2 with
 |true=>
  simp only[an9,List.append_assoc];exact List.Perm.append_left _ (List.perm_append_comm.trans (by simp))
 | false=>cases mu e.2.s (strs s.binds) with
  |true=>simp only[an9,an7,List.append_assoc];exact List.Perm.refl _
  |false=>
   simp only[an7,List.append_assoc];exact List.Perm.append_left _ (List.Perm.append_left _ List.perm_append_comm)
theorem HW{bd:List AV}: ∀(l:List (Int×AT)) {s:SS},s.IG->(l.foldl (my bd) s).IG
 |[],_,h=>h
 |e::l,s,h=>HW l (IJ h e)
theorem Ge(bd:List AV): ∀(l:List (Int×AT)) (s:SS),(l.foldl (my bd) s).all.Perm (s.all++l.map (·.1))
 |[],s=>by simp
 |e::l,s=>by
  rw[List.foldl_cons];refine(Ge bd l _).trans (((Ln bd s e).append_right _).trans ?_);simp
theorem Cr: ∀(l:List AV) (i:Int),((dn l i).map (·.1)).Nodup/\∀x,x∈(dn l i).map (·.1)->i<=x/\x<i+l.length
 |[],i=>⟨List.nodup_nil,fun x h=>nomatch h⟩
 | t::l,i=>by
  obtain⟨h1,h2⟩:=Cr l (i+1);rw[dn];cases decide (toInt (af t 0)=4) with
  |true=>
   rw[an9];exact⟨h1,fun x hx=>by have:=h2 x hx;simp only[List.length_cons];omega⟩
  | false=>
   rw[an7,ao9];refine⟨List.nodup_cons.2 ⟨fun h=>?_,h1⟩,fun x hx=>?_⟩
   ·have:=h2 _ h;simp only at this;omega
   ·rcases List.mem_cons.1 hx with rfl|hx
    ·simp only[List.length_cons];omega
    ·have:=h2 x hx;simp only[List.length_cons];omega
theorem QW(bd l:List AV):(fW bd (dn l 0)).IG/\(fW bd (dn l 0)).all.Nodup/\∀x,x∈(fW bd (dn l 0)).all->0<=x/\x<l.length:=by
 have h:=Ge bd (dn l 0) Kk;obtain⟨h1,h2⟩:=Cr l 0;have h3:(fW bd (dn l 0)).all.Perm ((dn l 0).map (·.1)):=h;refine⟨HW _ ⟨rfl,rfl,rfl⟩,h3.nodup_iff.2 h1,fun x hx=>?_⟩;have:=h2 x (h3.mem_iff.1 hx)
 omega
def EB.L2(b:EB)(l:List Nat):EB:=⟨{b.E with quiet:=fun f=>ic f l||b.E.quiet f},⟨b.ok.prog,b.ok.fN,b.ok.call,b.ok.lB,b.ok.loop⟩,⟨b.mono.call,b.mono.loop,b.mono.lB⟩⟩
def EB.inline(b:EB)(l:List Nat):EB:=⟨{b.E with inl:=fun f=>ic f l||b.E.inl f},⟨b.ok.prog,b.ok.fN,b.ok.call,b.ok.lB,b.ok.loop⟩,⟨b.mono.call,b.mono.loop,b.mono.lB⟩⟩
def EB.owns(b:EB)(l:List Nat):EB:=⟨{b.E with own:=fun f=>ic f l||b.E.own f},⟨b.ok.prog,b.ok.fN,b.ok.call,b.ok.lB,b.ok.loop⟩,⟨b.mono.call,b.mono.loop,b.mono.lB⟩⟩
noncomputable def Vo κ:=EB.owns (EB.inline (EB.L2 (BQo κ) [150,149,101,100,54])
 [54,81,57,39])
 [199,190,166,167,128,79,80]
end Go.Proofs.YtioeffnadipbaaaGreatDoor
namespace Go.Proofs.YtioeffnadipbaaaGreatDoor
open Go Go.Dn Go.Rl Go.Proofs
attribute [local irreducible] a8 vc
set_option maxRecDepth 20000
structure fI where
 y:Bool
 n:Int
 s:ByteArray
abbrev gz(v:fI):AV:= .agg [.bool v.y, .int v.n, .lit (.string v.s)]
def uv(x:AV):fI:=⟨toBool (af x 0),toInt (af x 1),toStr (af x 2)⟩
theorem yOi κ a b K:(a8 (Vo κ).E 12 150 [.int a, .int b] [] K)=(
 an (decide (a<b)) (K (AV.int (-1)) []) (an (decide (a>b)) (K (AV.int 1) []) (K (AV.int 0) []))):=by kernel_rfl
def gOi:List AV->Option (Bool×AV)
 |[.lit (.int .i64 a), .lit (.int .i64 b)]=>some (true, .int (yA a b))
 |_=>none
def gOs:List AV->Option (Bool×AV)
 |[.lit (.string a), .lit (.string b)]=>some (true, .int (Bh a b))
 |_=>none
theorem pOi κ:cg (Vo κ).E 12 150 gOi:=by
 intro d x c;unfold gOi at c;split at c
 ·rename_i a b
  simp[an5,ao1,true_and] at c;subst c;refine⟨_,rfl,rfl,Eq.mpr (yOi κ a b _) ?_⟩
  grind [yA,ag]
 grind
noncomputable def BOi κ:=(Vo κ).pure (pOi _)
theorem yOs κ a b K:(a8 (BOi κ).E 12 149 [.lit (.string a), .lit (.string b)] [] K)=(
 an (Op.bytesLess (ByteArray.toList a) (ByteArray.toList b)) (K (AV.int (-1)) []) (an (!(Op.bytesLess (ByteArray.toList a) (ByteArray.toList b)||
 ByteArray.toList a==ByteArray.toList b)) (K (AV.int 1) []) (K (AV.int 0) []))):=by kernel_rfl
theorem Qx{a b:ByteArray}(h:Op.bytesLess a.toList b.toList=false):Op.bytesLess b.toList a.toList= !a.toList==b.toList:=by
 grind [Go.Proofs.bytesLess_eq]
theorem pOs κ:cg (BOi κ).E 12 149 gOs:=by
 intro d x c;unfold gOs at c;split at c
 ·rename_i a b
  simp only[an5,ao1,true_and] at c;subst c;refine⟨_,rfl,rfl,Eq.mpr (yOs κ a b _) ?_⟩;unfold Bh;refine ag.2 ⟨by grind,fun h=>?_⟩;rw[h,Qx h]
  grind [ag]
 ·cases c
noncomputable def S9 κ:=(BOi κ).pure (pOs _)
theorem yVa κ a b K:(a8 (S9 κ).E 12 101 [gz a,gz b] [] K)=(
 letI c:=an a.y (K (AV.int 1) []) (an b.y (K (AV.int (-1)) []) (K (AV.int (yA a.n b.n)) []))
 an a.y (an b.y (K (AV.int (Bh a.s b.s)) []) c) c):=by kernel_rfl
theorem Iu a b K(d:K (.int (oF (gz a) (gz b))) []) κ:a8 (S9 κ).E 12 101 [gz a,gz b] [] K:=by
 refine Eq.mpr (yVa _ a b K) ?_;obtain⟨c,h,g⟩:=a;obtain⟨e,i,f⟩:=b;cases c<;>cases e<;>exact d
def gVa:List AV->Option (Bool×AV)
 |[.agg [.lit (.bool y), .lit (.int .i64 n), .lit (.string s)], .agg [.lit (.bool b), .lit (.int .i64 a), .lit (.string s')]]=>some (true, .int (oF (.agg [.bool y, .int n, .lit (.string s)]) (.agg [.bool b, .int a, .lit (.string s')])))
 |_=>none
theorem pVa κ:cg (S9 κ).E 12 101 gVa:=by
 intro b x a;unfold gVa at a;split at a
 ·simp[an5,ao1,true_and] at a
  subst a;exact⟨_,rfl,rfl,Iu ⟨_,_,_⟩ ⟨_,_,_⟩ _ rfl κ⟩
 grind
def Ze(x:fI×fI):List AV×List Dn.Obj:=([gz x.1,gz x.2],[])
def Yg(x:fI×fI):Out (AV×List Dn.Obj):= .one (.int (oF (gz x.1) (gz x.2)),[])
theorem cVa κ:bq (S9 κ).E 12 101 (aX Ze (fun _=>True) Yg):=by
 refine a7 ?_;rintro⟨a,b⟩ K _ c;exact Iu a b K c _
noncomputable def BVc κ:=(S9 κ).call (cVa _)
theorem Yv κ:fG (Pr κ) 101 gVa:=lq (S9 _).ok (S9 _).mono (pVa _)
noncomputable def Tn κ:=(BVc κ).Bt (Yv _)
theorem xCf κ l m(i:Nat) I n K:(vc (Tn κ).E 12 100 none 0 (ah (Pr κ).toProgram 100 2) (sp 39 [(0, .ad 72 l),(1, .ad 72 m),(2, .bp 101 []),(11, .ad 72 l),(12, .int l.length),(13, .int i)] []) (bh (Tn κ).E 100 2 0 I n K))=(
 letI a:=AV.int
 letI b:=AV.bool
 letI c:=Int.toNat (↑i:Int)
 letI d:=(↑i:Int)<(↑(l.length):Int)
 an (decide d) (aG (true&&decide d) (an (decide ((↑i:Int)>=(↑(m.length):Int))) (K Exit.ret (sp 39 [(6,a 1)] [])) (aG (true&&decide ((↑i:Int)<(↑(m.length):Int))) (∃(e1:fI×fI),letI e:=AV.agg [b e1.1.y,a e1.1.n,AV.str e1.1.s];letI f:=AV.agg [b e1.2.y,a e1.2.n,AV.str e1.2.s];([AV.agg [b (Dn.toBool (af (nth l c) 0)),a (toInt (af (nth l c) 1)),AV.str (toStr (af (nth l c) 2))],AV.agg [b (Dn.toBool (af (nth m c) 0)),a (toInt (af (nth m c) 1)),AV.str (toStr (af (nth m c) 2))]],[])=Ze e1/\True/\an (oF e f != (0:Int)) (K Exit.ret (sp 39 [(6,a (oF e f))] [])) (∃(e0:Nat),e0<n/\I e0 (sp 39 [(0,AV.ad 72 l),(1,AV.ad 72 m),(2,AV.bp 101 []),(11,AV.ad 72 l),(12,a (↑(l.length):Int)),(13,a (IntKind.wrap IntKind.i64 ((↑i:Int)+(1:Int))))] [])))))) (K (Exit.exit 0) (sp 39 [(0,AV.ad 72 l),(1,AV.ad 72 m)] []))):=by kernel_rfl
def FH:List AV->List AV->Bool
 |[],_=>true
 |_::_,[]=>false
 |a::l,b::m=>decide (oF a b=0)&&FH l m
theorem Cp: ∀l m,FH l m=true->bC l m=bif decide (l.length<m.length) then -1 else 0
 |[],[],_=>rfl
 |[],_::_,_=>by rfl
 |_::_,[],h=>by grind [FH]
 |a::l,b::m,h=>by
  simp[FH] at h;have:=Cp l m h.2
  simp_all[bC,qT]
structure Zs where
 l:List AV
 m:List AV
 i:Nat
abbrev YQ(x:Zs):=sp 39 [(0, .ad 72 x.l),(1, .ad 72 x.m),(2, .bp 101 []),(11, .ad 72 x.l),(12, .int x.l.length),(13, .int x.i)] []
def NI(x:Zs):=x.i<=x.l.length/\x.i<=x.m.length/\x.l.length<=aU
def MU(x:Zs):Out (Exit×S):= .an (FH (x.l.drop x.i) (x.m.drop x.i)) (.one (.exit 0,sp 39 [(0, .ad 72 x.l),(1, .ad 72 x.m)] [])) (.one (.ret,sp 39 [(6, .int (bC (x.l.drop x.i) (x.m.drop x.i)))] []))
theorem lCf κ:aP (Tn κ).E 12 100 2 (aI 0 YQ NI MU):=by
 refine aD (fun x=>x.l.length - x.i) ?_;rintro⟨l,m,i⟩ K ⟨f,d,c⟩ a;simp only[aU] at f d c;rw[show(Tn κ).E.P=Pr κ from rfl];refine Eq.mpr (xCf κ l m i _ _ K) ?_;simp only[MU,Out.run,ag] at a;simp only[Int.toNat_natCast];rw[ag,an2,an4];refine⟨fun h=>ai.2 ⟨by simp;omega,ag.2 ⟨fun e=>?_,fun e=>?_⟩⟩,fun h=>?_⟩
 ·have e:m.length<=i:=by simpa using e
  rw[ao0 e,ao3 (show i<l.length by omega)] at a;exact a.2 rfl
 ·have e:i<m.length:=by simpa using e
  rw[ao3 (show i<l.length by omega),←aJ l i (by omega),ao3 e,←aJ m i e] at a;simp only[FH,bC,qT] at a;refine ai.2 ⟨by simp;omega,(uv (nth l i),uv (nth m i)),rfl,trivial,?_⟩;rw[show oF (gz (uv (nth l i))) (gz (uv (nth m i)))=oF (nth l i) (nth m i) from rfl];rw[ag,bne_iff_ne,bne_eq_false_iff_eq];refine⟨fun b=>?_,fun b=>?_⟩
  ·grind
  ·rw[an8 b,ao7,an9] at a
   rw[ay (n:=(i:Int)+1) (by omega) (by omega)];refine⟨_,?_,⟨l,m,i+1⟩,rfl,⟨by simp only;omega,e,by simpa[aU] using c⟩,rfl,?_⟩
   ·simp only;omega
   ·simp only[MU,Out.run,ag]
    exact a
 ·rw[ao0 (show l.length<=i by omega)] at a
  exact a.1 rfl
noncomputable def BCf κ:=(Tn κ).loop (lCf _)
theorem yCf κ l m K:(a8 (BCf κ).E 12 100 [.ad 72 l, .ad 72 m, .bp 101 []] [] K)=(
 letI a:=AV.int
 letI b:=Pg.toProgram (Env.P (EB.E (Tn κ)))
 ah b 100 2=ah b 100 2/\∃(e0:Zs),sp 39 [(0,AV.ad 72 l),(1,AV.ad 72 m),(2,AV.bp 101 []),(11,AV.ad 72 l),(12,a (↑(l.length):Int)),(13,
 a 0)] []=YQ e0/\NI e0/\an (FH (List.drop e0.i e0.l) (List.drop e0.i e0.m)) (an (decide ((↑(e0.l.length):Int)<(↑(e0.m.length):Int))) (K (a
 (-1)) []) (K (a 0) [])) (K (a (bC (List.drop e0.i e0.l) (List.drop e0.i e0.m))) [])):=by kernel_rfl
def gCf:List AV->Option (Bool×AV)
 |[.ad 72 l, .ad 72 m, .bp 101 []]=>some (decide (l.length<=aU), .int (bC l m))
 |_=>none
theorem pCf κ:cg (BCf κ).E 12 100 gCf:=by
 intro b x a;unfold gCf at a;split at a
 ·rename_i l m
  simp only[an5,ao1,an2] at a;obtain⟨c,rfl⟩:=a;refine⟨_,rfl,rfl,Eq.mpr (yCf κ l m _) ?_⟩;refine⟨rfl,⟨l,m,0⟩,rfl,⟨Nat.zero_le _,Nat.zero_le _,c⟩,?_⟩
  grind [ag,Cp]
 grind
noncomputable def BCg κ:=(BCf κ).pure (pCf _)
theorem yCq κ l m K:(a8 (BCg κ).E 12 54 [.ad 72 l, .ad 72 m] [] K)=(
 aG (decide (l.length<=9223372036854775807)) (K (AV.int (bC l m)) [])):=by kernel_rfl
def gCq:List AV->Option (Bool×AV)
 |[.ad 72 l, .ad 72 m]=>some (decide (l.length<=aU), .int (bC l m))
 |_=>none
theorem pCq κ:cg (BCg κ).E 12 54 gCq:=by
 intro b x a;unfold gCq at a;split at a
 ·rename_i l m
  simp   at a;obtain⟨c,rfl⟩:=a;refine⟨_,rfl,rfl,Eq.mpr (yCq _ l m _) ?_⟩;exact ai.2 ⟨an8 c,rfl⟩
 grind
noncomputable def OU κ:=(BCg κ).pure (pCq _)
abbrev rws(L:RL):List AV:=L.map fun r=> .ad 72 r
theorem fq L:(rws L).length=L.length:=by simp
theorem gl: ∀L i,aa (nth (rws L) i)=rat L i
 |[],i=>by rfl
 |r::L,0=>rfl
 |r::L,i+1=>by
  have:=gl L i
  grind [nth,rat]
theorem vC r: ∀L i,bQ (rws L) i (.ad 72 r)=rws (L.set i r)
 |[],i=>by rfl
 |a::L,0=>rfl
 |a::L,i+1=>by
  have:=vC r L i
  grind [bQ]
def fz(L:RL):=∀r,r∈L->r.length<=aU
theorem kM{L}(h:fz L) i:(rat L i).length<=aU:=by
 unfold rat;rw[List.getD_eq_getElem?_getD];cases e:L[i]? with
 |none=>simp
 |some r=>exact h r (by grind)
theorem fu{L M}(h:fz L)(p:M.Perm L):fz M:=fun r a=>h r (by grind)
abbrev oE:AV:= .bp 54 []
abbrev jR(L:RL):Dn.Obj:= .row 70 (rws L)
theorem vG L i j:bQ (bQ (rws L) i (.ad 72 (aa (nth (rws L) j)))) j (.ad 72 (aa (nth (rws L) i)))=rws (swp L i j):=by
 rw[gl,gl,vC,vC];rfl
theorem xSr κ L(a b n i:Nat) I m K:(vc (OU κ).E 12 199 none 1 (ah (Pr κ).toProgram 199 1) (sp 38 [(0, .ax 0 0 L.length),(1, .int a),(2, .int b),(3, .int n),(10, .int i)] [jR L]) (bh (OU κ).E 199 1 1 I m K))=(
 letI c:=IntKind.wrap IntKind.i64
 letI d:=(↑a:Int)+(↑i:Int)
 letI f:=decide ((0:Int)<=c d)&&decide (c d<(↑(L.length):Int))
 letI e:=(↑b:Int)+(↑i:Int)
 letI g:=decide ((0:Int)<=c e)&&decide (c e<(↑(L.length):Int))
 letI h:=c d
 letI j:=c e
 an (decide ((↑i:Int)<(↑n:Int))) (aG g (aG f (aG f (aG g (∃(e0:Nat),e0<m/\I e0 (sp 38 [(0,AV.ax 0 0 L.length),(1,AV.int (↑a:Int)),(2,
 AV.int (↑b:Int)),(3,AV.int (↑n:Int)),(10,AV.int (c ((↑i:Int)+(1:Int))))] [Obj.row 70 (bQ (bQ (rws L) (0+Int.toNat h)
 (AV.ad 72 (aa (nth (rws L) (0+Int.toNat j))))) (0+Int.toNat j) (AV.ad 72 (aa (nth (rws L) (0+Int.toNat h)))))])))))) (K (Exit.exit 0) (sp 38 []
 [Obj.row 70 (rws L)]))):=by kernel_rfl
structure ZI where
 L0:RL
 L:RL
 a:Nat
 b:Nat
 n:Nat
 i:Nat
abbrev U0(x:ZI):=sp 38 [(0, .ax 0 0 x.L.length),(1, .int x.a),(2, .int x.b),(3, .int x.n),(10, .int x.i)] [jR x.L]
def WA(x:ZI):=Xr x.a x.b x.i x.a (x.b+x.n) x.L0 x.L/\x.i<=x.n/\x.a+x.n<=x.b/\x.b+x.n<=x.L.length/\x.L.length<=aU
def Yb(x:ZI):Out (Exit×S):= .all (fun M=>Xr x.a x.b x.n x.a (x.b+x.n) x.L0 M) fun M=> .one (.exit 0,sp 38 [] [jR M])
theorem lSr κ:aP (OU κ).E 12 199 1 (aI 1 U0 WA Yb):=by
 refine aD (fun x=>x.n - x.i) ?_;rintro⟨m,L,a,b,n,i⟩ K ⟨c,l,d,g,e⟩ j;simp only[aU] at c l d g e;rw[show(OU κ).E.P=Pr κ from rfl];refine Eq.mpr (xSr κ L a b n i _ _ K) ?_;have o:=c.sw.len;rw[ag,an2,an4];refine⟨fun h=>?_,fun h=>?_⟩
 ·rw[ay (n:=(b:Int)+i) (by omega) (by omega),ay (n:=(a:Int)+i) (by omega) (by omega),ay (n:=(i:Int)+1) (by omega) (by omega)]
  have f:(decide (0<=(b:Int)+i)&&decide ((b:Int)+i<L.length))=true:=by simp;omega
  have k:(decide (0<=(a:Int)+i)&&decide ((a:Int)+i<L.length))=true:=by simp;omega
  refine ai.2 ⟨f,ai.2 ⟨k,ai.2 ⟨k,ai.2 ⟨f,_,?_,⟨m,swp L (a+i) (b+i),a,b,n,i+1⟩,?_,⟨c.step (n:=n) (by omega) (Nat.le_refl _) d (Nat.le_refl _) (by omega),by simp only;omega,d,by rw[nS];exact g,by rw[nS];exact e⟩,rfl,j⟩⟩⟩⟩
  ·simp only;omega
  ·rw[show 0+((a:Int)+i).toNat=a+i by omega,show 0+((b:Int)+i).toNat=b+i by omega,vG]
   simp only[U0,nS];rfl
 ·obtain rfl:i=n:=by omega
  exact j L c
noncomputable def Tg κ:=(OU κ).loop (lSr _)
theorem ySr κ L(a b n:Nat) K:(a8 (Tg κ).E 12 199 [.ax 0 0 L.length, .int a, .int b, .int n,oE] [jR L] K)=(
 letI c:=Pg.toProgram (Env.P (EB.E (OU κ)))
 ah c 199 1=ah c 199 1/\∃(e1:ZI),sp 38 [(0,AV.ax 0 0 L.length),(1,AV.int (↑a:Int)),(2,AV.int (↑b:Int)),(3,AV.int (↑n:Int)),(10,AV.int 0)]
 [Obj.row 70 (rws L)]=U0 e1/\WA e1/\∀(e0:RL),Xr e1.a e1.b e1.n e1.a (e1.b+e1.n) e1.L0 e0->K (AV.aK []) [Obj.row 70 (rws e0)]):=by kernel_rfl
structure KJ where
 L:RL
 a:Nat
 b:Nat
 n:Nat
def Rb(x:KJ):=([.ax 0 0 x.L.length, .int x.a, .int x.b, .int x.n,oE],[jR x.L])
def BR(x:KJ):=x.a+x.n<=x.b/\x.b+x.n<=x.L.length/\x.L.length<=aU
def Yc(x:KJ):Out (AV×List Dn.Obj):= .all (fun M=>Xr x.a x.b x.n x.a (x.b+x.n) x.L M) fun M=> .one (.aK [],[jR M])
theorem cSr κ:bq (Tg κ).E 12 199 (aX Rb BR Yc):=by
 refine a7 ?_;rintro⟨L,a,b,n⟩ K ⟨d,e,f⟩ c;exact Eq.mpr (ySr _ L a b n K) ⟨rfl,⟨L,L,a,b,n,0⟩,rfl,⟨.start _ _ _ _ _,Nat.zero_le _,d,e,f⟩,c⟩
noncomputable def Ek κ:=(Tg κ).call (cSr _)
theorem xRo κ L(m i j:Nat) I n K:(vc (Ek κ).E 12 190 none 1 (ah (Pr κ).toProgram 190 2) (sp 58 [(0, .ax 0 0 L.length),(2, .int m),(4,oE),(10, .int i),(11, .int j)] [jR L]) (bh (Ek κ).E 190 2 1 I n K))=(
 letI a:=IntKind.wrap IntKind.i64
 letI b:=AV.int
 letI c:=Obj.row
 letI d:=a ((↑m:Int) - (↑i:Int))
 an ((↑i:Int) != (↑j:Int)) (an (decide ((↑i:Int)>(↑j:Int))) (∃(e2:KJ),([AV.ax 0 0 L.length,b d,b (↑m:Int),b (↑j:Int),AV.bp
 54 []],[c 70 (rws L)])=Rb e2/\BR e2/\∀(e1:RL),Xr e2.a e2.b e2.n e2.a (e2.b+e2.n) e2.L e1->∃(e0:Nat),e0<n/\I e0 (sp 58 [(0,AV.ax 0 0
 L.length),(2,b (↑m:Int)),(4,AV.bp 54 []),(10,b (a ((↑i:Int) - (↑j:Int)))),(11,b (↑j:Int))] [c 70
 (rws e1)])) (∃(e2:KJ),([AV.ax 0 0 L.length,b d,b (a (a ((↑m:Int)+(↑j:Int)) - (↑i:Int))),
 b (↑i:Int),AV.bp 54 []],[c 70 (rws L)])=Rb e2/\BR e2/\∀(e1:RL),Xr e2.a e2.b e2.n e2.a (e2.b+e2.n) e2.L e1->∃(e0:Nat),e0<n/\I e0
 (sp 58 [(0,AV.ax 0 0 L.length),(2,b (↑m:Int)),(4,AV.bp 54 []),(10,b (↑i:Int)),(11,b (a ((↑j:Int) - (↑i:
 Int))))] [c 70 (rws e1)]))) (K (Exit.exit 0) (sp 58 [(0,AV.ax 0 0 L.length),(2,b (↑m:Int)),(4,AV.bp 54 []),(10,b (↑i:Int))] [c
 70 (rws L)]))):=by kernel_rfl
structure ZH where
 L0:RL
 L:RL
 a:Nat
 m:Nat
 b:Nat
 i:Nat
 j:Nat
abbrev Za(x:ZH):=sp 58 [(0, .ax 0 0 x.L.length),(2, .int x.m),(4,oE),(10, .int x.i),(11, .int x.j)] [jR x.L]
def Wz(x:ZH):=IH x.a x.m x.b x.i x.j x.L0 x.L/\(0<x.i/\x.a<=x.m - x.i/\x.i<=x.m)/\(0<x.j/\x.m+x.j<=x.b)/\x.b<=x.L0.length/\x.L0.length<=aU
def X6(x:ZH):Out (Exit×S):= .all (fun r:Nat×RL=>IH x.a x.m x.b r.1 r.1 x.L0 r.2/\(x.a<=x.m - r.1/\r.1<=x.m)/\x.m+r.1<=x.b) fun r=> .one (.exit 0,sp 58 [(0, .ax 0 0 r.2.length),(2, .int x.m),(4,oE),(10, .int r.1)] [jR r.2])
theorem lRo κ:aP (Ek κ).E 12 190 2 (aI 1 Za Wz X6):=by
 refine aD (fun x=>x.i+x.j) ?_;rintro⟨p,L,a,m,b,i,j⟩ K ⟨f,g,k,d,o⟩ l;simp only[aU] at f g k d o;rw[show(Ek κ).E.P=Pr κ from rfl];refine Eq.mpr (xRo κ L m i j _ _ K) ?_;have q:=f.sw.len;rw[ag,bne_iff_ne,bne_eq_false_iff_eq];refine⟨fun h=>ag.2 ⟨fun e=>?_,fun e=>?_⟩,fun h=>?_⟩
 ·have e:j<i:=by simpa using e
  rw[ay (n:=(m:Int) - i) (by omega) (by omega),ay (n:=(i:Int) - j) (by omega) (by omega),show(m:Int) - i=(m - i:Nat) by omega,show(i:Int) - j=(i - j:Nat) by omega];refine⟨⟨L,m - i,m,j⟩,rfl,⟨by simp only;omega,by simp only;omega,by simp only[aU];omega⟩,fun M c=>?_⟩;have hd:=f.down g.2 k.2 d e c;refine⟨_,?_,⟨p,M,a,m,b,i - j,j⟩,by rw[←c.sw.len],⟨hd,by simp only;omega,k,d,by simpa[aU] using o⟩,rfl,l⟩;simp only;omega
 ·have e:i<j:=by
   have:i<=j:=by simpa using e
   omega
  rw[ay (n:=(m:Int) - i) (by omega) (by omega),ay (n:=(m:Int)+j) (by omega) (by omega),ay (n:=(m:Int)+j - i) (by omega) (by omega),ay (n:=(j:Int) - i) (by omega) (by omega),show(m:Int) - i=(m - i:Nat) by omega,show(m:Int)+j - i=(m+j - i:Nat) by omega,show(j:Int) - i=(j - i:Nat) by omega];refine⟨⟨L,m - i,m+j - i,i⟩,rfl,⟨by simp only;omega,by simp only;omega,by simp only[aU];omega⟩,fun M c=>?_⟩;simp only[show m+j - i+i=m+j by omega] at c;have hd:=f.up g.2 k.2 d e c;refine⟨_,?_,⟨p,M,a,m,b,i,j - i⟩,by rw[←c.sw.len],⟨hd,g,by simp only;omega,d,by simpa[aU] using o⟩,rfl,l⟩;simp only;omega
 ·obtain rfl:i=j:=by omega
  exact l (i,L) ⟨f,g.2,k.2⟩
noncomputable def BRo κ:=(Ek κ).loop (lRo _)
theorem yRo κ L(a m b:Nat) K:(a8 (BRo κ).E 12 190 [.ax 0 0 L.length, .int a, .int m, .int b,oE] [jR L] K)=(
 letI c:=IntKind.wrap IntKind.i64
 letI d:=AV.int
 letI e:=Pg.toProgram (Env.P (EB.E (Ek κ)))
 ah e 190 2=ah e 190 2/\∃(e3:ZH),sp 58 [(0,AV.ax 0 0 L.length),(2,d (↑m:Int)),(4,AV.bp 54 []),(10,d (c ((↑m:
 Int) - (↑a:Int)))),(11,d (c ((↑b:Int) - (↑m:Int))))] [Obj.row 70 (rws L)]=Za e3/\Wz e3/\∀(e2:Nat×RL),IH e3.a e3.m
 e3.b e2.1 e2.1 e3.L0 e2.2/\(e3.a<=e3.m - e2.1/\e2.1<=e3.m)/\e3.m+e2.1<=e3.b->∃(e1:KJ),([AV.ax 0 0 e2.2.length,d (c
 ((↑(e3.m):Int) - (↑(e2.1):Int))),d (↑(e3.m):Int),d (↑(e2.1):Int),AV.bp 54 []],[Obj.row 70 (rws e2.2)])=Rb e1/\BR e1/\∀(e0:RL),Xr
 e1.a e1.b e1.n e1.a (e1.b+e1.n) e1.L e0->K (AV.aK []) [Obj.row 70 (rws e0)]):=by kernel_rfl
def On(x:KJ):=([.ax 0 0 x.L.length, .int x.a, .int x.b, .int x.n,oE],[jR x.L])
def BQ(x:KJ):=x.a<x.b/\x.b<x.n/\x.n<=x.L.length/\x.L.length<=aU
def Um(x:KJ):Out (AV×List Dn.Obj):= .all (fun M=>KF x.a x.b x.n x.L M) fun M=> .one (.aK [],[jR M])
theorem cRo κ:bq (BRo κ).E 12 190 (aX On BQ Um):=by
 refine a7 ?_;rintro⟨L,a,m,b⟩ K ⟨g,e,f,d⟩ k;simp only[aU] at g e f d;refine Eq.mpr (yRo κ L a m b K) ?_;rw[ay (n:=(m:Int) - a) (by omega) (by omega),ay (n:=(b:Int) - m) (by omega) (by omega),show(m:Int) - a=(m - a:Nat) by omega,show(b:Int) - m=(b - m:Nat) by omega];refine⟨rfl,⟨L,L,a,m,b,m - a,b - m⟩,rfl,⟨.start (Nat.le_of_lt g) (Nat.le_of_lt e) L,by simp only;omega,by simp only;omega,f,by simpa[aU] using d⟩,fun r ⟨c,h,l⟩=>?_⟩;obtain⟨i,M⟩:=r;simp only at c h l;have o:=c.sw.len;simp only;rw[ay (n:=(m:Int) - i) (by omega) (by omega),show(m:Int) - i=(m - i:Nat) by omega];exact⟨⟨M,m - i,m,i⟩,rfl,⟨by simp only;omega,by simp only;omega,by simp only[aU];omega⟩,fun X j=>k X (c.done h.2 j)⟩
noncomputable def Tc κ:=(BRo κ).call (cRo _)
theorem xIj κ L(a b i j:Nat) I n K:(vc (Tc κ).E 12 166 none 1 (ah (Pr κ).toProgram 166 4) (sp 53 [(0, .ax 0 0 L.length),(1, .int a),(2, .int b),(3,oE),(8, .int i),(9, .int j)] [jR L]) (bh (Tc κ).E 166 4 1 I n K))=(
 letI c:=IntKind.wrap IntKind.i64
 letI d:=AV.int
 letI l:=K (Exit.exit 2) (sp 53 [(0,AV.ax 0 0 L.length),(1,d (↑a:Int)),(2,d (↑b:Int)),(3,AV.bp 54 []),(8,d (↑i:Int))] [Obj.row
  70 (rws L)])
 letI e:=true&&decide ((↑j:Int)<(↑(L.length):Int))
 letI f:=aa (nth (rws L) (0+Int.toNat (↑j:Int)))
 letI g:=(↑j:Int) - (1:Int)
 letI h:=decide ((0:Int)<=c g)&&decide (c g<(↑(L.length):Int))
 letI k:=c g
 letI m:=aa (nth (rws L) (0+Int.toNat k))
 an (decide ((↑j:Int)>(↑a:Int))) (aG e (aG h (aG (decide (List.length f<=9223372036854775807)) (an (decide (bC f m<(0:Int))) (aG h (aG e (aG e
 (aG h (∃(e0:Nat),e0<n/\I e0 (sp 53 [(0,AV.ax 0 0 L.length),(1,d (↑a:Int)),(2,d (↑b:Int)),(3,AV.bp 54 []),(8,d (↑i:Int)),
 (9,d k)] [Obj.row 70 (bQ (bQ (rws L) (0+Int.toNat (↑j:Int)) (AV.ad 72 m)) (0+Int.toNat k) (AV.ad 72 f))])))))) l)))) l):=by kernel_rfl
structure Zw where
 L0:RL
 L:RL
 a:Nat
 b:Nat
 i:Nat
 j:Nat
abbrev UQ(x:Zw):=sp 53 [(0, .ax 0 0 x.L.length),(1, .int x.a),(2, .int x.b),(3,oE),(8, .int x.i),(9, .int x.j)] [jR x.L]
def Wt(x:Zw):=RE x.a x.i x.j x.L0 x.L/\(x.a<=x.j/\x.j<=x.i)/\x.i<x.L0.length/\x.L0.length<=aU/\fz x.L0
def XO(x:Zw):Out (Exit×S):= .all (fun M=>Sw x.a (x.i+1) x.L0 M/\Up M x.a (x.i+1)) fun M=> .one (.exit 2,sp 53 [(0, .ax 0 0 M.length),(1, .int x.a),(2, .int x.b),(3,oE),(8, .int x.i)] [jR M])
theorem lIj κ:aP (Tc κ).E 12 166 4 (aI 1 UQ Wt XO):=by
 refine aD (fun x=>x.j) ?_;rintro⟨r,L,a,b,i,j⟩ K ⟨c,k,g,p,f⟩ l;simp only[aU] at c k g p f;rw[show(Tc κ).E.P=Pr κ from rfl];refine Eq.mpr (xIj κ L a b i j _ _ K) ?_;have t:=c.sw.len;have s:=fu f c.sw.perm;rw[ag,an2,an4];refine⟨fun h=>?_,fun h=>?_⟩
 ·rw[ay (n:=(j:Int) - 1) (by omega) (by omega)]
  have m:(true&&decide ((j:Int)<L.length))=true:=by simp;omega
  have d:(decide (0<=(j:Int) - 1)&&decide ((j:Int) - 1<L.length))=true:=by simp;omega
  rw[show 0+(j:Int).toNat=j by omega,show 0+((j:Int) - 1).toNat=j - 1 by omega,vG,gl,gl,show(j:Int) - 1=(j - 1:Nat) by omega];rw[show(j:Int) - 1=(j - 1:Nat) by omega] at d;refine ai.2 ⟨m,ai.2 ⟨d,ai.2 ⟨an8 (kM s j),ag.2 ⟨fun e=>?_,fun e=>?_⟩⟩⟩⟩
  ·have o:bC (rat L j) (rat L (j - 1))<0:=by simpa using e
   refine ai.2 ⟨d,ai.2 ⟨m,ai.2 ⟨m,ai.2 ⟨d,_,?_,⟨r,swp L j (j - 1),a,b,i,j - 1⟩,?_,⟨c.step (by omega) g o,by simp only;omega,g,by simpa[aU] using p,f⟩,rfl,l⟩⟩⟩⟩
   ·simp only;omega
   ·simp only[UQ,nS]
  ·have o:0<=bC (rat L j) (rat L (j - 1)):=by simpa using e
   exact l L ⟨c.sw,c.done k fun _=>o⟩
 ·exact l L ⟨c.sw,c.done k fun q=>absurd q (by omega)⟩
noncomputable def Vm κ:=(Tc κ).loop (lIj _)
theorem xIs κ L(a b i:Nat) I n K:(vc (Vm κ).E 12 166 none 1 (ah (Pr κ).toProgram 166 1) (sp 53 [(0, .ax 0 0 L.length),(1, .int a),(2, .int b),(3,oE),(8, .int i)] [jR L]) (bh (Vm κ).E 166 1 1 I n K))=(
 letI c:=AV.int
 letI d:=Pg.toProgram (Env.P (EB.E (Tc κ)))
 an (decide ((↑i:Int)<(↑b:Int))) (ah d 166 4=ah d 166 4/\∃(e3:Zw),sp 53 [(0,AV.ax 0 0 L.length),(1,c (↑a:Int)),(2,c (↑b:Int)),
 (3,AV.bp 54 []),(8,c (↑i:Int)),(9,c (↑i:Int))] [Obj.row 70 (rws L)]=UQ e3/\Wt e3/\∀(e2:RL),(Sw e3.a (e3.i+1) e3.L0 e2/\∀(e1 e0:
 Nat),e3.a<=e1->e1<e0->e0<e3.i+1->bC (rat e2 e1) (rat e2 e0)<=(0:Int))->∃(e0:Nat),e0<n/\I e0 (sp 53 [(0,AV.ax 0 0 e2.length),(1,c
 (↑(e3.a):Int)),(2,c (↑(e3.b):Int)),(3,AV.bp 54 []),(8,c (IntKind.wrap IntKind.i64 ((↑(e3.i):Int)+(1:Int))))] [Obj.row 70 (rws e2)]))
 (K (Exit.exit 0) (sp 53 [] [Obj.row 70 (rws L)]))):=by kernel_rfl
structure Zx where
 L0:RL
 L:RL
 a:Nat
 b:Nat
 i:Nat
abbrev Sn(x:Zx):=sp 53 [(0, .ax 0 0 x.L.length),(1, .int x.a),(2, .int x.b),(3,oE),(8, .int x.i)] [jR x.L]
def Wu(x:Zx):=Sw x.a x.b x.L0 x.L/\Up x.L x.a x.i/\(x.a<x.i/\(x.i<=x.b\/x.b<=x.a))/\x.b<=x.L0.length/\x.L0.length<=aU/\fz x.L0
def XQ(x:Zx):Out (Exit×S):= .all (fun M=>Sw x.a x.b x.L0 M/\Up M x.a x.b) fun M=> .one (.exit 0,sp 53 [] [jR M])
theorem lIs κ:aP (Vm κ).E 12 166 1 (aI 1 Sn Wu XQ):=by
 refine aD (fun x=>x.b - x.i) ?_;rintro⟨m,L,a,b,i⟩ K ⟨c,f,l,e,g,d⟩ j;simp only[aU] at c f l e g d;refine Eq.mpr (xIs κ L a b i _ _ K) ?_;have q:=c.len;rw[ag,an2,an4];refine⟨fun h=>?_,fun h=>?_⟩
 ·refine⟨rfl,⟨L,L,a,b,i,i⟩,rfl,⟨.start f,by simp only;omega,by simp only;omega,by simp only[aU];omega,fu d c.perm⟩,fun M o=>?_⟩
  obtain⟨p,k⟩:Sw a (i+1) L M/\Up M a (i+1):=o;rw[ay (n:=(i:Int)+1) (by omega) (by omega)];refine⟨_,?_,⟨m,M,a,b,i+1⟩,rfl,⟨c.trans (p.mono (Nat.le_refl _) (by omega) (by omega)),k,by simp only;omega,e,by simpa[aU] using g,d⟩,rfl,j⟩;simp only;omega
 ·refine j L ⟨c,?_⟩
  grind [Up.one]
noncomputable def BIs κ:=(Vm κ).loop (lIs _)
theorem yIs κ L(a b:Nat) K:(a8 (BIs κ).E 12 166 [.ax 0 0 L.length, .int a, .int b,oE] [jR L] K)=(
 letI c:=Pg.toProgram (Env.P (EB.E (Vm κ)))
 ah c 166 1=ah c 166 1/\∃(e3:Zx),sp 53 [(0,AV.ax 0 0 L.length),(1,AV.int (↑a:Int)),(2,AV.int (↑b:Int)),(3,AV.bp 54 []),(8,AV.int
 (IntKind.wrap IntKind.i64 ((↑a:Int)+(1:Int))))] [Obj.row 70 (rws L)]=Sn e3/\Wu e3/\∀(e2:RL),(Sw e3.a e3.b e3.L0 e2/\∀(e1 e0:Nat),e3.a<=e1->
 e1<e0->e0<e3.b->bC (rat e2 e1) (rat e2 e0)<=(0:Int))->K (AV.aK []) [Obj.row 70 (rws e2)]):=by kernel_rfl
structure VK where
 L:RL
 a:Nat
 b:Nat
def UR(x:VK):=([.ax 0 0 x.L.length, .int x.a, .int x.b,oE],[jR x.L])
def F3(x:VK):=x.a<=x.b/\x.b<=x.L.length/\x.L.length<=100000000/\fz x.L
def XP(x:VK):Out (AV×List Dn.Obj):= .all (fun M=>Sw x.a x.b x.L M/\Up M x.a x.b) fun M=> .one (.aK [],[jR M])
theorem cIr κ:bq (BIs κ).E 12 166 (aX UR F3 XP):=by
 refine a7 ?_;rintro⟨L,a,b⟩ K ⟨e,c,f,d⟩ g;simp only at e c f d;refine Eq.mpr (yIs κ L a b K) ?_;rw[ay  (by omega) (by omega)];exact⟨rfl,⟨L,L,a,b,a+1⟩,rfl,⟨.refl,Up.one L (Nat.le_refl _),by grind,c,by grind [aU],d⟩,g⟩
noncomputable def j4 κ:=(BIs κ).call (cIr _)
end Go.Proofs.YtioeffnadipbaaaGreatDoor
