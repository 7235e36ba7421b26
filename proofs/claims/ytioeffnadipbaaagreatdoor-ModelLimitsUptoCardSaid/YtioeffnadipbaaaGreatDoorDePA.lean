import Derived.Test.YtioeffnadipbaaaGreatDoorDnA
import Derived.Sort.Walk0
import Derived.Test.YtioeffnadipbaaaGreatDoorDeP9
import Derived.Test.YtioeffnadipbaaaGreatDoorDoM
namespace Go.Rl
open Go Go.Dn
structure u6{α:Type}(c:α->α->Int):Prop where
 swap: ∀a b,c b a= - c a b
 trans: ∀a b d,c a b<=0->c b d<=0->c a d<=0
theorem u6.self{α c}(h:u6 c)(a:α):c a a=0:=by
 have:=h.swap a a;omega
theorem u6.Jr{α c}(h:u6 c){a b d:α}(h1:c a b<0)(h2:c b d<=0):c a d<0:=by
 rcases Int.lt_or_le _ 0 with h3|h3
 ·omega
 ·have h4:=h.trans b d a h2 (by rw[h.swap a d];omega)
  rw[h.swap a b] at h4;omega
theorem u6.ae8{α c}(h:u6 c){a b d:α}(h1:c a b<=0)(h2:c b d<0):c a d<0:=by
 rcases Int.lt_or_le _ 0 with h3|h3
 ·omega
 ·have h4:=h.trans d a b (by rw[h.swap a d];omega) h1
  rw[h.swap b d] at h4;omega
def qi{α:Type}(c:α->α->Int):List α->List α->Int
 |[],[]=>0
 |[],_::_=> -1
 |_::_,[]=>1
 |a::l,b::m=>bif decide (c a b=0) then qi c l m else c a b
theorem J8{α}{c:α->α->Int}(h:u6 c):u6 (qi c):=by
 refine⟨?_,?_⟩
 ·intro a
  induction a with
  |nil=>intro b;cases b<;>simp[qi]
  | cons a l ih=>
   intro b;cases b with
   |nil=>simp[qi]
   |cons b m=>
    simp only[qi];have:=h.swap a b
    by_cases e:c a b=0
    ·rw[an8 e,an8 (by omega)];exact ih m
    ·rw[an6 e,an6 (by omega)];exact this
 ·intro a
  induction a with
  |nil=>intro b d _ _;cases d<;>simp[qi]
  | cons a l ih=>
   intro b d h1 h2;cases b with
   |nil=>simp[qi] at h1
   | cons b m=>
    cases d with
    |nil=>simp[qi] at h2
    | cons d n=>
     simp only[qi] at h1 h2⊢;by_cases e1:c a b=0
     ·rw[an8 e1,an9] at h1
      by_cases e2:c b d=0
      ·rw[an8 e2,an9] at h2
       have e3:c a d=0:=by
        have h3:=h.trans a b d (by omega) (by omega);have h4:=h.trans d b a (by rw[h.swap b d];omega) (by rw[h.swap a b];omega);rw[h.swap a d] at h4;omega
       rw[an8 e3];exact ih m n h1 h2
      ·rw[an6 e2,an7] at h2
       have:=h.ae8 (a:=a) (b:=b) (d:=d) (by omega) (by omega)
       rw[an6 (by omega)];simp only[an7];omega
     ·rw[an6 e1,an7] at h1
      have h3:c b d<=0:=by
       by_cases e2:c b d=0
       ·omega
       ·rwa [an6 e2,an7] at h2
      have:=h.Jr (a:=a) (b:=b) (d:=d) (by omega) h3
      rw[an6 (by omega)];simp only[an7];omega
def yD(a b:Int):=bif decide (a<b) then -1 else bif decide (b<a) then 1 else 0
def Be(a b:ByteArray):=bif Op.bytesLess a.toList b.toList then -1 else bif Op.bytesLess b.toList a.toList then 1 else 0
theorem yU:u6 yD:=by
 refine⟨fun a b=>?_,fun a b d=>?_⟩<;>unfold yD<;>simp[Bool.cond_decide]<;>omega
theorem JI{a b}:yD a b=0↔a=b:=by
 grind [yD]
theorem toList_inj{a b:ByteArray}:a.toList=b.toList↔a=b:=by
 grind [ByteArray.toList_eq,ByteArray.ext,Array.toList_inj]
theorem wF a b:Be a b=if a.toList<b.toList then -1 else if b.toList<a.toList then 1 else 0:=by
 simp_all[Be,Go.Proofs.bytesLess_eq,Bool.cond_decide]
theorem zr:u6 Be:=by
 refine⟨fun a b=>?_,fun a b d=>?_⟩
 ·grind [wF]
 grind [wF]
theorem J1{a b}:Be a b=0↔a=b:=by
 grind [wF,toList_inj]
def oV a b:=
 bif toBool (af a 0)&&toBool (af b 0) then Be (toStr (af a 2)) (toStr (af b 2)) else bif toBool (af a 0) then 1 else bif toBool (af b 0) then -1 else yD (toInt (af a 1)) (toInt (af b 1))
theorem Jq:u6 oV:=by
 refine⟨fun a b=>?_,fun a b d=>?_⟩<;>unfold oV
 ·cases toBool (af a 0)<;>cases toBool _<;>simp[zr.swap (toStr (af a 2)),yU.swap (toInt (af a 1))]
 ·cases toBool _<;>cases toBool (af b 0)<;>cases toBool (af d 0)<;>simp
  ·exact yU.trans _ _ _
  ·exact zr.trans _ _ _
def bC:=qi oV
theorem cm:u6 bC:=J8 Jq
abbrev RL:=List (List AV)
def rat(L:RL) i:=L.getD i []
def swp(L:RL)(i j:Nat):RL:=(L.set i (rat L j)).set j (rat L i)
theorem zw{L i} h:rat L i=L[i]:=by grind [rat]
theorem IG L i k x(h:i<L.length):rat (L.set i x) k=if i=k then x else rat L k:=by
 grind [rat]
theorem mV L i j:(swp L i j).length=L.length:=by simp[swp]
theorem tH{L i j}(hi:i<L.length)(hj:j<L.length) k:rat (swp L i j) k=if j=k then rat L i else if i=k then rat L j else rat L k:=by
 grind [swp,IG]
theorem PO{L i j}(hi:i<L.length)(hj:j<L.length):(swp L i j).Perm L:=by
 grind [swp,zw,List.set_set_perm]
inductive Sw (a b:Nat) (L:RL):RL->Prop
 |refl:Sw a b L L
 |swap {M:RL} (h:Sw a b L M) (i j:Nat) (hi:a<=i/\i<b) (hj:a<=j/\j<b) (hb:b<=M.length):Sw a b L (swp M i j)
theorem Sw.len{a b L M}(h:Sw a b L M):M.length=L.length:=by
 induction h<;>grind [mV]
theorem Sw.perm{a b L M}(h:Sw a b L M):M.Perm L:=by
 induction h with
 |refl=>rfl
 |swap h i j hi hj hb ih=>exact(PO (by omega) (by omega)).trans ih
theorem Sw.out{a b L M}(h:Sw a b L M){k}(hk:k<a\/b<=k):rat M k=rat L k:=by
 induction h with
 |refl=>rfl
 |swap h i j hi hj hb ih=>rw[tH (by omega) (by omega),if_neg (by omega),if_neg (by omega),ih]
theorem Sw.inn{a b L M}(h:Sw a b L M): ∀k,a<=k->k<b->∃x,(a<=x/\x<b)/\rat M k=rat L x:=by
 induction h with
 |refl=>exact fun k h1 h2=>⟨k,⟨h1,h2⟩,rfl⟩
 |swap h i j hi hj hb ih=>
  grind [tH]
theorem Sw.trans{a b L M N}(h:Sw a b L M)(k:Sw a b M N):Sw a b L N:=by
 induction k with
 |refl=>omega
 |swap _ i j hi hj hb ih=>exact ih.swap i j hi hj hb
theorem Sw.mono{a b a' b' L M}(h:Sw a b L M)(ha:a'<=a)(hb:b<=b')(hl:b'<=L.length):Sw a' b' L M:=by
 induction h with
 |refl=>exact .refl
 |swap h i j hi hj hb2 ih=>exact ih.swap i j (by omega) (by omega) (by rw[h.len];omega)
def Up L a b:=∀i j,a<=i->i<j->j<b->bC (rat L i) (rat L j)<=0
theorem Up.le{L a b}(h:Up L a b){i j}(h1:a<=i)(h2:i<=j)(h3:j<b):bC (rat L i) (rat L j)<=0:=by
 rcases Nat.lt_or_ge i j with e|e
 ·exact h i j h1 e h3
 ·obtain rfl:i=j:=by omega
  rw[cm.self];simp
theorem Up.same{L M a b}(h:Up L a b)(e: ∀k,a<=k->k<b->rat M k=rat L k):Up M a b:=fun i j h1 h2 h3=>by
 rw[e i (by omega) (by omega),e j (by omega) h3];exact h i j h1 h2 h3
theorem Up.one L{a b}(h:b<=a+1):Up L a b:=fun i j h1 h2 h3=>by omega
structure Lf(a m b:Nat)(L M:RL):Prop where
 sw:Sw a b L M
 lo: ∀k,a<=k->k<a+(b - m)->rat M k=rat L (k+(m - a))
 hi: ∀k,a+(b - m)<=k->k<b->rat M k=rat L (k - (b - m))
structure Cut(a m b s e:Nat)(L:RL):Prop where
 h1:a<s->e<b->bC (rat L (s - 1)) (rat L e)<=0
 h2:s<m->m<e->bC (rat L (e - 1)) (rat L s)<=0
theorem Eh{a m b s e h L M N}(ha:a<=s/\s<=m/\m<=e/\e<=b)(hh:s+(e - m)=h)(u1:Up L a m)(u2:Up L m b)(hc:Cut a m b s e L)
  (hr:Lf s m e L M) (hn1:Sw a h M N):(∀k,a<=k->k<h->∀j,h<=j->j<b->bC (rat N k) (rat M j)<=0)/\Up M a s/\Up M s h/\Up M h e/\Up M e b:=by
 have lo: ∀k,a<=k->k<s->rat M k=rat L k:=fun k h1 h2=>hr.sw.out (.inl h2)
 have hi: ∀k,e<=k->rat M k=rat L k:=fun k h1=>hr.sw.out (.inr h1)
 have m1: ∀k,s<=k->k<h->rat M k=rat L (k+(m - s)):=fun k h1 h2=>hr.lo k h1 (by omega)
 have m2: ∀k,h<=k->k<e->rat M k=rat L (k - (e - m)):=fun k h1 h2=>hr.hi k (by omega) h2
 refine⟨fun k k1 k2 j j1 j2=>?_,(Up.same (fun i j h1 h2 h3=>u1 i j h1 h2 (by omega)) lo),fun i j h1 h2 h3=>?_,fun i j h1 h2 h3=>?_,(Up.same (fun i j h1 h2 h3=>u2 i j (by omega) h2 h3) (fun k h1 _=>hi k h1))⟩
 ·obtain⟨x,⟨x1,x2⟩,ex⟩:=hn1.inn k k1 k2
  rw[ex];rcases Nat.lt_or_ge x s with p|p
  ·rw[lo x x1 p]
   rcases Nat.lt_or_ge j e with q|q
   ·rw[m2 j j1 q];exact u1.le x1 (by omega) (by omega)
   ·rw[hi j q]
    exact cm.trans _ _ _ (u1.le x1 (show x<=s - 1 by omega) (by omega)) (cm.trans _ _ _ (hc.h1 (by omega) (by omega)) (u2.le (by omega) q j2))
  ·rw[m1 x p x2]
   rcases Nat.lt_or_ge j e with q|q
   ·rw[m2 j j1 q]
    exact cm.trans _ _ _ (u2.le (by omega) (show x+(m - s)<=e - 1 by omega) (by omega)) (cm.trans _ _ _ (hc.h2 (by omega) (by omega)) (u1.le (by omega) (by omega) (by omega)))
   ·rw[hi j q];exact u2.le (by omega) (by omega) j2
 ·rw[m1 i h1 (by omega),m1 j (by omega) h3];exact u2 _ _ (by omega) (by omega) (by omega)
 ·rw[m2 i h1 (by omega),m2 j (by omega) h3];exact u1 _ _ (by omega) (by omega) (by omega)
theorem RN{a h b:Nat}{M N O:RL}(hx: ∀k,a<=k->k<h->∀j,h<=j->j<b->bC (rat N k) (rat M j)<=0)(h1:Sw a h M N)(n1:Up N a h)(h2:Sw h b N O)(n2:Up O h b):Up O a b:=by
 intro i j k1 k2 k3;rcases Nat.lt_or_ge j h with q|q
 ·rw[h2.out (.inl (by omega)),h2.out (.inl q)];exact n1 i j k1 k2 q
 ·rcases Nat.lt_or_ge i h with p|p
  ·obtain⟨x,⟨x1,x2⟩,ex⟩:=h2.inn j q k3
   rw[h2.out (.inl p),ex,h1.out (.inr x1)];exact hx i k1 p x x1 x2
  ·exact n2 i j p k2 k3
structure TF(a i j:Nat)(L M:RL):Prop where
 sw:Sw a (i+1) L M
 up: ∀x y,a<=x->x<y->y<=i->x≠j->y≠j->bC (rat M x) (rat M y)<=0
 be: ∀y,j<y->y<=i->bC (rat M j) (rat M y)<=0
theorem TF.start{a i L}(u:Up L a i):TF a i i L L:=⟨.refl,fun x y h1 h2 h3 h4 h5=>u x y h1 h2 (by omega),by grind⟩
theorem TF.step{a i j L M}(h:TF a i j L M)(hj:a<j/\j<=i)(hi:i<L.length)(hc:bC (rat M j) (rat M (j - 1))<0):TF a i (j - 1) L (swp M j (j - 1)):=by
 have hl:=h.sw.len;have e: ∀k,rat (swp M j (j - 1)) k=if j - 1=k then rat M j else if j=k then rat M (j - 1) else rat M k:=fun k=>tH (by omega) (by omega) k
 refine⟨h.sw.swap j (j - 1) ⟨by omega,by omega⟩ ⟨by omega,by omega⟩ (by omega),fun x y h1 h2 h3 h4 h5=>?_,fun y h1 h2=>?_⟩
 ·rw[e,e,if_neg (Ne.symm h4),if_neg (Ne.symm h5)]
  by_cases hx:j=x
  ·subst hx
   rw[if_pos rfl,if_neg (by omega)];exact h.up _ _ (by omega) (by omega) h3 (by omega) (by omega)
  ·rw[if_neg hx]
   by_cases hy:j=y
   ·subst hy
    rw[if_pos rfl];exact h.up _ _ h1 (by omega) (by omega) (by omega) (by omega)
   ·rw[if_neg hy]
    exact h.up _ _ h1 h2 h3 (by omega) (by omega)
 ·rw[e,e,if_pos rfl,if_neg (by omega)]
  by_cases hy:j=y
  ·subst hy;rw[if_pos rfl];omega
  ·rw[if_neg hy];exact h.be y (by omega) h2
theorem TF.done{a i j L M}(h:TF a i j L M)(hj:a<=j/\j<=i)(hc:a<j->0<=bC (rat M j) (rat M (j - 1))):Up M a (i+1):=by
 intro x y h1 h2 h3;by_cases hy:y=j
 ·subst hy
  have h4:bC (rat M (y - 1)) (rat M y)<=0:=by
   rw[cm.swap (rat M y)];omega
  by_cases e:x=y - 1
  ·rw[e];exact h4
  ·exact cm.trans _ _ _ (h.up x (y - 1) h1 (by omega) (by omega) (by omega) (by omega)) h4
 ·by_cases hx:x=j
  ·subst hx;exact h.be y h2 (by omega)
  ·exact h.up x y h1 h2 (by omega) hx hy
structure Fw(a b k:Nat)(L M:RL):Prop where
 sw:Sw a b L M
 me:rat M k=rat L a
 lo: ∀x,a<=x->x<k->rat M x=rat L (x+1)
 hi: ∀x,k<x->rat M x=rat L x
theorem Fw.start a b L:Fw a b a L L:=⟨.refl,rfl,by omega,by simp⟩
theorem Fw.step{a b k L M}(h:Fw a b k L M)(hk:a<=k/\k+1<b)(hb:b<=L.length):Fw a b (k+1) L (swp M k (k+1)):=by
 have hl:=h.sw.len;have e: ∀x,rat (swp M k (k+1)) x=if k+1=x then rat M k else if k=x then rat M (k+1) else rat M x:=fun x=>tH (by omega) (by omega) x
 refine⟨h.sw.swap k (k+1) ⟨by omega,by omega⟩ ⟨by omega,by omega⟩ (by omega),by rw[e,if_pos rfl,h.me],fun x h1 h2=>?_,fun x h1=>?_⟩
 ·rw[e,if_neg (by omega)]
  by_cases hx:k=x
  ·subst hx;rw[if_pos rfl,h.hi _ (by omega)]
  ·rw[if_neg hx,h.lo x h1 (by omega)]
 ·rw[e,if_neg (by omega),if_neg (by omega),h.hi x (by omega)]
theorem Fw.done{a b i L M}(h:Fw a b (i - 1) L M)(hi:a+1<=i/\i<=b)(u:Up L (a+1) b)(h1:a+1<i->bC (rat L (i - 1)) (rat L a)<=0)(h2:i<b->bC (rat L a) (rat L i)<=0):Up M a b:=by
 intro x y k1 k2 k3;rcases Nat.lt_trichotomy x (i - 1) with p|p|p
 ·rw[h.lo x k1 p]
  rcases Nat.lt_trichotomy y (i - 1) with q|q|q
  ·rw[h.lo y (by omega) q];exact u _ _ (by omega) (by omega) (by omega)
  ·rw[q,h.me];exact cm.trans _ _ _ (u.le (by omega) (show x+1<=i - 1 by omega) (by omega)) (h1 (by omega))
  ·rw[h.hi y q];exact u.le (by omega) (by omega) k3
 ·subst p
  rw[h.me,h.hi y (by omega)];exact cm.trans _ _ _ (h2 (by omega)) (u.le (by omega) (by omega) k3)
 ·rw[h.hi x p,h.hi y (by omega)];exact u x y (by omega) k2 k3
structure Bw(a m k:Nat)(L M:RL):Prop where
 sw:Sw a (m+1) L M
 me:rat M k=rat L m
 hi: ∀x,k<x->x<=m->rat M x=rat L (x - 1)
 lo: ∀x,x<k->rat M x=rat L x
theorem Bw.start a m L:Bw a m m L L:=⟨.refl,rfl,by omega,by simp⟩
theorem Bw.step{a m k:Nat}{L M:RL}(h:Bw a m k L M)(hk:a<k/\k<=m)(hb:m<L.length):Bw a m (k - 1) L (swp M k (k - 1)):=by
 have hl:=h.sw.len;have e: ∀x,rat (swp M k (k - 1)) x=if k - 1=x then rat M k else if k=x then rat M (k - 1) else rat M x:=fun x=>tH (by omega) (by omega) x
 refine⟨h.sw.swap k (k - 1) ⟨by omega,by omega⟩ ⟨by omega,by omega⟩ (by omega),by rw[e,if_pos rfl,h.me],fun x h1 h2=>?_,fun x h1=>?_⟩
 ·rw[e,if_neg (by omega)]
  by_cases hx:k=x
  ·subst hx;rw[if_pos rfl,h.lo _ (by omega)]
  ·rw[if_neg hx,h.hi x (by omega) h2]
 ·rw[e,if_neg (by omega),if_neg (by omega),h.lo x (by omega)]
theorem Bw.done{a m i:Nat}{L M:RL}(h:Bw a m i L M)(hi:a<=i/\i<=m)(u:Up L a m)(h1:a<i->bC (rat L (i - 1)) (rat L m)<=0)(h2:i<m->bC (rat L m) (rat L i)<=0):Up M a (m+1):=by
 intro x y k1 k2 k3;rcases Nat.lt_trichotomy y i with p|p|p
 ·rw[h.lo x (by omega),h.lo y p];exact u x y k1 k2 (by omega)
 ·subst p
  rw[h.lo x k2,h.me];exact cm.trans _ _ _ (u.le k1 (show x<=y - 1 by omega) (by omega)) (h1 (by omega))
 ·rw[h.hi y p (by omega)]
  rcases Nat.lt_trichotomy x i with q|q|q
  ·rw[h.lo x q];exact u.le k1 (by omega) (by omega)
  ·subst q;rw[h.me];exact cm.trans _ _ _ (h2 (by omega)) (u.le k1 (by omega) (by omega))
  ·rw[h.hi x q (by omega)];exact u _ _ (by omega) (by omega) (by omega)
structure Xr(p q k lo hi:Nat)(L M:RL):Prop where
 sw:Sw lo hi L M
 a: ∀x,p<=x->x<p+k->rat M x=rat L (x+(q - p))
 b: ∀x,q<=x->x<q+k->rat M x=rat L (x - (q - p))
 c: ∀x,¬ (p<=x/\x<p+k)-> ¬ (q<=x/\x<q+k)->rat M x=rat L x
theorem Xr.start(p q lo hi:Nat)(L:RL):Xr p q 0 lo hi L L:=⟨.refl,fun x h1 h2=>by omega,fun x h1 h2=>by omega,fun _ _ _=>rfl⟩
theorem Xr.step{p q k n lo hi:Nat}{L M:RL}(h:Xr p q k lo hi L M)(hk:k<n)(h1:lo<=p)(h2:p+n<=q)(h3:q+n<=hi)(h4:hi<=L.length):Xr p q (k+1) lo hi L (swp M (p+k) (q+k)):=by
 have hl:=h.sw.len;have e: ∀x,rat (swp M (p+k) (q+k)) x=if q+k=x then rat M (p+k) else if p+k=x then rat M (q+k) else rat M x:=fun x=>tH (by omega) (by omega) x
 refine⟨h.sw.swap _ _ ⟨by omega,by omega⟩ ⟨by omega,by omega⟩ (by omega),fun x k1 k2=>?_,fun x k1 k2=>?_,fun x k1 k2=>?_⟩
 ·rw[e,if_neg (by omega)]
  by_cases hx:p+k=x
  ·rw[if_pos hx,h.c (q+k) (by omega) (by omega)];congr 1;omega
  ·rw[if_neg hx,h.a x k1 (by omega)]
 ·rw[e]
  by_cases hx:q+k=x
  ·rw[if_pos hx,h.c (p+k) (by omega) (by omega)];congr 1;omega
  ·rw[if_neg hx,if_neg (by omega),h.b x k1 (by omega)]
 ·rw[e,if_neg (by omega),if_neg (by omega),h.c x (by omega) (by omega)]
theorem Xr.mono{p q k lo hi lo' hi':Nat}{L M:RL}(h:Xr p q k lo hi L M)(h1:lo'<=lo)(h2:hi<=hi')(h3:hi'<=L.length):Xr p q k lo' hi' L M:=⟨h.sw.mono h1 h2 h3,h.a,h.b,h.c⟩
structure K7(a m b i j:Nat)(L M:RL):Prop where
 sw:Sw a b L M
 go: ∀X,Lf (m - i) m (m+j) M X->Lf a m b L X
theorem K7.start{a m b:Nat}(h1:a<=m)(h2:m<=b)(L:RL):K7 a m b (m - a) (b - m) L L:=⟨.refl,fun X h=>by rwa [show m - (m - a)=a by omega,show m+(b - m)=b by omega] at h⟩
theorem K7.down{a m b i j:Nat}{L M N:RL}(h:K7 a m b i j L M)(hi:a<=m - i/\i<=m)(hj:m+j<=b)(hb:b<=L.length)(hij:j<i)(hx:Xr (m - i) m j (m - i) (m+j) M N):K7 a m b (i - j) j L N:=by
 have hl:=h.sw.len;refine⟨h.sw.trans (hx.sw.mono (by omega) hj (by omega)),fun X hX=>h.go X ⟨hx.sw.trans (hX.sw.mono (by omega) (Nat.le_refl _) (by rw[hx.sw.len];omega)),fun k k1 k2=>?_,fun k k1 k2=>?_⟩⟩
 ·rw[hX.sw.out (.inl (by omega)),hx.a k k1 (by omega)]
 ·rcases Nat.lt_or_ge k (m - (i - j)+j) with q|q
  ·rw[hX.lo k (by omega) (by omega),hx.b _ (by omega) (by omega)];congr 1;omega
  ·rw[hX.hi k (by omega) k2,hx.c _ (by omega) (by omega)]
theorem K7.up{a m b i j:Nat}{L M N:RL}(h:K7 a m b i j L M)(hi:a<=m - i/\i<=m)(hj:m+j<=b)(hb:b<=L.length)(hij:i<j)(hx:Xr (m - i) (m+j - i) i (m - i) (m+j) M N):K7 a m b i (j - i) L N:=by
 have hl:=h.sw.len;refine⟨h.sw.trans (hx.sw.mono (by omega) hj (by omega)),fun X hX=>h.go X ⟨hx.sw.trans (hX.sw.mono (by omega) (by omega) (by rw[hx.sw.len];omega)),fun k k1 k2=>?_,fun k k1 k2=>?_⟩⟩
 ·rcases Nat.lt_or_ge k (m - i+(j - i)) with q|q
  ·rw[hX.lo k (by omega) (by omega),hx.c _ (by omega) (by omega)]
  ·rcases Nat.lt_or_ge k (m+(j - i)) with r|r
   ·rw[hX.hi k (by omega) r,hx.a _ (by omega) (by omega)];congr 1;omega
   ·omega
 ·rcases Nat.lt_or_ge k (m+(j - i)) with r|r
  ·omega
  ·rw[hX.sw.out (.inr (by omega)),hx.b k (by omega) (by omega)];congr 1;omega
theorem K7.done{a m b i:Nat}{L M X:RL}(h:K7 a m b i i L M)(hi:i<=m)(hx:Xr (m - i) m i (m - i) (m+i) M X):Lf a m b L X:=
 h.go X ⟨hx.sw,fun k k1 k2=>by rw[hx.a k k1 (by omega)],fun k k1 k2=>by rw[hx.b k (by omega) (by omega)];congr 1;omega⟩
theorem Sw.upr{a b c d:Nat}{L M:RL}(h:Sw a b L M)(u:Up L c d)(hd:b<=c):Up M c d:=u.same fun _ h1 _=>h.out (.inr (by omega))
theorem Sw.upl{a b c d:Nat}{L M:RL}(h:Sw a b L M)(u:Up L c d)(hd:d<=a):Up M c d:=u.same fun _ _ h2=>h.out (.inl (by omega))
theorem Up.cut{L:RL}{a b b':Nat}(h:Up L a b)(hb:b'<=b):Up L a b':=fun i j h1 h2 h3=>h i j h1 h2 (by omega)
structure Sr(a b:Nat)(L M:RL):Prop where
 sw:Sw a b L M
 up:Up M a b
theorem Lf.none{a m b:Nat}{L:RL}(h:m=a\/b=m):Lf a m b L L:=⟨.refl,fun k h1 h2=>by congr 1;omega,fun k h1 h2=>by congr 1;omega⟩
end Go.Rl
namespace Go.Proofs.YtioeffnadipbaaaGreatDoor
open Go Go.Dn Go.Rl Go.Proofs
structure OkR(a:dh):Prop where
 s:c9 a
 r:a9 (aM a)=true
 f:jW (aM a)=true
def Xk(a:dh):List AV×List Dn.Obj:=([au a],[])
def X6(a:dh):Out (AV×List Dn.Obj):= .one (.aJ [.ak 0 0 (cW (aM a)).length, .int 0],[.row 3 (ints (cW (aM a)))])
theorem Z5: ∀args st K,aO Xk OkR X6 args st K->aO D3 c9 JY args st K:=by
 rintro args st K ⟨a,h1,h2,h3⟩;refine⟨a,h1,h2.s,?_⟩;simp only[JY,Out.run];rw[h2.r,h2.f];exact h3
noncomputable def BGg(κ:Kp):EB:=EB.calm ⟨EHg κ,eHg κ,mHg κ⟩ [888888]
theorem Wt(κ:Kp)(args:List AV)(st:List Dn.Obj)(K:AV->List Dn.Obj->Prop)(h:aO D3 c9 JY args st K):(BGg κ).E.call 62 args st K:=h
noncomputable def BQo(κ:Kp):EB:=((BGg κ).narrow (Wt κ) Z5).calm [62]
def EB.JB(b:EB)(l:List Nat):EB:=⟨{b.E with quiet:=fun f=>iS f l||b.E.quiet f},⟨b.ok.prog,b.ok.ia,b.ok.call,b.ok.lF,b.ok.loop⟩,⟨b.mono.call,b.mono.loop,b.mono.lF⟩⟩
def EB.inline(b:EB)(l:List Nat):EB:=⟨{b.E with inl:=fun f=>iS f l||b.E.inl f},⟨b.ok.prog,b.ok.ia,b.ok.call,b.ok.lF,b.ok.loop⟩,⟨b.mono.call,b.mono.loop,b.mono.lF⟩⟩
def EB.owns(b:EB)(l:List Nat):EB:=⟨{b.E with own:=fun f=>iS f l||b.E.own f},⟨b.ok.prog,b.ok.ia,b.ok.call,b.ok.lF,b.ok.loop⟩,⟨b.mono.call,b.mono.loop,b.mono.lF⟩⟩
noncomputable def BR0(κ:Kp):EB:=EB.owns (EB.inline (EB.JB (BQo κ) [150,149,101,100,54])
 [54,81,57,39])
 [199,190,166,167,128,79,80]
end Go.Proofs.YtioeffnadipbaaaGreatDoor
namespace Go.Proofs.YtioeffnadipbaaaGreatDoor
open Go Go.Dn Go.Rl Go.Proofs
attribute [local irreducible] a7 vc
set_option maxRecDepth 20000
structure eI where
 y:Bool
 n:Int
 s:ByteArray
abbrev eZ(v:eI):AV:= .agg [.bool v.y, .int v.n, .lit (.string v.s)]
def Ey(x:AV):eI:=⟨toBool (af x 0),toInt (af x 1),toStr (af x 2)⟩
theorem yOi(κ:Kp)(a b:Int)(K:AV->List Dn.Obj->Prop):(a7 (BR0 κ).E 12 150 [.int a, .int b] [] K)=(
 aq (decide (a<b)) (K (AV.int (-1)) []) (aq (decide (a>b)) (K (AV.int 1) []) (K (AV.int 0) []))):=by kernel_rfl
def gOi:List AV->Option (Bool×AV)
 |[.lit (.int .i64 a), .lit (.int .i64 b)]=>some (true, .int (yD a b))
 |_=>none
def gOs:List AV->Option (Bool×AV)
 |[.lit (.string a), .lit (.string b)]=>some (true, .int (Be a b))
 |_=>none
theorem pOi(κ:Kp):cj (BR0 κ).E 12 150 gOi:=by
 intro args x hh;unfold gOi at hh;split at hh
 ·rename_i a b
  simp only[an5,ao1,true_and] at hh;subst hh;refine⟨_,rfl,rfl,Eq.mpr (yOi κ a b _) ?_⟩;unfold yD;refine ae.2 ⟨fun h=>by rw[h];rfl,fun h=>ae.2 ⟨fun h2=>?_,fun h2=>?_⟩⟩
  ·rw[h,show decide (b<a)=true from h2];rfl
  ·rw[h,show decide (b<a)=false from h2];rfl
 ·cases hh
noncomputable def BOi(κ:Kp):EB:=(BR0 κ).pure (pOi κ)
theorem yOs(κ:Kp)(a b:ByteArray)(K:AV->List Dn.Obj->Prop):(a7 (BOi κ).E 12 149 [.lit (.string a), .lit (.string b)] [] K)=(
 aq (Op.bytesLess (ByteArray.toList a) (ByteArray.toList b)) (K (AV.int (-1)) []) (aq (!(Op.bytesLess (ByteArray.toList a) (ByteArray.toList b)||
 ByteArray.toList a==ByteArray.toList b)) (K (AV.int 1) []) (K (AV.int 0) []))):=by kernel_rfl
theorem RO{a b:ByteArray}(h:Op.bytesLess a.toList b.toList=false):Op.bytesLess b.toList a.toList= !(a.toList==b.toList):=by
 rw[Go.Proofs.bytesLess_eq,an4] at h;rw[Go.Proofs.bytesLess_eq,Bool.eq_iff_iff];simp only[an2,Bool.not_eq_true',beq_eq_false_iff_ne];refine⟨fun h2 e=>?_,fun h2=>?_⟩
 ·rw[e] at h2;exact List.lt_irrefl _ h2
 ·by_cases h3:b.toList<a.toList
  ·exact h3
  ·exact absurd (List.le_antisymm (List.not_lt.1 h3) (List.not_lt.1 h)) h2
theorem pOs(κ:Kp):cj (BOi κ).E 12 149 gOs:=by
 intro args x hh;unfold gOs at hh;split at hh
 ·rename_i a b
  simp only[an5,ao1,true_and] at hh;subst hh;refine⟨_,rfl,rfl,Eq.mpr (yOs κ a b _) ?_⟩;unfold Be;refine ae.2 ⟨fun h=>by rw[h];rfl,fun h=>?_⟩;rw[h,an7,RO h,Bool.false_or];refine ae.2 ⟨fun h2=>by rw[h2];rfl,fun h2=>by rw[h2];rfl⟩
 ·cases hh
noncomputable def VG(κ:Kp):EB:=(BOi κ).pure (pOs κ)
theorem yVa(κ:Kp)(a b:eI)(K:AV->List Dn.Obj->Prop):(a7 (VG κ).E 12 101 [eZ a,eZ b] [] K)=(
 letI c:=aq a.y (K (AV.int 1) []) (aq b.y (K (AV.int (-1)) []) (K (AV.int (yD a.n b.n)) []))
 aq a.y (aq b.y (K (AV.int (Be a.s b.s)) []) c) c):=by kernel_rfl
theorem Hj(a b:eI)(K:AV->List Dn.Obj->Prop)(ho:K (.int (oV (eZ a) (eZ b))) [])(κ:Kp):a7 (VG κ).E 12 101 [eZ a,eZ b] [] K:=by
 refine Eq.mpr (yVa κ a b K) ?_;obtain⟨ya,na,sa⟩:=a;obtain⟨yb,nb,sb⟩:=b;cases ya<;>cases yb<;>exact ho
def gVa:List AV->Option (Bool×AV)
 |[.agg [.lit (.bool y), .lit (.int .i64 n), .lit (.string s)], .agg [.lit (.bool y'), .lit (.int .i64 n'), .lit (.string s')]]=>some (true, .int (oV (.agg [.bool y, .int n, .lit (.string s)]) (.agg [.bool y', .int n', .lit (.string s')])))
 |_=>none
theorem pVa(κ:Kp):cj (VG κ).E 12 101 gVa:=by
 intro args x hh;unfold gVa at hh;split at hh
 ·simp only[an5,ao1,true_and] at hh
  subst hh;exact⟨_,rfl,rfl,Hj ⟨_,_,_⟩ ⟨_,_,_⟩ _ rfl κ⟩
 ·cases hh
def ab2(x:eI×eI):List AV×List Dn.Obj:=([eZ x.1,eZ x.2],[])
def Y3(x:eI×eI):Out (AV×List Dn.Obj):= .one (.int (oV (eZ x.1) (eZ x.2)),[])
theorem cVa(κ:Kp):bg (VG κ).E 12 101 (aO ab2 (fun _=>True) Y3):=by
 refine aQ ?_;rintro⟨a,b⟩ K _ ho;exact Hj a b K ho κ
noncomputable def BVc(κ:Kp):EB:=(VG κ).call (cVa κ)
theorem ZI(κ:Kp):gy (Pr κ) 101 gVa:=mv (VG κ).ok (VG κ).mono (pVa κ)
noncomputable def Vh(κ:Kp):EB:=(BVc κ).RX (ZI κ)
theorem xCf(κ:Kp)(l m:List AV)(i:Nat)(I:Nat->S->Prop)(n:Nat)(K:Exit->S->Prop):(vc (Vh κ).E 12 100 none 0 (ad (Pr κ).toProgram 100 2) (sp 39 [(0, .ah 72 l),(1, .ah 72 m),(2, .bm 101 []),(11, .ah 72 l),(12, .int l.length),(13, .int i)] []) (bh (Vh κ).E 100 2 0 I n K))=(
 letI a:=AV.int
 letI b:=AV.bool
 letI c:=Int.toNat (↑i:Int)
 letI d:=(↑i:Int)<(↑(l.length):Int)
 aq (decide d) (aW (true&&decide d) (aq (decide ((↑i:Int)>=(↑(m.length):Int))) (K Exit.ret (sp 39 [(6,a 1)] [])) (aW (true&&decide ((↑i:Int)<(↑(m.length):Int))) (∃(e1:eI×eI),letI e:=AV.agg [b e1.1.y,a e1.1.n,AV.str e1.1.s];letI f:=AV.agg [b e1.2.y,a e1.2.n,AV.str e1.2.s];([AV.agg [b (Dn.toBool (af (nth l c) 0)),a (toInt (af (nth l c) 1)),AV.str (toStr (af (nth l c) 2))],AV.agg [b (Dn.toBool (af (nth m c) 0)),a (toInt (af (nth m c) 1)),AV.str (toStr (af (nth m c) 2))]],[])=ab2 e1/\True/\aq (oV e f != (0:Int)) (K Exit.ret (sp 39 [(6,a (oV e f))] [])) (∃(e0:Nat),e0<n/\I e0 (sp 39 [(0,AV.ah 72 l),(1,AV.ah 72 m),(2,AV.bm 101 []),(11,AV.ah 72 l),(12,a (↑(l.length):Int)),(13,a (IntKind.wrap IntKind.i64 ((↑i:Int)+(1:Int))))] [])))))) (K (Exit.exit 0) (sp 39 [(0,AV.ah 72 l),(1,AV.ah 72 m)] []))):=by kernel_rfl
def F7:List AV->List AV->Bool
 |[],_=>true
 |_::_,[]=>false
 |a::l,b::m=>decide (oV a b=0)&&F7 l m
theorem CJ: ∀l m:List AV,F7 l m=true->bC l m=bif decide (l.length<m.length) then -1 else 0
 |[],[],_=>rfl
 |[],_::_,_=>by simp[bC,qi]
 |_::_,[],h=>by simp[F7] at h
 |a::l,b::m,h=>by
  simp only[F7,an3] at h;have:=CJ l m h.2
  simp only[bC,qi] at this⊢;rw[h.1,an9,this];simp
structure ACf where
 l:List AV
 m:List AV
 i:Nat
abbrev Zw(x:ACf):S:=sp 39 [(0, .ah 72 x.l),(1, .ah 72 x.m),(2, .bm 101 []),(11, .ah 72 x.l),(12, .int x.l.length),(13, .int x.i)] []
def Pk(x:ACf):Prop:=x.i<=x.l.length/\x.i<=x.m.length/\x.l.length<=aU
def MN(x:ACf):Out (Exit×S):= .aq (F7 (x.l.drop x.i) (x.m.drop x.i)) (.one (.exit 0,sp 39 [(0, .ah 72 x.l),(1, .ah 72 x.m)] [])) (.one (.ret,sp 39 [(6, .int (bC (x.l.drop x.i) (x.m.drop x.i)))] []))
theorem lCf(κ:Kp):aR (Vh κ).E 12 100 2 (aG 0 Zw Pk MN):=by
 refine aD (fun x=>x.l.length - x.i) ?_;rintro⟨l,m,i⟩ K ⟨h1,h2,h3⟩ ho;simp only[aU] at h1 h2 h3;rw[show(Vh κ).E.P=Pr κ from rfl];refine Eq.mpr (xCf κ l m i _ _ K) ?_;simp only[MN,Out.run,ae] at ho;simp only[Int.toNat_natCast];rw[ae,an2,an4];refine⟨fun h=>ai.2 ⟨by simp;omega,ae.2 ⟨fun e=>?_,fun e=>?_⟩⟩,fun h=>?_⟩
 ·have e:m.length<=i:=by simpa using e
  rw[ao0 e,ao3 (show i<l.length by omega)] at ho;exact ho.2 rfl
 ·have e:i<m.length:=by simpa using e
  rw[ao3 (show i<l.length by omega),←aX l i (by omega),ao3 e,←aX m i e] at ho;simp only[F7,bC,qi] at ho;refine ai.2 ⟨by simp;omega,(Ey (nth l i),Ey (nth m i)),rfl,trivial,?_⟩;rw[show oV (eZ (Ey (nth l i))) (eZ (Ey (nth m i)))=oV (nth l i) (nth m i) from rfl];rw[ae,bne_iff_ne,bne_eq_false_iff_eq];refine⟨fun e2=>?_,fun e2=>?_⟩
  ·rw[an6 e2,Bool.false_and,an7] at ho
   exact ho.2 rfl
  ·rw[an8 e2,ao8,an9] at ho
   rw[az (n:=(i:Int)+1) (by omega) (by omega)];refine⟨_,?_,⟨l,m,i+1⟩,rfl,⟨by simp only;omega,e,by simpa[aU] using h3⟩,rfl,?_⟩
   ·simp only;omega
   ·simp only[MN,Out.run,ae]
    exact ho
 ·rw[ao0 (show l.length<=i by omega)] at ho
  exact ho.1 rfl
noncomputable def BCf(κ:Kp):EB:=(Vh κ).loop (lCf κ)
theorem yCf(κ:Kp)(l m:List AV)(K:AV->List Dn.Obj->Prop):(a7 (BCf κ).E 12 100 [.ah 72 l, .ah 72 m, .bm 101 []] [] K)=(
 letI a:=AV.int
 letI b:=Pg.toProgram (Env.P (EB.E (Vh κ)))
 ad b 100 2=ad b 100 2/\∃(e0:ACf),sp 39 [(0,AV.ah 72 l),(1,AV.ah 72 m),(2,AV.bm 101 []),(11,AV.ah 72 l),(12,a (↑(l.length):Int)),(13,
 a 0)] []=Zw e0/\Pk e0/\aq (F7 (List.drop e0.i e0.l) (List.drop e0.i e0.m)) (aq (decide ((↑(e0.l.length):Int)<(↑(e0.m.length):Int))) (K (a
 (-1)) []) (K (a 0) [])) (K (a (bC (List.drop e0.i e0.l) (List.drop e0.i e0.m))) [])):=by kernel_rfl
def gCf:List AV->Option (Bool×AV)
 |[.ah 72 l, .ah 72 m, .bm 101 []]=>some (decide (l.length<=aU), .int (bC l m))
 |_=>none
theorem pCf(κ:Kp):cj (BCf κ).E 12 100 gCf:=by
 intro args x hh;unfold gCf at hh;split at hh
 ·rename_i l m
  simp only[an5,ao1,an2] at hh;obtain⟨h1,rfl⟩:=hh;refine⟨_,rfl,rfl,Eq.mpr (yCf κ l m _) ?_⟩;refine⟨rfl,⟨l,m,0⟩,rfl,⟨Nat.zero_le _,Nat.zero_le _,h1⟩,?_⟩;simp only[ao2,ae];refine⟨fun e=>?_,fun e=>trivial⟩;rw[CJ l m e];refine⟨fun h=>?_,fun h=>?_⟩
  ·rw[show decide (l.length<m.length)=true by simpa using h];rfl
  ·rw[show decide (l.length<m.length)=false by simpa using h];rfl
 ·cases hh
noncomputable def BCg(κ:Kp):EB:=(BCf κ).pure (pCf κ)
theorem yCq(κ:Kp)(l m:List AV)(K:AV->List Dn.Obj->Prop):(a7 (BCg κ).E 12 54 [.ah 72 l, .ah 72 m] [] K)=(
 aW (decide (l.length<=9223372036854775807)) (K (AV.int (bC l m)) [])):=by kernel_rfl
def gCq:List AV->Option (Bool×AV)
 |[.ah 72 l, .ah 72 m]=>some (decide (l.length<=aU), .int (bC l m))
 |_=>none
theorem pCq(κ:Kp):cj (BCg κ).E 12 54 gCq:=by
 intro args x hh;unfold gCq at hh;split at hh
 ·rename_i l m
  simp only[an5,ao1,an2] at hh;obtain⟨h1,rfl⟩:=hh;refine⟨_,rfl,rfl,Eq.mpr (yCq κ l m _) ?_⟩;exact ai.2 ⟨an8 h1,rfl⟩
 ·cases hh
noncomputable def PV(κ:Kp):EB:=(BCg κ).pure (pCq κ)
abbrev rws(L:RL):List AV:=L.map fun r=> .ah 72 r
theorem dU(L:RL):(rws L).length=L.length:=by simp
theorem fQ: ∀(L:RL) (i:Nat),ag (nth (rws L) i)=rat L i
 |[],i=>by cases i<;>rfl
 |r::L,0=>rfl
 |r::L,i+1=>by
  have:=fQ L i
  simpa[nth,rat] using this
theorem vz(r:List AV): ∀(L:RL) (i:Nat),bM (rws L) i (.ah 72 r)=rws (L.set i r)
 |[],i=>by cases i<;>rfl
 |r'::L,0=>rfl
 |r'::L,i+1=>by
  have:=vz r L i
  simpa[bM] using this
def ft(L:RL):Prop:=∀r,r∈L->r.length<=aU
theorem kD{L:RL}(h:ft L)(i:Nat):(rat L i).length<=aU:=by
 unfold rat;rw[List.getD_eq_getElem?_getD];cases e:L[i]? with
 |none=>exact Nat.zero_le _
 |some r=>exact h r (List.mem_of_getElem? e)
theorem fk{L M:RL}(h:ft L)(p:M.Perm L):ft M:=fun r hr=>h r (p.mem_iff.1 hr)
abbrev oG:AV:= .bm 54 []
abbrev jO(L:RL):Dn.Obj:= .row 70 (rws L)
theorem vm(L:RL)(i j:Nat):bM (bM (rws L) i (.ah 72 (ag (nth (rws L) j)))) j (.ah 72 (ag (nth (rws L) i)))=rws (swp L i j):=by
 rw[fQ,fQ,vz,vz];rfl
theorem xSr(κ:Kp)(L:RL)(a b n i:Nat)(I:Nat->S->Prop)(m:Nat)(K:Exit->S->Prop):(vc (PV κ).E 12 199 none 1 (ad (Pr κ).toProgram 199 1) (sp 38 [(0, .ak 0 0 L.length),(1, .int a),(2, .int b),(3, .int n),(10, .int i)] [jO L]) (bh (PV κ).E 199 1 1 I m K))=(
 letI c:=IntKind.wrap IntKind.i64
 letI d:=(↑a:Int)+(↑i:Int)
 letI f:=decide ((0:Int)<=c d)&&decide (c d<(↑(L.length):Int))
 letI e:=(↑b:Int)+(↑i:Int)
 letI g:=decide ((0:Int)<=c e)&&decide (c e<(↑(L.length):Int))
 letI h:=c d
 letI j:=c e
 aq (decide ((↑i:Int)<(↑n:Int))) (aW g (aW f (aW f (aW g (∃(e0:Nat),e0<m/\I e0 (sp 38 [(0,AV.ak 0 0 L.length),(1,AV.int (↑a:Int)),(2,
 AV.int (↑b:Int)),(3,AV.int (↑n:Int)),(10,AV.int (c ((↑i:Int)+(1:Int))))] [Obj.row 70 (bM (bM (rws L) (0+Int.toNat h)
 (AV.ah 72 (ag (nth (rws L) (0+Int.toNat j))))) (0+Int.toNat j) (AV.ah 72 (ag (nth (rws L) (0+Int.toNat h)))))])))))) (K (Exit.exit 0) (sp 38 []
 [Obj.row 70 (rws L)]))):=by kernel_rfl
structure ASr where
 L0:RL
 L:RL
 a:Nat
 b:Nat
 n:Nat
 i:Nat
abbrev Wk(x:ASr):S:=sp 38 [(0, .ak 0 0 x.L.length),(1, .int x.a),(2, .int x.b),(3, .int x.n),(10, .int x.i)] [jO x.L]
def aa0(x:ASr):Prop:=Xr x.a x.b x.i x.a (x.b+x.n) x.L0 x.L/\x.i<=x.n/\x.a+x.n<=x.b/\x.b+x.n<=x.L.length/\x.L.length<=aU
def Xg(x:ASr):Out (Exit×S):= .all (fun M=>Xr x.a x.b x.n x.a (x.b+x.n) x.L0 M) fun M=> .one (.exit 0,sp 38 [] [jO M])
theorem lSr(κ:Kp):aR (PV κ).E 12 199 1 (aG 1 Wk aa0 Xg):=by
 refine aD (fun x=>x.n - x.i) ?_;rintro⟨L0,L,a,b,n,i⟩ K ⟨h1,h2,h3,h4,h5⟩ ho;simp only[aU] at h1 h2 h3 h4 h5;rw[show(PV κ).E.P=Pr κ from rfl];refine Eq.mpr (xSr κ L a b n i _ _ K) ?_;have hl:=h1.sw.len;rw[ae,an2,an4];refine⟨fun h=>?_,fun h=>?_⟩
 ·rw[az (n:=(b:Int)+i) (by omega) (by omega),az (n:=(a:Int)+i) (by omega) (by omega),az (n:=(i:Int)+1) (by omega) (by omega)]
  have e1:(decide (0<=(b:Int)+i)&&decide ((b:Int)+i<L.length))=true:=by simp;omega
  have e2:(decide (0<=(a:Int)+i)&&decide ((a:Int)+i<L.length))=true:=by simp;omega
  refine ai.2 ⟨e1,ai.2 ⟨e2,ai.2 ⟨e2,ai.2 ⟨e1,_,?_,⟨L0,swp L (a+i) (b+i),a,b,n,i+1⟩,?_,⟨h1.step (n:=n) (by omega) (Nat.le_refl _) h3 (Nat.le_refl _) (by omega),by simp only;omega,h3,by rw[mV];exact h4,by rw[mV];exact h5⟩,rfl,ho⟩⟩⟩⟩
  ·simp only;omega
  ·rw[show 0+((a:Int)+i).toNat=a+i by omega,show 0+((b:Int)+i).toNat=b+i by omega,vm]
   simp only[Wk,mV];rfl
 ·obtain rfl:i=n:=by omega
  exact ho L h1
noncomputable def U9(κ:Kp):EB:=(PV κ).loop (lSr κ)
theorem ySr(κ:Kp)(L:RL)(a b n:Nat)(K:AV->List Dn.Obj->Prop):(a7 (U9 κ).E 12 199 [.ak 0 0 L.length, .int a, .int b, .int n,oG] [jO L] K)=(
 letI c:=Pg.toProgram (Env.P (EB.E (PV κ)))
 ad c 199 1=ad c 199 1/\∃(e1:ASr),sp 38 [(0,AV.ak 0 0 L.length),(1,AV.int (↑a:Int)),(2,AV.int (↑b:Int)),(3,AV.int (↑n:Int)),(10,AV.int
 0)] [Obj.row 70 (rws L)]=Wk e1/\aa0 e1/\∀(e0:RL),Xr e1.a e1.b e1.n e1.a (e1.b+e1.n) e1.L0 e0->K (AV.aJ []) [Obj.row 70 (rws e0)]):=by kernel_rfl
structure Lw where
 L:RL
 a:Nat
 b:Nat
 n:Nat
def Qw(x:Lw):List AV×List Dn.Obj:=([.ak 0 0 x.L.length, .int x.a, .int x.b, .int x.n,oG],[jO x.L])
def Cg(x:Lw):Prop:=x.a+x.n<=x.b/\x.b+x.n<=x.L.length/\x.L.length<=aU
def XG(x:Lw):Out (AV×List Dn.Obj):= .all (fun M=>Xr x.a x.b x.n x.a (x.b+x.n) x.L M) fun M=> .one (.aJ [],[jO M])
theorem cSr(κ:Kp):bg (U9 κ).E 12 199 (aO Qw Cg XG):=by
 refine aQ ?_;rintro⟨L,a,b,n⟩ K ⟨h1,h2,h3⟩ ho;exact Eq.mpr (ySr κ L a b n K) ⟨rfl,⟨L,L,a,b,n,0⟩,rfl,⟨.start _ _ _ _ _,Nat.zero_le _,h1,h2,h3⟩,ho⟩
noncomputable def GV(κ:Kp):EB:=(U9 κ).call (cSr κ)
theorem xRo(κ:Kp)(L:RL)(m i j:Nat)(I:Nat->S->Prop)(n:Nat)(K:Exit->S->Prop):(vc (GV κ).E 12 190 none 1 (ad (Pr κ).toProgram 190 2) (sp 58 [(0, .ak 0 0 L.length),(2, .int m),(4,oG),(10, .int i),(11, .int j)] [jO L]) (bh (GV κ).E 190 2 1 I n K))=(
 letI a:=IntKind.wrap IntKind.i64
 letI b:=AV.int
 letI c:=Obj.row
 letI d:=a ((↑m:Int) - (↑i:Int))
 aq ((↑i:Int) != (↑j:Int)) (aq (decide ((↑i:Int)>(↑j:Int))) (∃(e2:Lw),([AV.ak 0 0 L.length,b d,b (↑m:Int),b (↑j:Int),AV.bm
 54 []],[c 70 (rws L)])=Qw e2/\Cg e2/\∀(e1:RL),Xr e2.a e2.b e2.n e2.a (e2.b+e2.n) e2.L e1->∃(e0:Nat),e0<n/\I e0 (sp 58 [(0,AV.ak 0 0
 L.length),(2,b (↑m:Int)),(4,AV.bm 54 []),(10,b (a ((↑i:Int) - (↑j:Int)))),(11,b (↑j:Int))] [c 70
 (rws e1)])) (∃(e2:Lw),([AV.ak 0 0 L.length,b d,b (a (a ((↑m:Int)+(↑j:Int)) - (↑i:Int))),
 b (↑i:Int),AV.bm 54 []],[c 70 (rws L)])=Qw e2/\Cg e2/\∀(e1:RL),Xr e2.a e2.b e2.n e2.a (e2.b+e2.n) e2.L e1->∃(e0:Nat),e0<n/\I e0
 (sp 58 [(0,AV.ak 0 0 L.length),(2,b (↑m:Int)),(4,AV.bm 54 []),(10,b (↑i:Int)),(11,b (a ((↑j:Int) - (↑i:
 Int))))] [c 70 (rws e1)]))) (K (Exit.exit 0) (sp 58 [(0,AV.ak 0 0 L.length),(2,b (↑m:Int)),(4,AV.bm 54 []),(10,b (↑i:Int))] [c
 70 (rws L)]))):=by kernel_rfl
structure ARo where
 L0:RL
 L:RL
 a:Nat
 m:Nat
 b:Nat
 i:Nat
 j:Nat
abbrev XJ(x:ARo):S:=sp 58 [(0, .ak 0 0 x.L.length),(2, .int x.m),(4,oG),(10, .int x.i),(11, .int x.j)] [jO x.L]
def Zp(x:ARo):Prop:=K7 x.a x.m x.b x.i x.j x.L0 x.L/\(0<x.i/\x.a<=x.m - x.i/\x.i<=x.m)/\(0<x.j/\x.m+x.j<=x.b)/\x.b<=x.L0.length/\x.L0.length<=aU
def XZ(x:ARo):Out (Exit×S):= .all (fun r:Nat×RL=>K7 x.a x.m x.b r.1 r.1 x.L0 r.2/\(x.a<=x.m - r.1/\r.1<=x.m)/\x.m+r.1<=x.b) fun r=> .one (.exit 0,sp 58 [(0, .ak 0 0 r.2.length),(2, .int x.m),(4,oG),(10, .int r.1)] [jO r.2])
theorem lRo(κ:Kp):aR (GV κ).E 12 190 2 (aG 1 XJ Zp XZ):=by
 refine aD (fun x=>x.i+x.j) ?_;rintro⟨L0,L,a,m,b,i,j⟩ K ⟨h1,h2,h3,h4,h5⟩ ho;simp only[aU] at h1 h2 h3 h4 h5;rw[show(GV κ).E.P=Pr κ from rfl];refine Eq.mpr (xRo κ L m i j _ _ K) ?_;have hl:=h1.sw.len;rw[ae,bne_iff_ne,bne_eq_false_iff_eq];refine⟨fun h=>ae.2 ⟨fun e=>?_,fun e=>?_⟩,fun h=>?_⟩
 ·have e:j<i:=by simpa using e
  rw[az (n:=(m:Int) - i) (by omega) (by omega),az (n:=(i:Int) - j) (by omega) (by omega),show(m:Int) - i=(m - i:Nat) by omega,show(i:Int) - j=(i - j:Nat) by omega];refine⟨⟨L,m - i,m,j⟩,rfl,⟨by simp only;omega,by simp only;omega,by simp only[aU];omega⟩,fun M hM=>?_⟩;have hd:=h1.down h2.2 h3.2 h4 e hM;refine⟨_,?_,⟨L0,M,a,m,b,i - j,j⟩,by rw[←hM.sw.len],⟨hd,by simp only;omega,h3,h4,by simpa[aU] using h5⟩,rfl,ho⟩;simp only;omega
 ·have e:i<j:=by
   have:i<=j:=by simpa using e
   omega
  rw[az (n:=(m:Int) - i) (by omega) (by omega),az (n:=(m:Int)+j) (by omega) (by omega),az (n:=(m:Int)+j - i) (by omega) (by omega),az (n:=(j:Int) - i) (by omega) (by omega),show(m:Int) - i=(m - i:Nat) by omega,show(m:Int)+j - i=(m+j - i:Nat) by omega,show(j:Int) - i=(j - i:Nat) by omega];refine⟨⟨L,m - i,m+j - i,i⟩,rfl,⟨by simp only;omega,by simp only;omega,by simp only[aU];omega⟩,fun M hM=>?_⟩;simp only[show m+j - i+i=m+j by omega] at hM;have hd:=h1.up h2.2 h3.2 h4 e hM;refine⟨_,?_,⟨L0,M,a,m,b,i,j - i⟩,by rw[←hM.sw.len],⟨hd,h2,by simp only;omega,h4,by simpa[aU] using h5⟩,rfl,ho⟩;simp only;omega
 ·obtain rfl:i=j:=by omega
  exact ho (i,L) ⟨h1,h2.2,h3.2⟩
noncomputable def BRo(κ:Kp):EB:=(GV κ).loop (lRo κ)
theorem yRo(κ:Kp)(L:RL)(a m b:Nat)(K:AV->List Dn.Obj->Prop):(a7 (BRo κ).E 12 190 [.ak 0 0 L.length, .int a, .int m, .int b,oG] [jO L] K)=(
 letI c:=IntKind.wrap IntKind.i64
 letI d:=AV.int
 letI e:=Pg.toProgram (Env.P (EB.E (GV κ)))
 ad e 190 2=ad e 190 2/\∃(e3:ARo),sp 58 [(0,AV.ak 0 0 L.length),(2,d (↑m:Int)),(4,AV.bm 54 []),(10,d (c ((↑m:
 Int) - (↑a:Int)))),(11,d (c ((↑b:Int) - (↑m:Int))))] [Obj.row 70 (rws L)]=XJ e3/\Zp e3/\∀(e2:Nat×RL),K7 e3.a e3.m
 e3.b e2.1 e2.1 e3.L0 e2.2/\(e3.a<=e3.m - e2.1/\e2.1<=e3.m)/\e3.m+e2.1<=e3.b->∃(e1:Lw),([AV.ak 0 0 e2.2.length,d (c
 ((↑(e3.m):Int) - (↑(e2.1):Int))),d (↑(e3.m):Int),d (↑(e2.1):Int),AV.bm 54 []],[Obj.row 70 (rws e2.2)])=Qw e1/\Cg e1/\∀(e0:RL),Xr
 e1.a e1.b e1.n e1.a (e1.b+e1.n) e1.L e0->K (AV.aJ []) [Obj.row 70 (rws e0)]):=by kernel_rfl
def Pj(x:Lw):List AV×List Dn.Obj:=([.ak 0 0 x.L.length, .int x.a, .int x.b, .int x.n,oG],[jO x.L])
def Br(x:Lw):Prop:=x.a<x.b/\x.b<x.n/\x.n<=x.L.length/\x.L.length<=aU
def Wh(x:Lw):Out (AV×List Dn.Obj):= .all (fun M=>Lf x.a x.b x.n x.L M) fun M=> .one (.aJ [],[jO M])
theorem cRo(κ:Kp):bg (BRo κ).E 12 190 (aO Pj Br Wh):=by
 refine aQ ?_;rintro⟨L,a,m,b⟩ K ⟨h1,h2,h3,h4⟩ ho;simp only[aU] at h1 h2 h3 h4;refine Eq.mpr (yRo κ L a m b K) ?_;rw[az (n:=(m:Int) - a) (by omega) (by omega),az (n:=(b:Int) - m) (by omega) (by omega),show(m:Int) - a=(m - a:Nat) by omega,show(b:Int) - m=(b - m:Nat) by omega];refine⟨rfl,⟨L,L,a,m,b,m - a,b - m⟩,rfl,⟨.start (Nat.le_of_lt h1) (Nat.le_of_lt h2) L,by simp only;omega,by simp only;omega,h3,by simpa[aU] using h4⟩,fun r ⟨hr,h5,h6⟩=>?_⟩;obtain⟨i,M⟩:=r;simp only at hr h5 h6;have hl:=hr.sw.len;simp only;rw[az (n:=(m:Int) - i) (by omega) (by omega),show(m:Int) - i=(m - i:Nat) by omega];exact⟨⟨M,m - i,m,i⟩,rfl,⟨by simp only;omega,by simp only;omega,by simp only[aU];omega⟩,fun X hX=>ho X (hr.done h5.2 hX)⟩
noncomputable def Wb(κ:Kp):EB:=(BRo κ).call (cRo κ)
theorem xIj(κ:Kp)(L:RL)(a b i j:Nat)(I:Nat->S->Prop)(n:Nat)(K:Exit->S->Prop):(vc (Wb κ).E 12 166 none 1 (ad (Pr κ).toProgram 166 4) (sp 53 [(0, .ak 0 0 L.length),(1, .int a),(2, .int b),(3,oG),(8, .int i),(9, .int j)] [jO L]) (bh (Wb κ).E 166 4 1 I n K))=(
 letI c:=IntKind.wrap IntKind.i64
 letI d:=AV.int
 letI l:=K (Exit.exit 2) (sp 53 [(0,AV.ak 0 0 L.length),(1,d (↑a:Int)),(2,d (↑b:Int)),(3,AV.bm 54 []),(8,d (↑i:Int))] [Obj.row
  70 (rws L)])
 letI e:=true&&decide ((↑j:Int)<(↑(L.length):Int))
 letI f:=ag (nth (rws L) (0+Int.toNat (↑j:Int)))
 letI g:=(↑j:Int) - (1:Int)
 letI h:=decide ((0:Int)<=c g)&&decide (c g<(↑(L.length):Int))
 letI k:=c g
 letI m:=ag (nth (rws L) (0+Int.toNat k))
 aq (decide ((↑j:Int)>(↑a:Int))) (aW e (aW h (aW (decide (List.length f<=9223372036854775807)) (aq (decide (bC f m<(0:Int))) (aW h (aW e (aW e
 (aW h (∃(e0:Nat),e0<n/\I e0 (sp 53 [(0,AV.ak 0 0 L.length),(1,d (↑a:Int)),(2,d (↑b:Int)),(3,AV.bm 54 []),(8,d (↑i:Int)),
 (9,d k)] [Obj.row 70 (bM (bM (rws L) (0+Int.toNat (↑j:Int)) (AV.ah 72 m)) (0+Int.toNat k) (AV.ah 72 f))])))))) l)))) l):=by kernel_rfl
structure AIj where
 L0:RL
 L:RL
 a:Nat
 b:Nat
 i:Nat
 j:Nat
abbrev WH(x:AIj):S:=sp 53 [(0, .ak 0 0 x.L.length),(1, .int x.a),(2, .int x.b),(3,oG),(8, .int x.i),(9, .int x.j)] [jO x.L]
def ZN(x:AIj):Prop:=TF x.a x.i x.j x.L0 x.L/\(x.a<=x.j/\x.j<=x.i)/\x.i<x.L0.length/\x.L0.length<=aU/\ft x.L0
def Xt(x:AIj):Out (Exit×S):= .all (fun M=>Sw x.a (x.i+1) x.L0 M/\Up M x.a (x.i+1)) fun M=> .one (.exit 2,sp 53 [(0, .ak 0 0 M.length),(1, .int x.a),(2, .int x.b),(3,oG),(8, .int x.i)] [jO M])
theorem lIj(κ:Kp):aR (Wb κ).E 12 166 4 (aG 1 WH ZN Xt):=by
 refine aD (fun x=>x.j) ?_;rintro⟨L0,L,a,b,i,j⟩ K ⟨h1,h2,h3,h4,h5⟩ ho;simp only[aU] at h1 h2 h3 h4 h5;rw[show(Wb κ).E.P=Pr κ from rfl];refine Eq.mpr (xIj κ L a b i j _ _ K) ?_;have hl:=h1.sw.len;have hs:=fk h5 h1.sw.perm;rw[ae,an2,an4];refine⟨fun h=>?_,fun h=>?_⟩
 ·rw[az (n:=(j:Int) - 1) (by omega) (by omega)]
  have e1:(true&&decide ((j:Int)<L.length))=true:=by simp;omega
  have e2:(decide (0<=(j:Int) - 1)&&decide ((j:Int) - 1<L.length))=true:=by simp;omega
  rw[show 0+(j:Int).toNat=j by omega,show 0+((j:Int) - 1).toNat=j - 1 by omega,vm,fQ,fQ,show(j:Int) - 1=(j - 1:Nat) by omega];rw[show(j:Int) - 1=(j - 1:Nat) by omega] at e2;refine ai.2 ⟨e1,ai.2 ⟨e2,ai.2 ⟨an8 (kD hs j),ae.2 ⟨fun e=>?_,fun e=>?_⟩⟩⟩⟩
  ·have hc:bC (rat L j) (rat L (j - 1))<0:=by simpa using e
   refine ai.2 ⟨e2,ai.2 ⟨e1,ai.2 ⟨e1,ai.2 ⟨e2,_,?_,⟨L0,swp L j (j - 1),a,b,i,j - 1⟩,?_,⟨h1.step (by omega) h3 hc,by simp only;omega,h3,by simpa[aU] using h4,h5⟩,rfl,ho⟩⟩⟩⟩
   ·simp only;omega
   ·simp only[WH,mV]
  ·have hc:0<=bC (rat L j) (rat L (j - 1)):=by simpa using e
   exact ho L ⟨h1.sw,h1.done h2 fun _=>hc⟩
 ·exact ho L ⟨h1.sw,h1.done h2 fun h6=>absurd h6 (by omega)⟩
noncomputable def VT(κ:Kp):EB:=(Wb κ).loop (lIj κ)
theorem xIs(κ:Kp)(L:RL)(a b i:Nat)(I:Nat->S->Prop)(n:Nat)(K:Exit->S->Prop):(vc (VT κ).E 12 166 none 1 (ad (Pr κ).toProgram 166 1) (sp 53 [(0, .ak 0 0 L.length),(1, .int a),(2, .int b),(3,oG),(8, .int i)] [jO L]) (bh (VT κ).E 166 1 1 I n K))=(
 letI c:=AV.int
 letI d:=Pg.toProgram (Env.P (EB.E (Wb κ)))
 aq (decide ((↑i:Int)<(↑b:Int))) (ad d 166 4=ad d 166 4/\∃(e3:AIj),sp 53 [(0,AV.ak 0 0 L.length),(1,c (↑a:Int)),(2,c (↑b:Int)),
 (3,AV.bm 54 []),(8,c (↑i:Int)),(9,c (↑i:Int))] [Obj.row 70 (rws L)]=WH e3/\ZN e3/\∀(e2:RL),(Sw e3.a (e3.i+1) e3.L0 e2/\∀(e1 e0:
 Nat),e3.a<=e1->e1<e0->e0<e3.i+1->bC (rat e2 e1) (rat e2 e0)<=(0:Int))->∃(e0:Nat),e0<n/\I e0 (sp 53 [(0,AV.ak 0 0 e2.length),(1,c
 (↑(e3.a):Int)),(2,c (↑(e3.b):Int)),(3,AV.bm 54 []),(8,c (IntKind.wrap IntKind.i64 ((↑(e3.i):Int)+(1:Int))))] [Obj.row 70 (rws e2)]))
 (K (Exit.exit 0) (sp 53 [] [Obj.row 70 (rws L)]))):=by kernel_rfl
structure AIs where
 L0:RL
 L:RL
 a:Nat
 b:Nat
 i:Nat
abbrev Ti(x:AIs):S:=sp 53 [(0, .ak 0 0 x.L.length),(1, .int x.a),(2, .int x.b),(3,oG),(8, .int x.i)] [jO x.L]
def ZC(x:AIs):Prop:=Sw x.a x.b x.L0 x.L/\Up x.L x.a x.i/\(x.a<x.i/\(x.i<=x.b\/x.b<=x.a))/\x.b<=x.L0.length/\x.L0.length<=aU/\ft x.L0
def Yh(x:AIs):Out (Exit×S):= .all (fun M=>Sw x.a x.b x.L0 M/\Up M x.a x.b) fun M=> .one (.exit 0,sp 53 [] [jO M])
theorem lIs(κ:Kp):aR (VT κ).E 12 166 1 (aG 1 Ti ZC Yh):=by
 refine aD (fun x=>x.b - x.i) ?_;rintro⟨L0,L,a,b,i⟩ K ⟨h1,h2,h3,h4,h5,h6⟩ ho;simp only[aU] at h1 h2 h3 h4 h5 h6;rw[show(VT κ).E.P=Pr κ from rfl];refine Eq.mpr (xIs κ L a b i _ _ K) ?_;have hl:=h1.len;rw[ae,an2,an4];refine⟨fun h=>?_,fun h=>?_⟩
 ·refine⟨rfl,⟨L,L,a,b,i,i⟩,rfl,⟨.start h2,by simp only;omega,by simp only;omega,by simp only[aU];omega,fk h6 h1.perm⟩,fun M hM=>?_⟩
  obtain⟨m1,m2⟩:Sw a (i+1) L M/\Up M a (i+1):=hM;rw[az (n:=(i:Int)+1) (by omega) (by omega)];refine⟨_,?_,⟨L0,M,a,b,i+1⟩,rfl,⟨h1.trans (m1.mono (Nat.le_refl _) (by omega) (by omega)),m2,by simp only;omega,h4,by simpa[aU] using h5,h6⟩,rfl,ho⟩;simp only;omega
 ·refine ho L ⟨h1,?_⟩
  rcases h3.2 with h7|h7
  ·obtain rfl:i=b:=by omega
   exact h2
  ·exact Up.one L (by simp only;omega)
noncomputable def BIs(κ:Kp):EB:=(VT κ).loop (lIs κ)
theorem yIs(κ:Kp)(L:RL)(a b:Nat)(K:AV->List Dn.Obj->Prop):(a7 (BIs κ).E 12 166 [.ak 0 0 L.length, .int a, .int b,oG] [jO L] K)=(
 letI c:=Pg.toProgram (Env.P (EB.E (VT κ)))
 ad c 166 1=ad c 166 1/\∃(e3:AIs),sp 53 [(0,AV.ak 0 0 L.length),(1,AV.int (↑a:Int)),(2,AV.int (↑b:Int)),(3,AV.bm 54 []),(8,AV.int
 (IntKind.wrap IntKind.i64 ((↑a:Int)+(1:Int))))] [Obj.row 70 (rws L)]=Ti e3/\ZC e3/\∀(e2:RL),(Sw e3.a e3.b e3.L0 e2/\∀(e1 e0:Nat),e3.a<=e1->
 e1<e0->e0<e3.b->bC (rat e2 e1) (rat e2 e0)<=(0:Int))->K (AV.aJ []) [Obj.row 70 (rws e2)]):=by kernel_rfl
structure ZX where
 L:RL
 a:Nat
 b:Nat
def U2(x:ZX):List AV×List Dn.Obj:=([.ak 0 0 x.L.length, .int x.a, .int x.b,oG],[jO x.L])
def Gn(x:ZX):Prop:=x.a<=x.b/\x.b<=x.L.length/\x.L.length<=100000000/\ft x.L
def XY(x:ZX):Out (AV×List Dn.Obj):= .all (fun M=>Sw x.a x.b x.L M/\Up M x.a x.b) fun M=> .one (.aJ [],[jO M])
theorem cIr(κ:Kp):bg (BIs κ).E 12 166 (aO U2 Gn XY):=by
 refine aQ ?_;rintro⟨L,a,b⟩ K ⟨h1,h2,h3,h4⟩ ho;simp only at h1 h2 h3 h4;refine Eq.mpr (yIs κ L a b K) ?_;rw[az (n:=(a:Int)+1) (by omega) (by omega)];exact⟨rfl,⟨L,L,a,b,a+1⟩,rfl,⟨.refl,Up.one L (Nat.le_refl _),by simp only;omega,h2,by simp only[aU];omega,h4⟩,ho⟩
noncomputable def jx(κ:Kp):EB:=(BIs κ).call (cIr κ)
end Go.Proofs.YtioeffnadipbaaaGreatDoor
