import Derived.Test.YtioeffnadipbaaaGreatDoorDnA
import Derived.Sort.Walk0
import Derived.Test.YtioeffnadipbaaaGreatDoorDeM8
import Derived.Test.YtioeffnadipbaaaGreatDoorDoM
namespace Go.Rl
open Go Go.Dn
structure sV{α:Type}(c:α->α->Int):Prop where
 swap: ∀a b,c b a= - c a b
 trans: ∀a b d,c a b<=0->c b d<=0->c a d<=0
theorem sV.self{α:Type}{c:α->α->Int}(h:sV c)(a:α):c a a=0:=by
 have:=h.swap a a;omega
theorem sV.Ls{α:Type}{c:α->α->Int}(h:sV c){a b d:α}(h1:c a b<0)(h2:c b d<=0):c a d<0:=by
 rcases Int.lt_or_le (c a d) 0 with h3|h3
 ·exact h3
 ·have h4:=h.trans b d a h2 (by rw[h.swap a d];omega)
  rw[h.swap a b] at h4;omega
theorem sV.XI{α:Type}{c:α->α->Int}(h:sV c){a b d:α}(h1:c a b<=0)(h2:c b d<0):c a d<0:=by
 rcases Int.lt_or_le (c a d) 0 with h3|h3
 ·exact h3
 ·have h4:=h.trans d a b (by rw[h.swap a d];omega) h1
  rw[h.swap b d] at h4;omega
def oS{α:Type}(c:α->α->Int):List α->List α->Int
 |[],[]=>0
 |[],_::_=> -1
 |_::_,[]=>1
 |a::l,b::m=>bif decide (c a b=0) then oS c l m else c a b
theorem GW{α:Type}{c:α->α->Int}(h:sV c):sV (oS c):=by
 refine⟨?_,?_⟩
 ·intro a
  induction a with
  |nil=>intro b;cases b<;>simp[oS]
  | cons a l ih=>
   intro b
   cases b with
   |nil=>simp[oS]
   |cons b m=>
    simp only[oS]
    have:=h.swap a b
    by_cases e:c a b=0
    ·rw[aa6 e,aa6 (by omega)];exact ih m
    ·rw[aa4 e,aa4 (by omega)];exact this
 ·intro a
  induction a with
  |nil=>intro b d _ _;cases d<;>simp[oS]
  | cons a l ih=>
   intro b d h1 h2
   cases b with
   |nil=>simp[oS] at h1
   | cons b m=>
    cases d with
    |nil=>simp[oS] at h2
    | cons d n=>
     simp only[oS] at h1 h2⊢
     by_cases e1:c a b=0
     ·rw[aa6 e1,aa7] at h1
      by_cases e2:c b d=0
      ·rw[aa6 e2,aa7] at h2
       have e3:c a d=0:=by
        have h3:=h.trans a b d (by omega) (by omega)
        have h4:=h.trans d b a (by rw[h.swap b d];omega) (by rw[h.swap a b];omega)
        rw[h.swap a d] at h4;omega
       rw[aa6 e3];exact ih m n h1 h2
      ·rw[aa4 e2,aa5] at h2
       have:=h.XI (a:=a) (b:=b) (d:=d) (by omega) (by omega)
       rw[aa4 (by omega)]
       simp only[aa5];omega
     ·rw[aa4 e1,aa5] at h1
      have h3:c b d<=0:=by
       by_cases e2:c b d=0
       ·omega
       ·rwa [aa4 e2,aa5] at h2
      have:=h.Ls (a:=a) (b:=b) (d:=d) (by omega) h3
      rw[aa4 (by omega)]
      simp only[aa5];omega
def wI(a b:Int):Int:=bif decide (a<b) then -1 else bif decide (b<a) then 1 else 0
def yP(a b:ByteArray):Int:=bif Op.bytesLess a.toList b.toList then -1 else bif Op.bytesLess b.toList a.toList then 1 else 0
theorem wU:sV wI:=by
 refine⟨fun a b=>?_,fun a b d=>?_⟩<;>unfold wI<;>simp only[Bool.cond_decide]<;>split<;>(try split)<;>(try split)<;>(try split)<;>(try split)<;>(try split)<;>omega
theorem Hu{a b:Int}:wI a b=0↔a=b:=by
 unfold wI;simp only[Bool.cond_decide];split<;>(try split)<;>omega
theorem toList_inj{a b:ByteArray}:a.toList=b.toList↔a=b:=by
 refine⟨fun h=>?_,fun h=>by rw[h]⟩
 rw[ByteArray.toList_eq,ByteArray.toList_eq] at h
 exact ByteArray.ext (Array.toList_inj.1 h)
theorem ly(a b:ByteArray):yP a b=if a.toList<b.toList then -1 else if b.toList<a.toList then 1 else 0:=by
 unfold yP
 rw[Go.Proofs.bytesLess_eq,Go.Proofs.bytesLess_eq]
 simp only[Bool.cond_decide]
theorem xa:sV yP:=by
 refine⟨fun a b=>?_,fun a b d=>?_⟩
 ·rw[ly,ly]
  by_cases h1:a.toList<b.toList
  ·have h2: ¬ b.toList<a.toList:=fun h=>absurd (List.lt_trans h1 h) (List.lt_irrefl _)
   rw[if_pos h1,if_neg h2,if_pos h1];rfl
  ·rw[if_neg h1,if_neg h1];split<;>rfl
 ·rw[ly,ly,ly]
  have le: ∀{x y:ByteArray},(if x.toList<y.toList then(-1:Int) else if y.toList<x.toList then 1 else 0)<=0↔ ¬ y.toList<x.toList:=fun{x y}=>by
   by_cases h1:x.toList<y.toList
   ·have h2: ¬ y.toList<x.toList:=fun h=>absurd (List.lt_trans h1 h) (List.lt_irrefl _)
    simp[h1,h2]
   ·by_cases h2:y.toList<x.toList<;>simp[h1,h2]
  rw[le,le,le]
  intro h1 h2 h3
  exact h1 (List.lt_of_le_of_lt (List.not_lt.1 h2) h3)
theorem Ga{a b:ByteArray}:yP a b=0↔a=b:=by
 rw[ly]
 refine⟨fun h=>?_,fun h=>by subst h;rw[if_neg (List.lt_irrefl _),if_neg (List.lt_irrefl _)]⟩
 by_cases h1:a.toList<b.toList
 ·simp[h1] at h
 ·by_cases h2:b.toList<a.toList
  ·simp[h1,h2] at h
  ·exact toList_inj.1 (List.le_antisymm (List.not_lt.1 h2) (List.not_lt.1 h1))
def nP(a b:AV):Int:=
 bif toBool (af a 0)&&toBool (af b 0) then yP (toStr (af a 2)) (toStr (af b 2)) else bif toBool (af a 0) then 1 else bif toBool (af b 0) then -1 else wI (toInt (af a 1)) (toInt (af b 1))
theorem HC:sV nP:=by
 refine⟨fun a b=>?_,fun a b d=>?_⟩<;>unfold nP
 ·cases toBool (af a 0)<;>cases toBool (af b 0)<;>simp[xa.swap (toStr (af a 2)),wU.swap (toInt (af a 1))]
 ·cases toBool (af a 0)<;>cases toBool (af b 0)<;>cases toBool (af d 0)<;>simp
  ·exact wU.trans _ _ _
  ·exact xa.trans _ _ _
def cw:List AV->List AV->Int:=oS nP
theorem cE:sV cw:=GW HC
abbrev RL:=List (List AV)
def rat(L:RL)(i:Nat):List AV:=L.getD i []
def swp(L:RL)(i j:Nat):RL:=(L.set i (rat L j)).set j (rat L i)
theorem sn{L:RL}{i:Nat}(h:i<L.length):rat L i=L[i]:=by simp[rat,List.getD_eq_getElem?_getD,h]
theorem De(L:RL)(i k:Nat)(x:List AV)(h:i<L.length):rat (L.set i x) k=if i=k then x else rat L k:=by
 simp only[rat,List.getD_eq_getElem?_getD,List.getElem?_set]
 by_cases e:i=k
 ·subst e;simp[h]
 ·simp[e]
theorem mD(L:RL)(i j:Nat):(swp L i j).length=L.length:=by simp[swp]
theorem rV{L:RL}{i j:Nat}(hi:i<L.length)(hj:j<L.length)(k:Nat):rat (swp L i j) k=if j=k then rat L i else if i=k then rat L j else rat L k:=by
 unfold swp
 rw[De _ _ _ _ (by simpa using hj),De _ _ _ _ hi]
theorem Jf{L:RL}{i j:Nat}(hi:i<L.length)(hj:j<L.length):(swp L i j).Perm L:=by
 unfold swp
 rw[sn hi,sn hj]
 exact List.set_set_perm hi hj
inductive Sw (a b:Nat) (L:RL):RL->Prop
 |refl:Sw a b L L
 |swap {M:RL} (h:Sw a b L M) (i j:Nat) (hi:a<=i/\i<b) (hj:a<=j/\j<b) (hb:b<=M.length):Sw a b L (swp M i j)
theorem Sw.len{a b:Nat}{L M:RL}(h:Sw a b L M):M.length=L.length:=by
 induction h with
 |refl=>rfl
 |swap h i j hi hj hb ih=>rw[mD,ih]
theorem Sw.perm{a b:Nat}{L M:RL}(h:Sw a b L M):M.Perm L:=by
 induction h with
 |refl=>exact List.Perm.refl _
 |swap h i j hi hj hb ih=>exact(Jf (by omega) (by omega)).trans ih
theorem Sw.out{a b:Nat}{L M:RL}(h:Sw a b L M){k:Nat}(hk:k<a\/b<=k):rat M k=rat L k:=by
 induction h with
 |refl=>rfl
 |swap h i j hi hj hb ih=>rw[rV (by omega) (by omega),if_neg (by omega),if_neg (by omega),ih]
theorem Sw.Ze{a b:Nat}{L M:RL}(h:Sw a b L M): ∀k,a<=k->k<b->∃x,(a<=x/\x<b)/\rat M k=rat L x:=by
 induction h with
 |refl=>exact fun k h1 h2=>⟨k,⟨h1,h2⟩,rfl⟩
 | swap h i j hi hj hb ih=>
  intro k h1 h2
  rw[rV (by omega) (by omega)]
  split
  ·exact ih i hi.1 hi.2
  ·split
   ·exact ih j hj.1 hj.2
   ·exact ih k h1 h2
theorem Sw.trans{a b:Nat}{L M N:RL}(h:Sw a b L M)(k:Sw a b M N):Sw a b L N:=by
 induction k with
 |refl=>exact h
 |swap _ i j hi hj hb ih=>exact ih.swap i j hi hj hb
theorem Sw.mono{a b a' b':Nat}{L M:RL}(h:Sw a b L M)(ha:a'<=a)(hb:b<=b')(hl:b'<=L.length):Sw a' b' L M:=by
 induction h with
 |refl=>exact .refl
 |swap h i j hi hj hb2 ih=>exact ih.swap i j ⟨by omega,by omega⟩ ⟨by omega,by omega⟩ (by rw[h.len];exact hl)
def Up(L:RL)(a b:Nat):Prop:=∀i j,a<=i->i<j->j<b->cw (rat L i) (rat L j)<=0
theorem Up.le{L:RL}{a b:Nat}(h:Up L a b){i j:Nat}(h1:a<=i)(h2:i<=j)(h3:j<b):cw (rat L i) (rat L j)<=0:=by
 rcases Nat.lt_or_ge i j with e|e
 ·exact h i j h1 e h3
 ·obtain rfl:i=j:=by omega
  rw[cE.self];omega
theorem Up.same{L M:RL}{a b:Nat}(h:Up L a b)(e: ∀k,a<=k->k<b->rat M k=rat L k):Up M a b:=fun i j h1 h2 h3=>by
 rw[e i (by omega) (by omega),e j (by omega) h3];exact h i j h1 h2 h3
theorem Up.one(L:RL){a b:Nat}(h:b<=a+1):Up L a b:=fun i j h1 h2 h3=>by omega
structure HZ(a m b:Nat)(L M:RL):Prop where
 sw:Sw a b L M
 lo: ∀k,a<=k->k<a+(b - m)->rat M k=rat L (k+(m - a))
 hi: ∀k,a+(b - m)<=k->k<b->rat M k=rat L (k - (b - m))
structure Cut(a m b s e:Nat)(L:RL):Prop where
 h1:a<s->e<b->cw (rat L (s - 1)) (rat L e)<=0
 h2:s<m->m<e->cw (rat L (e - 1)) (rat L s)<=0
theorem Bp{a m b s e h:Nat}{L M N:RL}(ha:a<=s/\s<=m/\m<=e/\e<=b)(hh:s+(e - m)=h)(u1:Up L a m)(u2:Up L m b)(hc:Cut a m b s e L)
  (hr:HZ s m e L M) (hn1:Sw a h M N):(∀k,a<=k->k<h->∀j,h<=j->j<b->cw (rat N k) (rat M j)<=0)/\Up M a s/\Up M s h/\Up M h e/\Up M e b:=by
 have lo: ∀k,a<=k->k<s->rat M k=rat L k:=fun k h1 h2=>hr.sw.out (.inl h2)
 have hi: ∀k,e<=k->rat M k=rat L k:=fun k h1=>hr.sw.out (.inr h1)
 have m1: ∀k,s<=k->k<h->rat M k=rat L (k+(m - s)):=fun k h1 h2=>hr.lo k h1 (by omega)
 have m2: ∀k,h<=k->k<e->rat M k=rat L (k - (e - m)):=fun k h1 h2=>hr.hi k (by omega) h2
 refine⟨fun k k1 k2 j j1 j2=>?_,(Up.same (fun i j h1 h2 h3=>u1 i j h1 h2 (by omega)) lo),fun i j h1 h2 h3=>?_,fun i j h1 h2 h3=>?_,(Up.same (fun i j h1 h2 h3=>u2 i j (by omega) h2 h3) (fun k h1 _=>hi k h1))⟩
 ·obtain⟨x,⟨x1,x2⟩,ex⟩:=hn1.Ze k k1 k2
  rw[ex]
  rcases Nat.lt_or_ge x s with p|p
  ·rw[lo x x1 p]
   rcases Nat.lt_or_ge j e with q|q
   ·rw[m2 j j1 q];exact u1.le x1 (by omega) (by omega)
   ·rw[hi j q]
    exact cE.trans _ _ _ (u1.le x1 (show x<=s - 1 by omega) (by omega)) (cE.trans _ _ _ (hc.h1 (by omega) (by omega)) (u2.le (by omega) q j2))
  ·rw[m1 x p x2]
   rcases Nat.lt_or_ge j e with q|q
   ·rw[m2 j j1 q]
    exact cE.trans _ _ _ (u2.le (by omega) (show x+(m - s)<=e - 1 by omega) (by omega)) (cE.trans _ _ _ (hc.h2 (by omega) (by omega)) (u1.le (by omega) (by omega) (by omega)))
   ·rw[hi j q];exact u2.le (by omega) (by omega) j2
 ·rw[m1 i h1 (by omega),m1 j (by omega) h3];exact u2 _ _ (by omega) (by omega) (by omega)
 ·rw[m2 i h1 (by omega),m2 j (by omega) h3];exact u1 _ _ (by omega) (by omega) (by omega)
theorem Nf{a h b:Nat}{M N O:RL}(hx: ∀k,a<=k->k<h->∀j,h<=j->j<b->cw (rat N k) (rat M j)<=0)(h1:Sw a h M N)(n1:Up N a h)(h2:Sw h b N O)(n2:Up O h b):Up O a b:=by
 intro i j k1 k2 k3
 rcases Nat.lt_or_ge j h with q|q
 ·rw[h2.out (.inl (by omega)),h2.out (.inl q)];exact n1 i j k1 k2 q
 ·rcases Nat.lt_or_ge i h with p|p
  ·obtain⟨x,⟨x1,x2⟩,ex⟩:=h2.Ze j q k3
   rw[h2.out (.inl p),ex,h1.out (.inr x1)]
   exact hx i k1 p x x1 x2
  ·exact n2 i j p k2 k3
structure NJ(a i j:Nat)(L M:RL):Prop where
 sw:Sw a (i+1) L M
 up: ∀x y,a<=x->x<y->y<=i->x≠j->y≠j->cw (rat M x) (rat M y)<=0
 be: ∀y,j<y->y<=i->cw (rat M j) (rat M y)<=0
theorem NJ.start{a i:Nat}{L:RL}(u:Up L a i):NJ a i i L L:=⟨.refl,fun x y h1 h2 h3 h4 h5=>u x y h1 h2 (by omega),fun y h1 h2=>by omega⟩
theorem NJ.step{a i j:Nat}{L M:RL}(h:NJ a i j L M)(hj:a<j/\j<=i)(hi:i<L.length)(hc:cw (rat M j) (rat M (j - 1))<0):NJ a i (j - 1) L (swp M j (j - 1)):=by
 have hl:=h.sw.len
 have e: ∀k,rat (swp M j (j - 1)) k=if j - 1=k then rat M j else if j=k then rat M (j - 1) else rat M k:=fun k=>rV (by omega) (by omega) k
 refine⟨h.sw.swap j (j - 1) ⟨by omega,by omega⟩ ⟨by omega,by omega⟩ (by omega),fun x y h1 h2 h3 h4 h5=>?_,fun y h1 h2=>?_⟩
 ·rw[e,e,if_neg (Ne.symm h4),if_neg (Ne.symm h5)]
  by_cases hx:j=x
  ·subst hx
   rw[if_pos rfl,if_neg (by omega)]
   exact h.up _ _ (by omega) (by omega) h3 (by omega) (by omega)
  ·rw[if_neg hx]
   by_cases hy:j=y
   ·subst hy
    rw[if_pos rfl]
    exact h.up _ _ h1 (by omega) (by omega) (by omega) (by omega)
   ·rw[if_neg hy]
    exact h.up _ _ h1 h2 h3 (by omega) (by omega)
 ·rw[e,e,if_pos rfl,if_neg (by omega)]
  by_cases hy:j=y
  ·subst hy;rw[if_pos rfl];omega
  ·rw[if_neg hy];exact h.be y (by omega) h2
theorem NJ.done{a i j:Nat}{L M:RL}(h:NJ a i j L M)(hj:a<=j/\j<=i)(hc:a<j->0<=cw (rat M j) (rat M (j - 1))):Up M a (i+1):=by
 intro x y h1 h2 h3
 by_cases hy:y=j
 ·subst hy
  have h4:cw (rat M (y - 1)) (rat M y)<=0:=by
   have:=hc (by omega)
   rw[cE.swap (rat M y)];omega
  by_cases e:x=y - 1
  ·rw[e];exact h4
  ·exact cE.trans _ _ _ (h.up x (y - 1) h1 (by omega) (by omega) (by omega) (by omega)) h4
 ·by_cases hx:x=j
  ·subst hx;exact h.be y h2 (by omega)
  ·exact h.up x y h1 h2 (by omega) hx hy
structure Fw(a b k:Nat)(L M:RL):Prop where
 sw:Sw a b L M
 me:rat M k=rat L a
 lo: ∀x,a<=x->x<k->rat M x=rat L (x+1)
 hi: ∀x,k<x->rat M x=rat L x
theorem Fw.start(a b:Nat)(L:RL):Fw a b a L L:=⟨.refl,rfl,fun x h1 h2=>by omega,fun _ _=>rfl⟩
theorem Fw.step{a b k:Nat}{L M:RL}(h:Fw a b k L M)(hk:a<=k/\k+1<b)(hb:b<=L.length):Fw a b (k+1) L (swp M k (k+1)):=by
 have hl:=h.sw.len
 have e: ∀x,rat (swp M k (k+1)) x=if k+1=x then rat M k else if k=x then rat M (k+1) else rat M x:=fun x=>rV (by omega) (by omega) x
 refine⟨h.sw.swap k (k+1) ⟨by omega,by omega⟩ ⟨by omega,by omega⟩ (by omega),by rw[e,if_pos rfl,h.me],fun x h1 h2=>?_,fun x h1=>?_⟩
 ·rw[e,if_neg (by omega)]
  by_cases hx:k=x
  ·subst hx;rw[if_pos rfl,h.hi _ (by omega)]
  ·rw[if_neg hx,h.lo x h1 (by omega)]
 ·rw[e,if_neg (by omega),if_neg (by omega),h.hi x (by omega)]
theorem Fw.done{a b i:Nat}{L M:RL}(h:Fw a b (i - 1) L M)(hi:a+1<=i/\i<=b)(u:Up L (a+1) b)(h1:a+1<i->cw (rat L (i - 1)) (rat L a)<=0)(h2:i<b->cw (rat L a) (rat L i)<=0):Up M a b:=by
 intro x y k1 k2 k3
 rcases Nat.lt_trichotomy x (i - 1) with p|p|p
 ·rw[h.lo x k1 p]
  rcases Nat.lt_trichotomy y (i - 1) with q|q|q
  ·rw[h.lo y (by omega) q];exact u _ _ (by omega) (by omega) (by omega)
  ·rw[q,h.me];exact cE.trans _ _ _ (u.le (by omega) (show x+1<=i - 1 by omega) (by omega)) (h1 (by omega))
  ·rw[h.hi y q];exact u.le (by omega) (by omega) k3
 ·subst p
  rw[h.me,h.hi y (by omega)]
  exact cE.trans _ _ _ (h2 (by omega)) (u.le (by omega) (by omega) k3)
 ·rw[h.hi x p,h.hi y (by omega)];exact u x y (by omega) k2 k3
structure Bw(a m k:Nat)(L M:RL):Prop where
 sw:Sw a (m+1) L M
 me:rat M k=rat L m
 hi: ∀x,k<x->x<=m->rat M x=rat L (x - 1)
 lo: ∀x,x<k->rat M x=rat L x
theorem Bw.start(a m:Nat)(L:RL):Bw a m m L L:=⟨.refl,rfl,fun x h1 h2=>by omega,fun _ _=>rfl⟩
theorem Bw.step{a m k:Nat}{L M:RL}(h:Bw a m k L M)(hk:a<k/\k<=m)(hb:m<L.length):Bw a m (k - 1) L (swp M k (k - 1)):=by
 have hl:=h.sw.len
 have e: ∀x,rat (swp M k (k - 1)) x=if k - 1=x then rat M k else if k=x then rat M (k - 1) else rat M x:=fun x=>rV (by omega) (by omega) x
 refine⟨h.sw.swap k (k - 1) ⟨by omega,by omega⟩ ⟨by omega,by omega⟩ (by omega),by rw[e,if_pos rfl,h.me],fun x h1 h2=>?_,fun x h1=>?_⟩
 ·rw[e,if_neg (by omega)]
  by_cases hx:k=x
  ·subst hx;rw[if_pos rfl,h.lo _ (by omega)]
  ·rw[if_neg hx,h.hi x (by omega) h2]
 ·rw[e,if_neg (by omega),if_neg (by omega),h.lo x (by omega)]
theorem Bw.done{a m i:Nat}{L M:RL}(h:Bw a m i L M)(hi:a<=i/\i<=m)(u:Up L a m)(h1:a<i->cw (rat L (i - 1)) (rat L m)<=0)(h2:i<m->cw (rat L m) (rat L i)<=0):Up M a (m+1):=by
 intro x y k1 k2 k3
 rcases Nat.lt_trichotomy y i with p|p|p
 ·rw[h.lo x (by omega),h.lo y p];exact u x y k1 k2 (by omega)
 ·subst p
  rw[h.lo x k2,h.me]
  exact cE.trans _ _ _ (u.le k1 (show x<=y - 1 by omega) (by omega)) (h1 (by omega))
 ·rw[h.hi y p (by omega)]
  rcases Nat.lt_trichotomy x i with q|q|q
  ·rw[h.lo x q];exact u.le k1 (by omega) (by omega)
  ·subst q;rw[h.me];exact cE.trans _ _ _ (h2 (by omega)) (u.le k1 (by omega) (by omega))
  ·rw[h.hi x q (by omega)];exact u _ _ (by omega) (by omega) (by omega)
structure Xr(p q k lo hi:Nat)(L M:RL):Prop where
 sw:Sw lo hi L M
 a: ∀x,p<=x->x<p+k->rat M x=rat L (x+(q - p))
 b: ∀x,q<=x->x<q+k->rat M x=rat L (x - (q - p))
 c: ∀x,¬ (p<=x/\x<p+k)-> ¬ (q<=x/\x<q+k)->rat M x=rat L x
theorem Xr.start(p q lo hi:Nat)(L:RL):Xr p q 0 lo hi L L:=⟨.refl,fun x h1 h2=>by omega,fun x h1 h2=>by omega,fun _ _ _=>rfl⟩
theorem Xr.step{p q k n lo hi:Nat}{L M:RL}(h:Xr p q k lo hi L M)(hk:k<n)(h1:lo<=p)(h2:p+n<=q)(h3:q+n<=hi)(h4:hi<=L.length):Xr p q (k+1) lo hi L (swp M (p+k) (q+k)):=by
 have hl:=h.sw.len
 have e: ∀x,rat (swp M (p+k) (q+k)) x=if q+k=x then rat M (p+k) else if p+k=x then rat M (q+k) else rat M x:=fun x=>rV (by omega) (by omega) x
 refine⟨h.sw.swap _ _ ⟨by omega,by omega⟩ ⟨by omega,by omega⟩ (by omega),fun x k1 k2=>?_,fun x k1 k2=>?_,fun x k1 k2=>?_⟩
 ·rw[e,if_neg (by omega)]
  by_cases hx:p+k=x
  ·rw[if_pos hx,h.c (q+k) (by omega) (by omega)];congr 1;omega
  ·rw[if_neg hx,h.a x k1 (by omega)]
 ·rw[e]
  by_cases hx:q+k=x
  ·rw[if_pos hx,h.c (p+k) (by omega) (by omega)];congr 1;omega
  ·rw[if_neg hx,if_neg (by omega),h.b x k1 (by omega)]
 ·rw[e,if_neg (by omega),if_neg (by omega),h.c x (by omega) (by omega)]
theorem Xr.mono{p q k lo hi lo' hi':Nat}{L M:RL}(h:Xr p q k lo hi L M)(h1:lo'<=lo)(h2:hi<=hi')(h3:hi'<=L.length):Xr p q k lo' hi' L M:=⟨h.sw.mono h1 h2 h3,h.a,h.b,h.c⟩
structure Hc(a m b i j:Nat)(L M:RL):Prop where
 sw:Sw a b L M
 go: ∀X,HZ (m - i) m (m+j) M X->HZ a m b L X
theorem Hc.start{a m b:Nat}(h1:a<=m)(h2:m<=b)(L:RL):Hc a m b (m - a) (b - m) L L:=⟨.refl,fun X h=>by rwa [show m - (m - a)=a by omega,show m+(b - m)=b by omega] at h⟩
theorem Hc.down{a m b i j:Nat}{L M N:RL}(h:Hc a m b i j L M)(hi:a<=m - i/\i<=m)(hj:m+j<=b)(hb:b<=L.length)(hij:j<i)(hx:Xr (m - i) m j (m - i) (m+j) M N):Hc a m b (i - j) j L N:=by
 have hl:=h.sw.len
 refine⟨h.sw.trans (hx.sw.mono (by omega) hj (by omega)),fun X hX=>h.go X ⟨hx.sw.trans (hX.sw.mono (by omega) (Nat.le_refl _) (by rw[hx.sw.len];omega)),fun k k1 k2=>?_,fun k k1 k2=>?_⟩⟩
 ·rw[hX.sw.out (.inl (by omega)),hx.a k k1 (by omega)]
 ·rcases Nat.lt_or_ge k (m - (i - j)+j) with q|q
  ·rw[hX.lo k (by omega) (by omega),hx.b _ (by omega) (by omega)];congr 1;omega
  ·rw[hX.hi k (by omega) k2,hx.c _ (by omega) (by omega)]
theorem Hc.up{a m b i j:Nat}{L M N:RL}(h:Hc a m b i j L M)(hi:a<=m - i/\i<=m)(hj:m+j<=b)(hb:b<=L.length)(hij:i<j)(hx:Xr (m - i) (m+j - i) i (m - i) (m+j) M N):Hc a m b i (j - i) L N:=by
 have hl:=h.sw.len
 refine⟨h.sw.trans (hx.sw.mono (by omega) hj (by omega)),fun X hX=>h.go X ⟨hx.sw.trans (hX.sw.mono (by omega) (by omega) (by rw[hx.sw.len];omega)),fun k k1 k2=>?_,fun k k1 k2=>?_⟩⟩
 ·rcases Nat.lt_or_ge k (m - i+(j - i)) with q|q
  ·rw[hX.lo k (by omega) (by omega),hx.c _ (by omega) (by omega)]
  ·rcases Nat.lt_or_ge k (m+(j - i)) with r|r
   ·rw[hX.hi k (by omega) r,hx.a _ (by omega) (by omega)];congr 1;omega
   ·omega
 ·rcases Nat.lt_or_ge k (m+(j - i)) with r|r
  ·omega
  ·rw[hX.sw.out (.inr (by omega)),hx.b k (by omega) (by omega)];congr 1;omega
theorem Hc.done{a m b i:Nat}{L M X:RL}(h:Hc a m b i i L M)(hi:i<=m)(hx:Xr (m - i) m i (m - i) (m+i) M X):HZ a m b L X:=
 h.go X ⟨hx.sw,fun k k1 k2=>by rw[hx.a k k1 (by omega)],fun k k1 k2=>by rw[hx.b k (by omega) (by omega)];congr 1;omega⟩
theorem Sw.UY{a b c d:Nat}{L M:RL}(h:Sw a b L M)(u:Up L c d)(hd:b<=c):Up M c d:=u.same fun _ h1 _=>h.out (.inr (by omega))
theorem Sw.Yw{a b c d:Nat}{L M:RL}(h:Sw a b L M)(u:Up L c d)(hd:d<=a):Up M c d:=u.same fun _ _ h2=>h.out (.inl (by omega))
theorem Up.cut{L:RL}{a b b':Nat}(h:Up L a b)(hb:b'<=b):Up L a b':=fun i j h1 h2 h3=>h i j h1 h2 (by omega)
structure Sr(a b:Nat)(L M:RL):Prop where
 sw:Sw a b L M
 up:Up M a b
theorem HZ.none{a m b:Nat}{L:RL}(h:m=a\/b=m):HZ a m b L L:=⟨.refl,fun k h1 h2=>by congr 1;omega,fun k h1 h2=>by congr 1;omega⟩
end Go.Rl
namespace Go.Proofs.YtioeffnadipbaaaGreatDoor
open Go Go.Dn Go.Rl Go.Proofs
def SS.all(s:SS):List Int:=s.dS++s.cg++s.ck
structure SS.HS(s:SS):Prop where
 c:s.dS.length=s.cx.length
 b:s.cg.length=s.binds.length
 e:s.ck.length=s.eqs.length
theorem GK{bd:List AV}{s:SS}(h:s.HS)(e:Int×AT):(mS bd s e).HS:=by
 obtain⟨h1,h2,h3⟩:=h
 unfold mS
 cases !wx bd e.2 with
 |true=>exact⟨by simp[h1],h2,h3⟩
 |false=>cases kD e.2.s (strs s.binds) with
  |true=>exact⟨h1,h2,by simp[h3]⟩
  |false=>exact⟨h1,by simp[h2],h3⟩
theorem IU(bd:List AV)(s:SS)(e:Int×AT):(mS bd s e).all.Perm (s.all++[e.1]):=by
 unfold mS SS.all
 cases !wx bd e.2 with
 |true=>
  simp only[aa7,List.append_assoc]
  exact List.Perm.append_left _ (List.perm_append_comm.trans (by simp))
 | false=>cases kD e.2.s (strs s.binds) with
  |true=>simp only[aa7,aa5,List.append_assoc];exact List.Perm.refl _
  |false=>
   simp only[aa5,List.append_assoc]
   exact List.Perm.append_left _ (List.Perm.append_left _ List.perm_append_comm)
theorem Fl{bd:List AV}: ∀(l:List (Int×AT)) {s:SS},s.HS->(l.foldl (mS bd) s).HS
 |[],_,h=>h
 |e::l,s,h=>Fl l (GK h e)
theorem CC(bd:List AV): ∀(l:List (Int×AT)) (s:SS),(l.foldl (mS bd) s).all.Perm (s.all++l.map (·.1))
 |[],s=>by simp
 |e::l,s=>by
  rw[List.foldl_cons]
  refine(CC bd l _).trans (((IU bd s e).append_right _).trans ?_)
  simp
theorem Bd: ∀(l:List AV) (i:Int),((dt l i).map (·.1)).Nodup/\∀x,x∈(dt l i).map (·.1)->i<=x/\x<i+l.length
 |[],i=>⟨List.nodup_nil,fun x h=>nomatch h⟩
 | t::l,i=>by
  obtain⟨h1,h2⟩:=Bd l (i+1)
  rw[dt]
  cases decide (toInt (af t 0)=4) with
  |true=>
   rw[aa7]
   exact⟨h1,fun x hx=>by have:=h2 x hx;simp only[List.length_cons];omega⟩
  | false=>
   rw[aa5,ac0]
   refine⟨List.nodup_cons.2 ⟨fun h=>?_,h1⟩,fun x hx=>?_⟩
   ·have:=h2 _ h;simp only at this;omega
   ·rcases List.mem_cons.1 hx with rfl|hx
    ·simp only[List.length_cons];omega
    ·have:=h2 x hx;simp only[List.length_cons];omega
theorem MZ(bd l:List AV):(fA bd (dt l 0)).HS/\(fA bd (dt l 0)).all.Nodup/\∀x,x∈(fA bd (dt l 0)).all->0<=x/\x<l.length:=by
 have h:=CC bd (dt l 0) HO
 obtain⟨h1,h2⟩:=Bd l 0
 have h3:(fA bd (dt l 0)).all.Perm ((dt l 0).map (·.1)):=h
 refine⟨Fl _ ⟨rfl,rfl,rfl⟩,h3.nodup_iff.2 h1,fun x hx=>?_⟩
 have:=h2 x (h3.mem_iff.1 hx)
 omega
def EB.Ml(b:EB)(l:List Nat):EB:=⟨{b.E with quiet:=fun f=>gL f l||b.E.quiet f},⟨b.ok.prog,b.ok.fu,b.ok.call,b.ok.kW,b.ok.loop⟩,⟨b.mono.call,b.mono.loop,b.mono.kW⟩⟩
def EB.inline(b:EB)(l:List Nat):EB:=⟨{b.E with inl:=fun f=>gL f l||b.E.inl f},⟨b.ok.prog,b.ok.fu,b.ok.call,b.ok.kW,b.ok.loop⟩,⟨b.mono.call,b.mono.loop,b.mono.kW⟩⟩
def EB.owns(b:EB)(l:List Nat):EB:=⟨{b.E with own:=fun f=>gL f l||b.E.own f},⟨b.ok.prog,b.ok.fu,b.ok.call,b.ok.kW,b.ok.loop⟩,⟨b.mono.call,b.mono.loop,b.mono.kW⟩⟩
noncomputable def PE(κ:Kp):EB:=EB.owns (EB.inline (EB.Ml (BQo κ) [150,149,101,100,54])
 [54,81,57,39])
 [199,190,166,167,128,79,80]
end Go.Proofs.YtioeffnadipbaaaGreatDoor
namespace Go.Proofs.YtioeffnadipbaaaGreatDoor
open Go Go.Dn Go.Rl Go.Proofs
attribute [local irreducible] ba vc
set_option maxRecDepth 20000
structure mI where
 y:Bool
 n:Int
 s:ByteArray
abbrev wM(v:mI):AV:= .agg [.bool v.y, .int v.n, .lit (.string v.s)]
def H0(x:AV):mI:=⟨toBool (af x 0),toInt (af x 1),toStr (af x 2)⟩
theorem yOi(κ:Kp)(a b:Int)(K:AV->List Dn.Obj->Prop):(ba (PE κ).E 12 150 [.int a, .int b] [] K)=(
 aw (decide (a<b)) (K (AV.int (-1)) []) (aw (decide (a>b)) (K (AV.int 1) []) (K (AV.int 0) []))):=by kernel_rfl
def YQ:List AV->Option (Bool×AV)
 |[.lit (.int .i64 a), .lit (.int .i64 b)]=>some (true, .int (wI a b))
 |_=>none
def Yz:List AV->Option (Bool×AV)
 |[.lit (.string a), .lit (.string b)]=>some (true, .int (yP a b))
 |_=>none
theorem pOi(κ:Kp):cj (PE κ).E 12 150 YQ:=by
 intro args x hh
 unfold YQ at hh
 split at hh
 ·rename_i a b
  simp only[aa3,aa9,true_and] at hh
  subst hh
  refine⟨_,rfl,rfl,Eq.mpr (yOi κ a b _) ?_⟩
  unfold wI
  refine ae.2 ⟨fun h=>by rw[h];rfl,fun h=>ae.2 ⟨fun h2=>?_,fun h2=>?_⟩⟩
  ·rw[h,show decide (b<a)=true from h2];rfl
  ·rw[h,show decide (b<a)=false from h2];rfl
 ·cases hh
noncomputable def WT(κ:Kp):EB:=(PE κ).pure (pOi κ)
theorem yOs(κ:Kp)(a b:ByteArray)(K:AV->List Dn.Obj->Prop):(ba (WT κ).E 12 149 [.lit (.string a), .lit (.string b)] [] K)=(
 aw (Op.bytesLess (ByteArray.toList a) (ByteArray.toList b)) (K (AV.int (-1)) []) (aw (!(Op.bytesLess (ByteArray.toList a) (ByteArray.toList b)||
 ByteArray.toList a==ByteArray.toList b)) (K (AV.int 1) []) (K (AV.int 0) []))):=by kernel_rfl
theorem Mj{a b:ByteArray}(h:Op.bytesLess a.toList b.toList=false):Op.bytesLess b.toList a.toList= !(a.toList==b.toList):=by
 rw[Go.Proofs.bytesLess_eq,aa2] at h
 rw[Go.Proofs.bytesLess_eq,Bool.eq_iff_iff]
 simp only[aa0,Bool.not_eq_true',beq_eq_false_iff_ne]
 refine⟨fun h2 e=>?_,fun h2=>?_⟩
 ·rw[e] at h2;exact List.lt_irrefl _ h2
 ·by_cases h3:b.toList<a.toList
  ·exact h3
  ·exact absurd (List.le_antisymm (List.not_lt.1 h3) (List.not_lt.1 h)) h2
theorem pOs(κ:Kp):cj (WT κ).E 12 149 Yz:=by
 intro args x hh
 unfold Yz at hh
 split at hh
 ·rename_i a b
  simp only[aa3,aa9,true_and] at hh
  subst hh
  refine⟨_,rfl,rfl,Eq.mpr (yOs κ a b _) ?_⟩
  unfold yP
  refine ae.2 ⟨fun h=>by rw[h];rfl,fun h=>?_⟩
  rw[h,aa5,Mj h,Bool.false_or]
  refine ae.2 ⟨fun h2=>by rw[h2];rfl,fun h2=>by rw[h2];rfl⟩
 ·cases hh
noncomputable def O6(κ:Kp):EB:=(WT κ).pure (pOs κ)
theorem yVa(κ:Kp)(a b:mI)(K:AV->List Dn.Obj->Prop):(ba (O6 κ).E 12 101 [wM a,wM b] [] K)=(
 letI z1:=aw a.y (K (AV.int 1) []) (aw b.y (K (AV.int (-1)) []) (K (AV.int (wI a.n b.n)) []))
 aw a.y (aw b.y (K (AV.int (yP a.s b.s)) []) z1) z1):=by kernel_rfl
theorem FX(a b:mI)(K:AV->List Dn.Obj->Prop)(ho:K (.int (nP (wM a) (wM b))) [])(κ:Kp):ba (O6 κ).E 12 101 [wM a,wM b] [] K:=by
 refine Eq.mpr (yVa κ a b K) ?_
 obtain⟨ya,na,sa⟩:=a
 obtain⟨yb,nb,sb⟩:=b
 cases ya<;>cases yb<;>exact ho
def VZ:List AV->Option (Bool×AV)
 |[.agg [.lit (.bool y), .lit (.int .i64 n), .lit (.string s)], .agg [.lit (.bool y'), .lit (.int .i64 n'), .lit (.string s')]]=>some (true, .int (nP (.agg [.bool y, .int n, .lit (.string s)]) (.agg [.bool y', .int n', .lit (.string s')])))
 |_=>none
theorem pVa(κ:Kp):cj (O6 κ).E 12 101 VZ:=by
 intro args x hh
 unfold VZ at hh
 split at hh
 ·simp only[aa3,aa9,true_and] at hh
  subst hh
  exact⟨_,rfl,rfl,FX ⟨_,_,_⟩ ⟨_,_,_⟩ _ rfl κ⟩
 ·cases hh
def RU(x:mI×mI):List AV×List Dn.Obj:=([wM x.1,wM x.2],[])
def TJ(x:mI×mI):Out (AV×List Dn.Obj):= .one (.int (nP (wM x.1) (wM x.2)),[])
theorem cVa(κ:Kp):bG (O6 κ).E 12 101 (a0 RU (fun _=>True) TJ):=by
 refine bc ?_
 rintro⟨a,b⟩ K _ ho
 exact FX a b K ho κ
noncomputable def BVc(κ:Kp):EB:=(O6 κ).call (cVa κ)
theorem TP(κ:Kp):fg (Pr κ) 101 VZ:=kB (O6 κ).ok (O6 κ).mono (pVa κ)
noncomputable def OS(κ:Kp):EB:=(BVc κ).yn (TP κ)
theorem xCf(κ:Kp)(l m:List AV)(i:Nat)(I:Nat->S->Prop)(n:Nat)(K:Exit->S->Prop):(vc (OS κ).E 12 100 none 0 (ag (Pr κ).toProgram 100 2) (sp 39 [(0, .ad 72 l),(1, .ad 72 m),(2, .bq 101 []),(11, .ad 72 l),(12, .int l.length),(13, .int i)] []) (bB (OS κ).E 100 2 0 I n K))=(
 letI z1:=Int.toNat (↑i:Int)
 letI z2:=(↑i:Int)<(↑(l.length):Int)
 aw (decide z2) (aP (true&&decide z2) (aw (decide ((↑i:Int)>=(↑(m.length):Int))) (K Exit.ret (sp 39 [(6,AV.int 1)] [])) (aP (true&&decide ((↑i:Int)<
 (↑(m.length):Int))) (∃(e1:mI×mI),([AV.agg [AV.bool (Dn.toBool (af (nth l z1) 0)),AV.int (toInt (af (nth l z1) 1)),AV.str (toStr (af (nth l z1) 2))],
 AV.agg [AV.bool (Dn.toBool (af (nth m z1) 0)),AV.int (toInt (af (nth m z1) 1)),AV.str (toStr (af (nth m z1) 2))]],[])=RU e1/\True/\aw (nP (AV.agg
 [AV.bool e1.1.y,AV.int e1.1.n,AV.str e1.1.s]) (AV.agg [AV.bool e1.2.y,AV.int e1.2.n,AV.str e1.2.s]) != (0:Int)) (K Exit.ret (sp 39 [(6,AV.int (nP (AV.agg
 [AV.bool e1.1.y,AV.int e1.1.n,AV.str e1.1.s]) (AV.agg [AV.bool e1.2.y,AV.int e1.2.n,AV.str e1.2.s])))] [])) (∃(e0:Nat),e0<n/\I e0 (sp 39 [(0,AV.ad
 72 l),(1,AV.ad 72 m),(2,AV.bq 101 []),(11,AV.ad 72 l),(12,AV.int (↑(l.length):Int)),(13,AV.int (IntKind.wrap IntKind.i64 ((↑i:Int)+(1:Int))))]
 [])))))) (K (Exit.exit 0) (sp 39 [(0,AV.ad 72 l),(1,AV.ad 72 m)] []))):=by kernel_rfl
def Dl:List AV->List AV->Bool
 |[],_=>true
 |_::_,[]=>false
 |a::l,b::m=>decide (nP a b=0)&&Dl l m
theorem A0: ∀l m:List AV,Dl l m=true->cw l m=bif decide (l.length<m.length) then -1 else 0
 |[],[],_=>rfl
 |[],_::_,_=>by simp[cw,oS]
 |_::_,[],h=>by simp[Dl] at h
 |a::l,b::m,h=>by
  simp only[Dl,aa1] at h
  have:=A0 l m h.2
  simp only[cw,oS] at this⊢
  rw[h.1,aa7,this]
  simp
structure UR where
 l:List AV
 m:List AV
 i:Nat
abbrev R7(x:UR):S:=sp 39 [(0, .ad 72 x.l),(1, .ad 72 x.m),(2, .bq 101 []),(11, .ad 72 x.l),(12, .int x.l.length),(13, .int x.i)] []
def K6(x:UR):Prop:=x.i<=x.l.length/\x.i<=x.m.length/\x.l.length<=aL
def Js(x:UR):Out (Exit×S):= .aw (Dl (x.l.drop x.i) (x.m.drop x.i)) (.one (.exit 0,sp 39 [(0, .ad 72 x.l),(1, .ad 72 x.m)] [])) (.one (.ret,sp 39 [(6, .int (cw (x.l.drop x.i) (x.m.drop x.i)))] []))
theorem lCf(κ:Kp):bf (OS κ).E 12 100 2 (aR 0 R7 K6 Js):=by
 refine aG (fun x=>x.l.length - x.i) ?_
 rintro⟨l,m,i⟩ K ⟨h1,h2,h3⟩ ho
 simp only[aL] at h1 h2 h3
 rw[show(OS κ).E.P=Pr κ from rfl]
 refine Eq.mpr (xCf κ l m i _ _ K) ?_
 simp only[Js,Out.run,ae] at ho
 simp only[Int.toNat_natCast]
 rw[ae,aa0,aa2]
 refine⟨fun h=>ai.2 ⟨by simp;omega,ae.2 ⟨fun e=>?_,fun e=>?_⟩⟩,fun h=>?_⟩
 ·have e:m.length<=i:=by simpa using e
  rw[aa8 e,ab1 (show i<l.length by omega)] at ho
  exact ho.2 rfl
 ·have e:i<m.length:=by simpa using e
  rw[ab1 (show i<l.length by omega),←a7 l i (by omega),ab1 e,←a7 m i e] at ho
  simp only[Dl,cw,oS] at ho
  refine ai.2 ⟨by simp;omega,(H0 (nth l i),H0 (nth m i)),rfl,trivial,?_⟩
  rw[show nP (wM (H0 (nth l i))) (wM (H0 (nth m i)))=nP (nth l i) (nth m i) from rfl]
  rw[ae,bne_iff_ne,bne_eq_false_iff_eq]
  refine⟨fun e2=>?_,fun e2=>?_⟩
  ·rw[aa4 e2,Bool.false_and,aa5] at ho
   exact ho.2 rfl
  ·rw[aa6 e2,ab9,aa7] at ho
   rw[aC (n:=(i:Int)+1) (by omega) (by omega)]
   refine⟨_,?_,⟨l,m,i+1⟩,rfl,⟨by simp only;omega,e,by simpa[aL] using h3⟩,rfl,?_⟩
   ·simp only;omega
   ·simp only[Js,Out.run,ae]
    exact ho
 ·rw[aa8 (show l.length<=i by omega)] at ho
  exact ho.1 rfl
noncomputable def XE(κ:Kp):EB:=(OS κ).loop (lCf κ)
theorem yCf(κ:Kp)(l m:List AV)(K:AV->List Dn.Obj->Prop):(ba (XE κ).E 12 100 [.ad 72 l, .ad 72 m, .bq 101 []] [] K)=(
 letI z1:=Pg.toProgram (Env.P (EB.E (OS κ)))
 ag z1 100 2=ag z1 100 2/\∃(e0:UR),sp 39 [(0,AV.ad 72 l),(1,AV.ad 72 m),(2,AV.bq 101 []),(11,AV.ad 72 l),(12,AV.int (↑(l.length):Int)),(13,
 AV.int 0)] []=R7 e0/\K6 e0/\aw (Dl (List.drop e0.i e0.l) (List.drop e0.i e0.m)) (aw (decide ((↑(e0.l.length):Int)<(↑(e0.m.length):Int))) (K (AV.int
 (-1)) []) (K (AV.int 0) [])) (K (AV.int (cw (List.drop e0.i e0.l) (List.drop e0.i e0.m))) [])):=by kernel_rfl
def Zg:List AV->Option (Bool×AV)
 |[.ad 72 l, .ad 72 m, .bq 101 []]=>some (decide (l.length<=aL), .int (cw l m))
 |_=>none
theorem pCf(κ:Kp):cj (XE κ).E 12 100 Zg:=by
 intro args x hh
 unfold Zg at hh
 split at hh
 ·rename_i l m
  simp only[aa3,aa9,aa0] at hh
  obtain⟨h1,rfl⟩:=hh
  refine⟨_,rfl,rfl,Eq.mpr (yCf κ l m _) ?_⟩
  refine⟨rfl,⟨l,m,0⟩,rfl,⟨Nat.zero_le _,Nat.zero_le _,h1⟩,?_⟩
  simp only[ab0,ae]
  refine⟨fun e=>?_,fun e=>trivial⟩
  rw[A0 l m e]
  refine⟨fun h=>?_,fun h=>?_⟩
  ·rw[show decide (l.length<m.length)=true by simpa using h];rfl
  ·rw[show decide (l.length<m.length)=false by simpa using h];rfl
 ·cases hh
noncomputable def WC(κ:Kp):EB:=(XE κ).pure (pCf κ)
theorem yCq(κ:Kp)(l m:List AV)(K:AV->List Dn.Obj->Prop):(ba (WC κ).E 12 54 [.ad 72 l, .ad 72 m] [] K)=(
 aP (decide (l.length<=9223372036854775807)) (K (AV.int (cw l m)) [])):=by kernel_rfl
def Yg:List AV->Option (Bool×AV)
 |[.ad 72 l, .ad 72 m]=>some (decide (l.length<=aL), .int (cw l m))
 |_=>none
theorem Z2(κ:Kp):cj (WC κ).E 12 54 Yg:=by
 intro args x hh
 unfold Yg at hh
 split at hh
 ·rename_i l m
  simp only[aa3,aa9,aa0] at hh
  obtain⟨h1,rfl⟩:=hh
  refine⟨_,rfl,rfl,Eq.mpr (yCq κ l m _) ?_⟩
  exact ai.2 ⟨aa6 h1,rfl⟩
 ·cases hh
noncomputable def Lo(κ:Kp):EB:=(WC κ).pure (Z2 κ)
abbrev rws(L:RL):List AV:=L.map fun r=> .ad 72 r
theorem gZ(L:RL):(rws L).length=L.length:=by simp
theorem fE: ∀(L:RL) (i:Nat),ah (nth (rws L) i)=rat L i
 |[],i=>by cases i<;>rfl
 |r::L,0=>rfl
 |r::L,i+1=>by
  have:=fE L i
  simpa[nth,rat] using this
theorem tf(r:List AV): ∀(L:RL) (i:Nat),bJ (rws L) i (.ad 72 r)=rws (L.set i r)
 |[],i=>by cases i<;>rfl
 |r'::L,0=>rfl
 |r'::L,i+1=>by
  have:=tf r L i
  simpa[bJ] using this
def fb(L:RL):Prop:=∀r,r∈L->r.length<=aL
theorem jW{L:RL}(h:fb L)(i:Nat):(rat L i).length<=aL:=by
 unfold rat
 rw[List.getD_eq_getElem?_getD]
 cases e:L[i]? with
 |none=>exact Nat.zero_le _
 |some r=>exact h r (List.mem_of_getElem? e)
theorem eS{L M:RL}(h:fb L)(p:M.Perm L):fb M:=fun r hr=>h r (p.mem_iff.1 hr)
abbrev ni:AV:= .bq 54 []
abbrev jh(L:RL):Dn.Obj:= .row 70 (rws L)
theorem tp(L:RL)(i j:Nat):bJ (bJ (rws L) i (.ad 72 (ah (nth (rws L) j)))) j (.ad 72 (ah (nth (rws L) i)))=rws (swp L i j):=by
 rw[fE,fE,tf,tf];rfl
theorem xSr(κ:Kp)(L:RL)(a b n i:Nat)(I:Nat->S->Prop)(m:Nat)(K:Exit->S->Prop):(vc (Lo κ).E 12 199 none 1 (ag (Pr κ).toProgram 199 1) (sp 38 [(0, .aB 0 0 L.length),(1, .int a),(2, .int b),(3, .int n),(10, .int i)] [jh L]) (bB (Lo κ).E 199 1 1 I m K))=(
 letI z3:=(↑a:Int)+(↑i:Int)
 letI z2:=decide ((0:Int)<=IntKind.wrap IntKind.i64 z3)&&decide (IntKind.wrap IntKind.i64 z3<(↑(L.length):Int))
 letI z4:=(↑b:Int)+(↑i:Int)
 letI z1:=decide ((0:Int)<=IntKind.wrap IntKind.i64 z4)&&decide (IntKind.wrap IntKind.i64 z4<(↑(L.length):Int))
 letI z5:=IntKind.wrap IntKind.i64 z3
 letI z6:=IntKind.wrap IntKind.i64 z4
 aw (decide ((↑i:Int)<(↑n:Int))) (aP z1 (aP z2 (aP z2 (aP z1 (∃(e0:Nat),e0<m/\I e0 (sp 38 [(0,AV.aB 0 0 L.length),(1,AV.int (↑a:Int)),(2,
 AV.int (↑b:Int)),(3,AV.int (↑n:Int)),(10,AV.int (IntKind.wrap IntKind.i64 ((↑i:Int)+(1:Int))))] [Obj.row 70 (bJ (bJ (rws L) (0+Int.toNat z5)
 (AV.ad 72 (ah (nth (rws L) (0+Int.toNat z6))))) (0+Int.toNat z6) (AV.ad 72 (ah (nth (rws L) (0+Int.toNat z5)))))])))))) (K (Exit.exit 0) (sp 38 []
 [Obj.row 70 (rws L)]))):=by kernel_rfl
structure UJ where
 L0:RL
 L:RL
 a:Nat
 b:Nat
 n:Nat
 i:Nat
abbrev OO(x:UJ):S:=sp 38 [(0, .aB 0 0 x.L.length),(1, .int x.a),(2, .int x.b),(3, .int x.n),(10, .int x.i)] [jh x.L]
def Q8(x:UJ):Prop:=Xr x.a x.b x.i x.a (x.b+x.n) x.L0 x.L/\x.i<=x.n/\x.a+x.n<=x.b/\x.b+x.n<=x.L.length/\x.L.length<=aL
def RO(x:UJ):Out (Exit×S):= .all (fun M=>Xr x.a x.b x.n x.a (x.b+x.n) x.L0 M) fun M=> .one (.exit 0,sp 38 [] [jh M])
theorem lSr(κ:Kp):bf (Lo κ).E 12 199 1 (aR 1 OO Q8 RO):=by
 refine aG (fun x=>x.n - x.i) ?_
 rintro⟨L0,L,a,b,n,i⟩ K ⟨h1,h2,h3,h4,h5⟩ ho
 simp only[aL] at h1 h2 h3 h4 h5
 rw[show(Lo κ).E.P=Pr κ from rfl]
 refine Eq.mpr (xSr κ L a b n i _ _ K) ?_
 have hl:=h1.sw.len
 rw[ae,aa0,aa2]
 refine⟨fun h=>?_,fun h=>?_⟩
 ·rw[aC (n:=(b:Int)+i) (by omega) (by omega),aC (n:=(a:Int)+i) (by omega) (by omega),aC (n:=(i:Int)+1) (by omega) (by omega)]
  have e1:(decide (0<=(b:Int)+i)&&decide ((b:Int)+i<L.length))=true:=by simp;omega
  have e2:(decide (0<=(a:Int)+i)&&decide ((a:Int)+i<L.length))=true:=by simp;omega
  refine ai.2 ⟨e1,ai.2 ⟨e2,ai.2 ⟨e2,ai.2 ⟨e1,_,?_,⟨L0,swp L (a+i) (b+i),a,b,n,i+1⟩,?_,⟨h1.step (n:=n) (by omega) (Nat.le_refl _) h3 (Nat.le_refl _) (by omega),by simp only;omega,h3,by rw[mD];exact h4,by rw[mD];exact h5⟩,rfl,ho⟩⟩⟩⟩
  ·simp only;omega
  ·rw[show 0+((a:Int)+i).toNat=a+i by omega,show 0+((b:Int)+i).toNat=b+i by omega,tp]
   simp only[OO,mD];rfl
 ·obtain rfl:i=n:=by omega
  exact ho L h1
noncomputable def OX(κ:Kp):EB:=(Lo κ).loop (lSr κ)
theorem ySr(κ:Kp)(L:RL)(a b n:Nat)(K:AV->List Dn.Obj->Prop):(ba (OX κ).E 12 199 [.aB 0 0 L.length, .int a, .int b, .int n,ni] [jh L] K)=(
 letI z1:=Pg.toProgram (Env.P (EB.E (Lo κ)))
 ag z1 199 1=ag z1 199 1/\∃(e1:UJ),sp 38 [(0,AV.aB 0 0 L.length),(1,AV.int (↑a:Int)),(2,AV.int (↑b:Int)),(3,AV.int (↑n:Int)),(10,AV.int 0)]
 [Obj.row 70 (rws L)]=OO e1/\Q8 e1/\∀(e0:RL),Xr e1.a e1.b e1.n e1.a (e1.b+e1.n) e1.L0 e0->K (AV.aX []) [Obj.row 70 (rws e0)]):=by kernel_rfl
structure Kz where
 L:RL
 a:Nat
 b:Nat
 n:Nat
def Lz(x:Kz):List AV×List Dn.Obj:=([.aB 0 0 x.L.length, .int x.a, .int x.b, .int x.n,ni],[jh x.L])
def yt(x:Kz):Prop:=x.a+x.n<=x.b/\x.b+x.n<=x.L.length/\x.L.length<=aL
def RG(x:Kz):Out (AV×List Dn.Obj):= .all (fun M=>Xr x.a x.b x.n x.a (x.b+x.n) x.L M) fun M=> .one (.aX [],[jh M])
theorem cSr(κ:Kp):bG (OX κ).E 12 199 (a0 Lz yt RG):=by
 refine bc ?_
 rintro⟨L,a,b,n⟩ K ⟨h1,h2,h3⟩ ho
 exact Eq.mpr (ySr κ L a b n K) ⟨rfl,⟨L,L,a,b,n,0⟩,rfl,⟨.start _ _ _ _ _,Nat.zero_le _,h1,h2,h3⟩,ho⟩
noncomputable def CQ(κ:Kp):EB:=(OX κ).call (cSr κ)
theorem xRo(κ:Kp)(L:RL)(m i j:Nat)(I:Nat->S->Prop)(n:Nat)(K:Exit->S->Prop):(vc (CQ κ).E 12 190 none 1 (ag (Pr κ).toProgram 190 2) (sp 58 [(0, .aB 0 0 L.length),(2, .int m),(4,ni),(10, .int i),(11, .int j)] [jh L]) (bB (CQ κ).E 190 2 1 I n K))=(
 letI z1:=IntKind.wrap IntKind.i64 ((↑m:Int) - (↑i:Int))
 aw ((↑i:Int) != (↑j:Int)) (aw (decide ((↑i:Int)>(↑j:Int))) (∃(e2:Kz),([AV.aB 0 0 L.length,AV.int z1,AV.int (↑m:Int),AV.int (↑j:Int),AV.bq
 54 []],[Obj.row 70 (rws L)])=Lz e2/\yt e2/\∀(e1:RL),Xr e2.a e2.b e2.n e2.a (e2.b+e2.n) e2.L e1->∃(e0:Nat),e0<n/\I e0 (sp 58 [(0,AV.aB 0 0
 L.length),(2,AV.int (↑m:Int)),(4,AV.bq 54 []),(10,AV.int (IntKind.wrap IntKind.i64 ((↑i:Int) - (↑j:Int)))),(11,AV.int (↑j:Int))] [Obj.row 70
 (rws e1)])) (∃(e2:Kz),([AV.aB 0 0 L.length,AV.int z1,AV.int (IntKind.wrap IntKind.i64 (IntKind.wrap IntKind.i64 ((↑m:Int)+(↑j:Int)) - (↑i:Int))),
 AV.int (↑i:Int),AV.bq 54 []],[Obj.row 70 (rws L)])=Lz e2/\yt e2/\∀(e1:RL),Xr e2.a e2.b e2.n e2.a (e2.b+e2.n) e2.L e1->∃(e0:Nat),e0<n/\I e0
 (sp 58 [(0,AV.aB 0 0 L.length),(2,AV.int (↑m:Int)),(4,AV.bq 54 []),(10,AV.int (↑i:Int)),(11,AV.int (IntKind.wrap IntKind.i64 ((↑j:Int) - (↑i:
 Int))))] [Obj.row 70 (rws e1)]))) (K (Exit.exit 0) (sp 58 [(0,AV.aB 0 0 L.length),(2,AV.int (↑m:Int)),(4,AV.bq 54 []),(10,AV.int (↑i:Int))] [Obj.row
 70 (rws L)]))):=by kernel_rfl
structure UW where
 L0:RL
 L:RL
 a:Nat
 m:Nat
 b:Nat
 i:Nat
 j:Nat
abbrev RN(x:UW):S:=sp 58 [(0, .aB 0 0 x.L.length),(2, .int x.m),(4,ni),(10, .int x.i),(11, .int x.j)] [jh x.L]
def Ri(x:UW):Prop:=Hc x.a x.m x.b x.i x.j x.L0 x.L/\(0<x.i/\x.a<=x.m - x.i/\x.i<=x.m)/\(0<x.j/\x.m+x.j<=x.b)/\x.b<=x.L0.length/\x.L0.length<=aL
def RT(x:UW):Out (Exit×S):= .all (fun r:Nat×RL=>Hc x.a x.m x.b r.1 r.1 x.L0 r.2/\(x.a<=x.m - r.1/\r.1<=x.m)/\x.m+r.1<=x.b) fun r=> .one (.exit 0,sp 58 [(0, .aB 0 0 r.2.length),(2, .int x.m),(4,ni),(10, .int r.1)] [jh r.2])
theorem lRo(κ:Kp):bf (CQ κ).E 12 190 2 (aR 1 RN Ri RT):=by
 refine aG (fun x=>x.i+x.j) ?_
 rintro⟨L0,L,a,m,b,i,j⟩ K ⟨h1,h2,h3,h4,h5⟩ ho
 simp only[aL] at h1 h2 h3 h4 h5
 rw[show(CQ κ).E.P=Pr κ from rfl]
 refine Eq.mpr (xRo κ L m i j _ _ K) ?_
 have hl:=h1.sw.len
 rw[ae,bne_iff_ne,bne_eq_false_iff_eq]
 refine⟨fun h=>ae.2 ⟨fun e=>?_,fun e=>?_⟩,fun h=>?_⟩
 ·have e:j<i:=by simpa using e
  rw[aC (n:=(m:Int) - i) (by omega) (by omega),aC (n:=(i:Int) - j) (by omega) (by omega),show(m:Int) - i=(m - i:Nat) by omega,show(i:Int) - j=(i - j:Nat) by omega]
  refine⟨⟨L,m - i,m,j⟩,rfl,⟨by simp only;omega,by simp only;omega,by simp only[aL];omega⟩,fun M hM=>?_⟩
  have hd:=h1.down h2.2 h3.2 h4 e hM
  refine⟨_,?_,⟨L0,M,a,m,b,i - j,j⟩,by rw[←hM.sw.len],⟨hd,by simp only;omega,h3,h4,by simpa[aL] using h5⟩,rfl,ho⟩
  simp only;omega
 ·have e:i<j:=by
   have:i<=j:=by simpa using e
   omega
  rw[aC (n:=(m:Int) - i) (by omega) (by omega),aC (n:=(m:Int)+j) (by omega) (by omega),aC (n:=(m:Int)+j - i) (by omega) (by omega),aC (n:=(j:Int) - i) (by omega) (by omega),show(m:Int) - i=(m - i:Nat) by omega,show(m:Int)+j - i=(m+j - i:Nat) by omega,show(j:Int) - i=(j - i:Nat) by omega]
  refine⟨⟨L,m - i,m+j - i,i⟩,rfl,⟨by simp only;omega,by simp only;omega,by simp only[aL];omega⟩,fun M hM=>?_⟩
  simp only[show m+j - i+i=m+j by omega] at hM
  have hd:=h1.up h2.2 h3.2 h4 e hM
  refine⟨_,?_,⟨L0,M,a,m,b,i,j - i⟩,by rw[←hM.sw.len],⟨hd,h2,by simp only;omega,h4,by simpa[aL] using h5⟩,rfl,ho⟩
  simp only;omega
 ·obtain rfl:i=j:=by omega
  exact ho (i,L) ⟨h1,h2.2,h3.2⟩
noncomputable def Vd(κ:Kp):EB:=(CQ κ).loop (lRo κ)
theorem yRo(κ:Kp)(L:RL)(a m b:Nat)(K:AV->List Dn.Obj->Prop):(ba (Vd κ).E 12 190 [.aB 0 0 L.length, .int a, .int m, .int b,ni] [jh L] K)=(
 letI z1:=Pg.toProgram (Env.P (EB.E (CQ κ)))
 ag z1 190 2=ag z1 190 2/\∃(e3:UW),sp 58 [(0,AV.aB 0 0 L.length),(2,AV.int (↑m:Int)),(4,AV.bq 54 []),(10,AV.int (IntKind.wrap IntKind.i64 ((↑m:
 Int) - (↑a:Int)))),(11,AV.int (IntKind.wrap IntKind.i64 ((↑b:Int) - (↑m:Int))))] [Obj.row 70 (rws L)]=RN e3/\Ri e3/\∀(e2:Nat×RL),Hc e3.a e3.m
 e3.b e2.1 e2.1 e3.L0 e2.2/\(e3.a<=e3.m - e2.1/\e2.1<=e3.m)/\e3.m+e2.1<=e3.b->∃(e1:Kz),([AV.aB 0 0 e2.2.length,AV.int (IntKind.wrap IntKind.i64
 ((↑(e3.m):Int) - (↑(e2.1):Int))),AV.int (↑(e3.m):Int),AV.int (↑(e2.1):Int),AV.bq 54 []],[Obj.row 70 (rws e2.2)])=Lz e1/\yt e1/\∀(e0:RL),Xr
 e1.a e1.b e1.n e1.a (e1.b+e1.n) e1.L e0->K (AV.aX []) [Obj.row 70 (rws e0)]):=by kernel_rfl
def JJ(x:Kz):List AV×List Dn.Obj:=([.aB 0 0 x.L.length, .int x.a, .int x.b, .int x.n,ni],[jh x.L])
def yB(x:Kz):Prop:=x.a<x.b/\x.b<x.n/\x.n<=x.L.length/\x.L.length<=aL
def PV(x:Kz):Out (AV×List Dn.Obj):= .all (fun M=>HZ x.a x.b x.n x.L M) fun M=> .one (.aX [],[jh M])
theorem cRo(κ:Kp):bG (Vd κ).E 12 190 (a0 JJ yB PV):=by
 refine bc ?_
 rintro⟨L,a,m,b⟩ K ⟨h1,h2,h3,h4⟩ ho
 simp only[aL] at h1 h2 h3 h4
 refine Eq.mpr (yRo κ L a m b K) ?_
 rw[aC (n:=(m:Int) - a) (by omega) (by omega),aC (n:=(b:Int) - m) (by omega) (by omega),show(m:Int) - a=(m - a:Nat) by omega,show(b:Int) - m=(b - m:Nat) by omega]
 refine⟨rfl,⟨L,L,a,m,b,m - a,b - m⟩,rfl,⟨.start (Nat.le_of_lt h1) (Nat.le_of_lt h2) L,by simp only;omega,by simp only;omega,h3,by simpa[aL] using h4⟩,fun r ⟨hr,h5,h6⟩=>?_⟩
 obtain⟨i,M⟩:=r
 simp only at hr h5 h6
 have hl:=hr.sw.len
 simp only
 rw[aC (n:=(m:Int) - i) (by omega) (by omega),show(m:Int) - i=(m - i:Nat) by omega]
 exact⟨⟨M,m - i,m,i⟩,rfl,⟨by simp only;omega,by simp only;omega,by simp only[aL];omega⟩,fun X hX=>ho X (hr.done h5.2 hX)⟩
noncomputable def O0(κ:Kp):EB:=(Vd κ).call (cRo κ)
theorem xIj(κ:Kp)(L:RL)(a b i j:Nat)(I:Nat->S->Prop)(n:Nat)(K:Exit->S->Prop):(vc (O0 κ).E 12 166 none 1 (ag (Pr κ).toProgram 166 4) (sp 53 [(0, .aB 0 0 L.length),(1, .int a),(2, .int b),(3,ni),(8, .int i),(9, .int j)] [jh L]) (bB (O0 κ).E 166 4 1 I n K))=(
 letI z2:=K (Exit.exit 2) (sp 53 [(0,AV.aB 0 0 L.length),(1,AV.int (↑a:Int)),(2,AV.int (↑b:Int)),(3,AV.bq 54 []),(8,AV.int (↑i:Int))] [Obj.row
  70 (rws L)])
 letI z4:=true&&decide ((↑j:Int)<(↑(L.length):Int))
 letI z5:=ah (nth (rws L) (0+Int.toNat (↑j:Int)))
 letI z6:=(↑j:Int) - (1:Int)
 letI z1:=decide ((0:Int)<=IntKind.wrap IntKind.i64 z6)&&decide (IntKind.wrap IntKind.i64 z6<(↑(L.length):Int))
 letI z3:=IntKind.wrap IntKind.i64 z6
 letI z7:=ah (nth (rws L) (0+Int.toNat z3))
 aw (decide ((↑j:Int)>(↑a:Int))) (aP z4 (aP z1 (aP (decide (List.length z5<=9223372036854775807)) (aw (decide (cw z5 z7<(0:Int))) (aP z1 (aP z4 (aP z4
 (aP z1 (∃(e0:Nat),e0<n/\I e0 (sp 53 [(0,AV.aB 0 0 L.length),(1,AV.int (↑a:Int)),(2,AV.int (↑b:Int)),(3,AV.bq 54 []),(8,AV.int (↑i:Int)),
 (9,AV.int z3)] [Obj.row 70 (bJ (bJ (rws L) (0+Int.toNat (↑j:Int)) (AV.ad 72 z7)) (0+Int.toNat z3) (AV.ad 72 z5))])))))) z2)))) z2):=by kernel_rfl
structure UL where
 L0:RL
 L:RL
 a:Nat
 b:Nat
 i:Nat
 j:Nat
abbrev PD(x:UL):S:=sp 53 [(0, .aB 0 0 x.L.length),(1, .int x.a),(2, .int x.b),(3,ni),(8, .int x.i),(9, .int x.j)] [jh x.L]
def Rw(x:UL):Prop:=NJ x.a x.i x.j x.L0 x.L/\(x.a<=x.j/\x.j<=x.i)/\x.i<x.L0.length/\x.L0.length<=aL/\fb x.L0
def T7(x:UL):Out (Exit×S):= .all (fun M=>Sw x.a (x.i+1) x.L0 M/\Up M x.a (x.i+1)) fun M=> .one (.exit 2,sp 53 [(0, .aB 0 0 M.length),(1, .int x.a),(2, .int x.b),(3,ni),(8, .int x.i)] [jh M])
theorem lIj(κ:Kp):bf (O0 κ).E 12 166 4 (aR 1 PD Rw T7):=by
 refine aG (fun x=>x.j) ?_
 rintro⟨L0,L,a,b,i,j⟩ K ⟨h1,h2,h3,h4,h5⟩ ho
 simp only[aL] at h1 h2 h3 h4 h5
 rw[show(O0 κ).E.P=Pr κ from rfl]
 refine Eq.mpr (xIj κ L a b i j _ _ K) ?_
 have hl:=h1.sw.len
 have hs:=eS h5 h1.sw.perm
 rw[ae,aa0,aa2]
 refine⟨fun h=>?_,fun h=>?_⟩
 ·rw[aC (n:=(j:Int) - 1) (by omega) (by omega)]
  have e1:(true&&decide ((j:Int)<L.length))=true:=by simp;omega
  have e2:(decide (0<=(j:Int) - 1)&&decide ((j:Int) - 1<L.length))=true:=by simp;omega
  rw[show 0+(j:Int).toNat=j by omega,show 0+((j:Int) - 1).toNat=j - 1 by omega,tp,fE,fE,show(j:Int) - 1=(j - 1:Nat) by omega]
  rw[show(j:Int) - 1=(j - 1:Nat) by omega] at e2
  refine ai.2 ⟨e1,ai.2 ⟨e2,ai.2 ⟨aa6 (jW hs j),ae.2 ⟨fun e=>?_,fun e=>?_⟩⟩⟩⟩
  ·have hc:cw (rat L j) (rat L (j - 1))<0:=by simpa using e
   refine ai.2 ⟨e2,ai.2 ⟨e1,ai.2 ⟨e1,ai.2 ⟨e2,_,?_,⟨L0,swp L j (j - 1),a,b,i,j - 1⟩,?_,⟨h1.step (by omega) h3 hc,by simp only;omega,h3,by simpa[aL] using h4,h5⟩,rfl,ho⟩⟩⟩⟩
   ·simp only;omega
   ·simp only[PD,mD]
  ·have hc:0<=cw (rat L j) (rat L (j - 1)):=by simpa using e
   exact ho L ⟨h1.sw,h1.done h2 fun _=>hc⟩
 ·exact ho L ⟨h1.sw,h1.done h2 fun h6=>absurd h6 (by omega)⟩
noncomputable def OQ(κ:Kp):EB:=(O0 κ).loop (lIj κ)
theorem xIs(κ:Kp)(L:RL)(a b i:Nat)(I:Nat->S->Prop)(n:Nat)(K:Exit->S->Prop):(vc (OQ κ).E 12 166 none 1 (ag (Pr κ).toProgram 166 1) (sp 53 [(0, .aB 0 0 L.length),(1, .int a),(2, .int b),(3,ni),(8, .int i)] [jh L]) (bB (OQ κ).E 166 1 1 I n K))=(
 letI z1:=Pg.toProgram (Env.P (EB.E (O0 κ)))
 aw (decide ((↑i:Int)<(↑b:Int))) (ag z1 166 4=ag z1 166 4/\∃(e3:UL),sp 53 [(0,AV.aB 0 0 L.length),(1,AV.int (↑a:Int)),(2,AV.int (↑b:Int)),
 (3,AV.bq 54 []),(8,AV.int (↑i:Int)),(9,AV.int (↑i:Int))] [Obj.row 70 (rws L)]=PD e3/\Rw e3/\∀(e2:RL),(Sw e3.a (e3.i+1) e3.L0 e2/\∀(e1 e0:
 Nat),e3.a<=e1->e1<e0->e0<e3.i+1->cw (rat e2 e1) (rat e2 e0)<=(0:Int))->∃(e0:Nat),e0<n/\I e0 (sp 53 [(0,AV.aB 0 0 e2.length),(1,AV.int
 (↑(e3.a):Int)),(2,AV.int (↑(e3.b):Int)),(3,AV.bq 54 []),(8,AV.int (IntKind.wrap IntKind.i64 ((↑(e3.i):Int)+(1:Int))))] [Obj.row 70 (rws e2)]))
 (K (Exit.exit 0) (sp 53 [] [Obj.row 70 (rws L)]))):=by kernel_rfl
structure Us where
 L0:RL
 L:RL
 a:Nat
 b:Nat
 i:Nat
abbrev Oh(x:Us):S:=sp 53 [(0, .aB 0 0 x.L.length),(1, .int x.a),(2, .int x.b),(3,ni),(8, .int x.i)] [jh x.L]
def Se(x:Us):Prop:=Sw x.a x.b x.L0 x.L/\Up x.L x.a x.i/\(x.a<x.i/\(x.i<=x.b\/x.b<=x.a))/\x.b<=x.L0.length/\x.L0.length<=aL/\fb x.L0
def S9(x:Us):Out (Exit×S):= .all (fun M=>Sw x.a x.b x.L0 M/\Up M x.a x.b) fun M=> .one (.exit 0,sp 53 [] [jh M])
theorem lIs(κ:Kp):bf (OQ κ).E 12 166 1 (aR 1 Oh Se S9):=by
 refine aG (fun x=>x.b - x.i) ?_
 rintro⟨L0,L,a,b,i⟩ K ⟨h1,h2,h3,h4,h5,h6⟩ ho
 simp only[aL] at h1 h2 h3 h4 h5 h6
 rw[show(OQ κ).E.P=Pr κ from rfl]
 refine Eq.mpr (xIs κ L a b i _ _ K) ?_
 have hl:=h1.len
 rw[ae,aa0,aa2]
 refine⟨fun h=>?_,fun h=>?_⟩
 ·refine⟨rfl,⟨L,L,a,b,i,i⟩,rfl,⟨.start h2,by simp only;omega,by simp only;omega,by simp only[aL];omega,eS h6 h1.perm⟩,fun M hM=>?_⟩
  obtain⟨m1,m2⟩:Sw a (i+1) L M/\Up M a (i+1):=hM
  rw[aC (n:=(i:Int)+1) (by omega) (by omega)]
  refine⟨_,?_,⟨L0,M,a,b,i+1⟩,rfl,⟨h1.trans (m1.mono (Nat.le_refl _) (by omega) (by omega)),m2,by simp only;omega,h4,by simpa[aL] using h5,h6⟩,rfl,ho⟩
  simp only;omega
 ·refine ho L ⟨h1,?_⟩
  rcases h3.2 with h7|h7
  ·obtain rfl:i=b:=by omega
   exact h2
  ·exact Up.one L (by simp only;omega)
noncomputable def V2(κ:Kp):EB:=(OQ κ).loop (lIs κ)
theorem yIs(κ:Kp)(L:RL)(a b:Nat)(K:AV->List Dn.Obj->Prop):(ba (V2 κ).E 12 166 [.aB 0 0 L.length, .int a, .int b,ni] [jh L] K)=(
 letI z1:=Pg.toProgram (Env.P (EB.E (OQ κ)))
 ag z1 166 1=ag z1 166 1/\∃(e3:Us),sp 53 [(0,AV.aB 0 0 L.length),(1,AV.int (↑a:Int)),(2,AV.int (↑b:Int)),(3,AV.bq 54 []),(8,AV.int
 (IntKind.wrap IntKind.i64 ((↑a:Int)+(1:Int))))] [Obj.row 70 (rws L)]=Oh e3/\Se e3/\∀(e2:RL),(Sw e3.a e3.b e3.L0 e2/\∀(e1 e0:Nat),e3.a<=e1->
 e1<e0->e0<e3.b->cw (rat e2 e1) (rat e2 e0)<=(0:Int))->K (AV.aX []) [Obj.row 70 (rws e2)]):=by kernel_rfl
structure R0 where
 L:RL
 a:Nat
 b:Nat
def P2(x:R0):List AV×List Dn.Obj:=([.aB 0 0 x.L.length, .int x.a, .int x.b,ni],[jh x.L])
def DL(x:R0):Prop:=x.a<=x.b/\x.b<=x.L.length/\x.L.length<=100000000/\fb x.L
def TL(x:R0):Out (AV×List Dn.Obj):= .all (fun M=>Sw x.a x.b x.L M/\Up M x.a x.b) fun M=> .one (.aX [],[jh M])
theorem cIr(κ:Kp):bG (V2 κ).E 12 166 (a0 P2 DL TL):=by
 refine bc ?_
 rintro⟨L,a,b⟩ K ⟨h1,h2,h3,h4⟩ ho
 simp only at h1 h2 h3 h4
 refine Eq.mpr (yIs κ L a b K) ?_
 rw[aC (n:=(a:Int)+1) (by omega) (by omega)]
 exact⟨rfl,⟨L,L,a,b,a+1⟩,rfl,⟨.refl,Up.one L (Nat.le_refl _),by simp only;omega,h2,by simp only[aL];omega,h4⟩,ho⟩
noncomputable def iI(κ:Kp):EB:=(V2 κ).call (cIr κ)
end Go.Proofs.YtioeffnadipbaaaGreatDoor
