import Derived.Test.YtioeffnadipbaaaGreatDoorDePD
import Derived.Test.YtioeffnadipbaaaGreatDoorDeP8
import Derived.Test.YtioeffnadipbaaaGreatDoorDePC
namespace Go.Proofs.YtioeffnadipbaaaGreatDoor
open Go Go.Dn Go.Rl Go.Proofs
attribute [local irreducible] a0 vc
set_option maxRecDepth 20000
theorem bp.ag1(a:bp) b:a.t=nth a.x.r.bl a.x.od[a.i]:=by
 grind [wG]
theorem bp.Wh(a:bp)(b:a.i<a.x.od.length):a.out=bif toInt (ag a.t 0)==1 then a.all
  else bif toInt (ag a.t 0)==2 then(bif (M0 a).isEmpty then uJ a a.e else[])
  else bif toInt (ag a.t 0)==3||(toInt (ag a.t 0)==4||(toInt (ag a.t 0)==5||toInt (ag a.t 0)==6)) then
   (bif toInt (ag a.t 0)==3&&eP a.e (eG (ag a.t 2)) then uJ a (a.e.put (eG (ag a.t 2)).s (bK a.e (eG (ag a.t 3)).tm))
    else bif toInt (ag a.t 0)==3&&eP a.e (eG (ag a.t 3)) then uJ a (a.e.put (eG (ag a.t 3)).s (bK a.e (eG (ag a.t 2)).tm))
    else bif gU (toInt (ag a.t 0)) (bK a.e (eG (ag a.t 2)).tm) (bK a.e (eG (ag a.t 3)).tm) then uJ a a.e else[])
  else
   (bif !oS (toInt (ag a.t 0)) (iA ((M0 a).map (mH (toInt (ag a.t 0)) (eG (ag a.t 3))))) then[]
    else bif eP a.e (eG (ag a.t 2)) then uJ a (a.e.put (eG (ag a.t 2)).s ⟨false,nH (toInt (ag a.t 0)) (iA ((M0 a).map (mH (toInt (ag a.t 0)) (eG (ag a.t 3))))),ByteArray.mk #[]⟩)
    else bif (bK a.e (eG (ag a.t 2)).tm).n==nH (toInt (ag a.t 0)) (iA ((M0 a).map (mH (toInt (ag a.t 0)) (eG (ag a.t 3))))) then uJ a a.e else[]):=by
 have c:=a.ag1 b;unfold bp.out bp.all M0 uJ bp.l bp.rel
 grind [List.drop_eq_getElem_cons,pQ]
theorem cGe κ r:bc (X4 κ r) 12 98 (Wu r):=by
 refine aR ?_;rintro a K ⟨p,hr⟩ z
 replace z:aq a.out.isEmpty (K (.aH []) (dv a.x a.L)) (K (.aH []) (nR a.x (a.L++a.out))):=z
 refine Eq.mpr (yGo κ r a K) ?_;have hn:=p.x.n;have w:=p.n;have hle:=p.i;refine ae.2 ⟨fun e0=>?_,fun e0=>?_⟩
 ·have e0:(a.i:Int)=a.x.od.length:=by simpa using e0
  have c:a.out=[jc a.x.r.hl a.e]:=by
   unfold bp.out;rw[as2 (by omega)];rfl
  refine⟨rfl,⟨a.x,a.L,a.e,0⟩,rfl,⟨Nat.zero_le _,p.x.h,p.x.hv⟩,ai.2 ⟨?_,?_⟩⟩
  ·rw[c] at w
   simp only[List.length_singleton] at w;rw[ar4];simp only;omega
  ·rw[c] at z
   have hx:List.take a.L.length (rws a.L)++[AV.ah 72 (List.take (jc a.x.r.hl a.e).length (List.drop 0 (jc a.x.r.hl a.e)))]=rws (a.L++[jc a.x.r.hl a.e]):=by
    rw[as4,List.take_length,←vf,←dX a.L,List.take_length]
   show K (.aH []) [_,_,_,_, .row 70 (List.take a.L.length (rws a.L)++[AV.ah 72 (List.take (jc a.x.r.hl a.e).length (List.drop 0 (jc a.x.r.hl a.e)))])]
   rw[hx];have hl:(a.L++[jc a.x.r.hl a.e]).length=a.L.length+1:=by simp
   rw[←hl];exact z
 ·have e0: ¬ (a.i:Int)=a.x.od.length:=by simpa using e0
  have O:a.i<a.x.od.length:=by omega
  have hw:=az (n:=(a.i:Int)+1) (by omega) (by omega);have hm:a.x.od[a.i]∈a.x.od:=List.getElem_mem _;have c:=a.Wh O;have hk:toInt a.k=(a.x.od[a.i]:Int):=by
   have h:=wG a.x.od a.i O;simp only[bp.k,bp.j,Nat.zero_add,Int.toNat_natCast,h]
  have F:Yq a.x a.t:=by rw[a.ag1 O];exact p.x.t _ hm
  have g:=p.x.o _ hm;have f: ∀H,a.out=uJ a H->∃m,m<r/\∃b:bp,([AV.ptr 0 0 [] 0,AV.int (IntKind.wrap .i64 ((a.i:Int)+1)),cP H],dv a.x a.L)=gi b/\(cy b/\b.x.od.length - b.i=m)/\aq b.out.isEmpty (K (AV.aH []) (dv b.x b.L)) (K (AV.aH []) (nR b.x (b.L++b.out))):=fun H Z=>by
   refine⟨a.x.od.length - (a.i+1),by omega,⟨a.x,a.L,a.i+1,H⟩,by rw[hw];rfl,⟨⟨p.x,O,?_⟩,rfl⟩,?_⟩
   ·show a.L.length+(uJ a H).length<=100000000
    rw[←Z];exact w
   ·show aq (uJ a H).isEmpty (K (AV.aH []) (dv a.x a.L)) (K (AV.aH []) (nR a.x (a.L++uJ a H)))
    rw[←Z];exact z
  have none:a.out=[]->K (.aH []) (dv a.x a.L):=fun h=>by rw[h] at z;exact z
  refine ai.2 ⟨by simp;omega,ai.2 ⟨by rw[hk];simp;omega,?_⟩⟩;refine ae.2 ⟨fun y=>?p1,fun y=>ae.2 ⟨fun B=>?p2,fun B=>?_⟩⟩
  case p1=>
   have C:il (toInt (ag a.t 0))=true:=by unfold il;rw[y];rfl
   rw[y,as1] at c;have D:=F.at0 C;refine⟨⟨⟨a.x,a.L,a.rel,a.l⟩,rfl,⟨p.x.d,D.1,D.2⟩⟩,⟨rfl,rfl,rfl,rfl,rfl,trivial⟩,a,by kernel_rfl,⟨p.x,O,hr,F.at1 C,by rw[c] at w;exact w⟩,?_⟩;rw[c] at z;exact z
  case p2=>
   have C:il (toInt (ag a.t 0))=true:=by unfold il;rw[y,B];rfl
   rw[y,B,ar9,as1] at c;have D:=F.at0 C;exact⟨⟨⟨a.x,a.L,a.rel,a.l⟩,rfl,⟨p.x.d,D.1,D.2⟩⟩,⟨rfl,rfl,rfl,rfl,rfl,trivial⟩,a,by kernel_rfl,F.at1 C,ae.2 ⟨fun U=>f _ (by rw[c,U];rfl),fun U=>none (by rw[c,U];rfl)⟩⟩
  have P:=F.u y B;have N:=F.v y B;refine ae.2 ⟨fun V=>?p3,fun V=>ae.2 ⟨fun W=>?p4,fun W=>ae.2 ⟨fun Q=>?p5,fun Q=>ae.2 ⟨fun R=>?p6,fun R=>?p7⟩⟩⟩⟩
  case p7=>
   rw[y,B,V,W,Q,R] at c;simp only[ar9,Bool.or_false] at c;have C:il (toInt (ag a.t 0))=true:=by unfold il;rw[y,B,V,W,Q,R];rfl
   have D:=F.at0 C;refine⟨⟨a.x,a.L,toInt (ag a.t 0),a.rel,a.l,eG (ag a.t 2),eG (ag a.t 3),a.e⟩,rfl,⟨p.x.d,D.1,D.2,⟨F.at1 C,N⟩⟩,?_⟩;refine ae.2 ⟨fun g=>none ?_,fun g=>⟨⟨a.e,eG (ag a.t 2)⟩,rfl,trivial,ae.2 ⟨fun A=>⟨⟨a.e,(eG (ag a.t 2)).s,⟨false,_,ByteArray.mk #[]⟩⟩,rfl,trivial,f _ ?_⟩,fun A=>⟨⟨a.e,eG (ag a.t 2)⟩,rfl,P,ae.2 ⟨fun I=>f _ ?_,fun I=>none ?_⟩⟩⟩⟩⟩
   ·have g:(!oS (toInt (ag a.t 0)) (iA ((M0 a).map (mH (toInt (ag a.t 0)) (eG (ag a.t 3))))))=true:=g
    rw[c,g];rfl
   ·have g:(!oS (toInt (ag a.t 0)) (iA ((M0 a).map (mH (toInt (ag a.t 0)) (eG (ag a.t 3))))))=false:=g
    rw[c,g,A];rfl
   ·have g:(!oS (toInt (ag a.t 0)) (iA ((M0 a).map (mH (toInt (ag a.t 0)) (eG (ag a.t 3))))))=false:=g
    have I:((bK a.e (eG (ag a.t 2)).tm).n==nH (toInt (ag a.t 0)) (iA ((M0 a).map (mH (toInt (ag a.t 0)) (eG (ag a.t 3))))))=true:=I;rw[c,g,A,I];rfl
   ·have g:(!oS (toInt (ag a.t 0)) (iA ((M0 a).map (mH (toInt (ag a.t 0)) (eG (ag a.t 3))))))=false:=g
    have I:((bK a.e (eG (ag a.t 2)).tm).n==nH (toInt (ag a.t 0)) (iA ((M0 a).map (mH (toInt (ag a.t 0)) (eG (ag a.t 3))))))=false:=I;rw[c,g,A,I];rfl
  all_goals
   have X:(toInt (ag a.t 0)==3||(toInt (ag a.t 0)==4||(toInt (ag a.t 0)==5||toInt (ag a.t 0)==6)))=true:=by simp_all
   have h7:toInt (ag a.t 0)≠7:=by intro h;rw[h] at X;cases X
   rw[y,B,X,ar9,ar9,as1] at c;have N:=N h7;have E:(a.out=bif gU (toInt (ag a.t 0)) (bK a.e (eG (ag a.t 2)).tm) (bK a.e (eG (ag a.t 3)).tm) then uJ a a.e else[])->aq (gU (toInt (ag a.t 0)) (bK a.e (eG (ag a.t 2)).tm) (bK a.e (eG (ag a.t 3)).tm)) (∃m,m<r/\∃b:bp,([AV.ptr 0 0 [] 0,AV.int (IntKind.wrap .i64 ((a.i:Int)+1)),cP a.e],dv a.x a.L)=gi b/\(cy b/\b.x.od.length - b.i=m)/\aq b.out.isEmpty (K (AV.aH []) (dv b.x b.L)) (K (AV.aH []) (nR b.x (b.L++b.out)))) (K (.aH []) (dv a.x a.L)):=
    fun h=>ae.2 ⟨fun q=>f _ (by rw[h,q];rfl),fun q=>none (by rw[h,q];rfl)⟩
   refine ae.2 ⟨fun J=>⟨⟨a.e,eG (ag a.t 2)⟩,rfl,trivial,ae.2 ⟨fun A=>⟨⟨a.e,eG (ag a.t 3)⟩,rfl,N,⟨a.e,(eG (ag a.t 2)).s,bK a.e (eG (ag a.t 3)).tm⟩,rfl,trivial,f _ (by rw[c,J,A];rfl)⟩,
    fun A=>ae.2 ⟨fun _=>⟨⟨a.e,eG (ag a.t 3)⟩,rfl,trivial,ae.2 ⟨fun Y=>⟨⟨a.e,eG (ag a.t 2)⟩,rfl,P,⟨a.e,(eG (ag a.t 3)).s,bK a.e (eG (ag a.t 2)).tm⟩,rfl,trivial,f _ (by rw[c,J,A,Y];rfl)⟩,
     fun Y=>⟨⟨a.e,eG (ag a.t 2)⟩,rfl,P,⟨a.e,eG (ag a.t 3)⟩,rfl,N,⟨toInt (ag a.t 0),bK a.e (eG (ag a.t 2)).tm,bK a.e (eG (ag a.t 3)).tm⟩,rfl,trivial,E (by rw[c,J,A,Y];rfl)⟩⟩⟩,fun T=>absurd (J.symm.trans T) (by simp)⟩⟩⟩,
    fun J=>ae.2 ⟨fun T=>absurd (T.symm.trans J) (by simp),fun _=>⟨⟨a.e,eG (ag a.t 2)⟩,rfl,P,⟨a.e,eG (ag a.t 3)⟩,rfl,N,⟨toInt (ag a.t 0),bK a.e (eG (ag a.t 2)).tm,bK a.e (eG (ag a.t 3)).tm⟩,rfl,trivial,E (by rw[c,J];rfl)⟩⟩⟩
theorem qGe κ: ∀b st K,aO gi cy Tu b st K->b7 (Pr κ) 98 b st K:=by
 rintro b st K ⟨a,d,e,c⟩;exact aE.pj _ _ (eGm _) (cGe _) _ _ _ K ⟨a,d,⟨e,rfl⟩,c⟩
noncomputable def BGe κ:=(Cb κ).Xy aI (qGe _)
end Go.Proofs.YtioeffnadipbaaaGreatDoor
namespace Go.Proofs.YtioeffnadipbaaaGreatDoor
open Go Go.Dn Go.Rl Go.Proofs
def Kr(v:eU):=bif v.y then v.n=0 else v.s=ByteArray.mk #[]
theorem V6{v}(h:Kr v):RI (e6 v):=⟨rfl,h⟩
def uH(e:dG):=∀x,x∈e->Kr x.2
theorem HK: ∀{e s},uH e->Kr (e.get s)
 |[],_,_=>rfl
 |(t,w)::e,s,h=>by
  rw[dG.get];cases decide (s=t) with
  |true=>exact h (t,w) (by simp)
  |false=>exact HK fun x a=>h x (by grind)
theorem vb: ∀{e s v},uH e->Kr v->uH (e.put s v)
 |[],s,v,_,b,x,a=>by
  grind [dG.put]
 | (t,w)::e,s,v,h,b,x,a=>by
  rw[dG.put] at a;cases c:decide (s=t) with
  |true=>
   rw[c] at a;rcases List.mem_cons.1 a with rfl|a
   ·exact b
   ·exact h x (by grind)
  |false=>
   rw[c] at a;rcases List.mem_cons.1 a with rfl|a
   ·exact h _ (by simp)
   ·exact vb (fun y d=>h y (by simp[d])) b x a
theorem Jh{e}(h:uH e): ∀t,Kr (bK e t)
 | .mk a s n l=>by
  rw[bK];cases a==1 with
  |true=>exact HK h
  | false=>cases a==2 with
   |true=>rfl
   | false=>cases a==3 with
    |true=>rfl
    |false=>
     unfold YO;split<;>rfl
theorem RK{a}(h:uI a) j:Kr (Ew (nth a j)):=by
 rcases Nat.lt_or_ge j _ with b|b
 ·rw[aM _ j b]
  exact(h _ (by simp)).2
 ·rw[fj _ j b];rfl
theorem rJ{a}(c:uI a): ∀{l j g d},uH g->nQ a l j g=some d->uH d
 |[],_,g,d,b,h=>by
  grind [nQ]
 | t::k,j,g,d,b,h=>by
  rw[nQ] at h;cases i:toInt (ag t 0)==4 with
  |true=>rw[i] at h;exact rJ c b h
  | false=>
   rw[i] at h;cases f:eP g (eG t) with
   |true=>rw[f] at h;exact rJ c (vb b (RK c j)) h
   |false=>
    rw[f] at h;cases e: !Gu _ _ with
    |true=>rw[e] at h;cases h
    |false=>rw[e] at h;exact rJ c b h
theorem Nw{l a e g}(c: ∀r,r∈a->uI (af r))(d:uH e)(h:g∈ni l a e):uH g:=by
 obtain⟨r,f,b⟩:=List.mem_filterMap.1 h
 grind [rJ]
def NxE(x:uQ) k e a:=
 a∈ni (af (ag (ag (nth x.r.bl k) 1) 1)) (x.at (toStr (ag (ag (nth x.r.bl k) 1) 0))) e\/a=e\/(∃s t,a=e.put s (bK e t))\/ ∃s n,a=e.put s ⟨false,n,ByteArray.mk #[]⟩
theorem CH x k a e:
  toInt (ag (nth x.r.bl k) 0)=1/\pQ x (k::a) e=(ni (af (ag (ag (nth x.r.bl k) 1) 1)) (x.at (toStr (ag (ag (nth x.r.bl k) 1) 0))) e).flatMap (pQ x a)\/pQ x (k::a) e=[]\/ ∃b,NxE x k e b/\pQ x (k::a) e=pQ x a b:=by
 grind [NxE,pQ]
def V5(x:uQ):=∀a r,r∈x.at a->uI (af r)
theorem V8{x}(c:V5 x){k e b}(a:uH e)(h:NxE x k e b):uH b:=by
 rcases h with h|rfl|⟨s,t,rfl⟩|⟨s,n,rfl⟩
 ·exact Nw (c _) a h
 ·grind
 ·grind [vb,Jh]
 ·exact vb a rfl
theorem HL{x k c e r}(h:r∈pQ x (k::c) e): ∃a,NxE x k e a/\r∈pQ x c a:=by
 rcases CH x k _ e with⟨_,b⟩|b|⟨a,b,d⟩
 ·rw[b] at h
  obtain⟨g,d,f⟩:=List.mem_flatMap.1 h;exact⟨g, .inl d,f⟩
 ·grind
 grind
theorem rp{x}(b:V5 x): ∀c {e},uH e->fN (pQ x c e)
 |[],e,d,r,a=>by
  rw[pQ,List.mem_singleton] at a;subst a;intro v g;obtain⟨t,_,rfl⟩:=List.mem_map.1 g
  grind [V6,Jh]
 |k::c,e,d,r,a=>by
  obtain⟨i,h,f⟩:=HL a;exact rp b _ (V8 b d h) r f
theorem Az{x}: ∀b {e r},r∈pQ x b e->r.length=x.r.hl.length
 |[],e,r,a=>by
  rw[pQ,List.mem_singleton] at a;subst a;exact List.length_map _
 |k::b,e,r,a=>by
  obtain⟨d,_,c⟩:=HL a;exact Az _ c
def Am(x:uQ)(a:List _):=(a.filter fun k=>toInt (ag (nth x.r.bl k) 0)==1).length
theorem CC{α β:Type}{f:α->List β}{m}: ∀{l:List _},(∀a,a∈l->(f a).length<=m)->(l.flatMap f).length<=l.length*m
 |[],_=>by simp
 |a::l,h=>by
  have d:=h a (by simp);have e:=CC (l:=l) fun b c=>h b (by grind)
  rw[List.flatMap_cons,as9,List.length_cons,Nat.succ_mul];omega
theorem Ay{x N}(h: ∀f,(x.at f).length<=N)(d:1<=N): ∀a e,(pQ x a e).length<=N ^ Am x a
 |[],e=>by rw[pQ];exact Nat.le_refl _
 | k::a,e=>by
  have c:Am x a<=Am x (k::a):=by
   unfold Am;rw[List.filter_cons];split<;>simp
  have i:=Nat.pow_le_pow_right d c;rcases CH x k a e with⟨b,l⟩|b|⟨m,_,b⟩
  ·rw[l]
   have j:=Nat.le_trans (w6 (af (ag (ag (nth x.r.bl k) 1) 1)) (x.at (toStr (ag (ag (nth x.r.bl k) 1) 0))) e) (h _);have c:Am x (k::a)=Am x a+1:=by
    unfold Am
    grind
   rw[c,Nat.pow_succ,Nat.mul_comm];exact Nat.le_trans (CC fun g _=>Ay h d a g) (Nat.mul_le_mul_right _ j)
  ·rw[b];exact Nat.zero_le _
  ·rw[b];exact Nat.le_trans (Ay h d a m) i
end Go.Proofs.YtioeffnadipbaaaGreatDoor
namespace Go.Proofs.YtioeffnadipbaaaGreatDoor
open Go Go.Dn Go.Rl Go.Proofs
attribute [local irreducible] a0 vc
set_option maxRecDepth 20000
theorem SL{E}(b:aE E){f:Nat}{a st K}(h:qR E f a st K):b7 E.P f a st K:=by
 refine⟨?_,fun C i e g c d=>by grind [o6]⟩;obtain⟨_,h⟩:=ai.1 h;simp[kn] at h;exact(b.call _ _ _ _ h).1
def EB.place(b:EB)(f:Nat)(l:List (Nat×Nat×TypeId)):EB:=
 ⟨b.E.aw f fun c s K=>qR _ f _ _ K,b.ok.fK fun _ _ _ a=>Ph (Pj l (SL b.ok a)),b.mono.aw fun _ _ _ _ d a=>x7 b.mono d a⟩
noncomputable def BGp κ:=EB.owns (EB.place (BGe κ) 98 [(0,4,70)]) [50,46]
theorem yGv κ ds rs ins r K:(a0 (BGp κ).E 12 50 [eH ds rs,au r, .ak 0 0 ins.length] [.row 51 ins] K)=(
 letI b:=Obj.row
 ∃(a:dh),([au r],[])=af1 a/\OkR a/\∃(a_1:bp),([AV.ptr 0 0 [] 0,AV.int 0,AV.eO 9 72 [] []],[Obj.box 160 (AV.agg [eH ds rs,au r,AV.ak 1
 0 (List.length (cR (aQ a))),AV.ak 2 0 ins.length,AV.ak 3 0 0]),b 3 (ints (cR (aQ a))),b 51 ins,b 70 []])=gi a_1/\cy
 a_1/\aq (List.isEmpty (bp.out a_1)) (∃(a:RL),([AV.ah 70 (List.take a_1.L.length (List.drop 0 (rws a_1.L)))],[])=SG a/\vt a/\K (AV.ah 70 (rws
 (eo a))) [b 51 a_1.x.ins]) (∃(a:RL),([AV.ah 70 (List.take (List.length (a_1.L++bp.out a_1)) (List.drop 0 (rws (a_1.L++bp.out a_1))))],[])=
 SG a/\vt a/\K (AV.ah 70 (rws (eo a))) [b 51 a_1.x.ins])):=by kernel_rfl
end Go.Proofs.YtioeffnadipbaaaGreatDoor
namespace Go.Proofs.YtioeffnadipbaaaGreatDoor
open Go Go.Dn Go.Rl Go.Proofs
theorem uU{ds a}(c:nJ ds a)(h:(lZ ds a).2=0){r}(b:r∈a):OkR (dr r):=by
 have d:=(sE.1 h).2.2.2 r b;refine⟨c.2.2 r b,?_,?_⟩
 ·grind [dr,kZ,F0]
 grind [kZ,F0]
theorem Fv{a s n l}(h:a=1\/a=2\/a=3):bL (.mk a s n l)=true:=by
 have c: ∀b,(a==1||(a==2||(a==3||b)))=true:=fun b=>by grind
 match l with
 |[]=>grind [bL]
 |[_]=>grind [bL]
 |[_,_]=>exact c _
 |_::_::_::_=>grind [bL]
theorem ld: ∀h t,ar h t=true->t.op≠4->bL t=true
 |0,t,c,_=>by simp[ar] at c
 | h+1, .mk f s n l,c,i=>by
  rw[tn] at c;by_cases j:f=0
  ·grind
  rw[ar8 j,ar9] at c;cases d:mx f with
  | true=>
   rw[d,as1] at c;simp only[ar5,ar4,lN,List.all_eq_true,Bool.not_eq_true',Bool.or_eq_false_iff,ar6] at c;obtain⟨⟨_,k⟩,e⟩:=c;match l,k,e with
   |[a,b],_,e=>
    have g:=e a (by simp);have d:=e b (by simp);simp only[bL,ld h a g.2 g.1.2,ld h b d.2 d.1.2,Bool.and_true,Bool.or_true]
  |false=>
   rw[d,ar9,ar5] at c;have m:=c.1;have i:f≠4:=i
   grind [bare,Fv,decide_eq_false]
theorem nv{a}(h:bn a=true):a.l.length<=8/\∀t,t∈a.l->t.op≠4->bL t=true:=by
 grind [bn,ld]
theorem HS{t}(h:VT t=true):bL t=true:=by
 obtain⟨a,s,n,l⟩:=t;simp[VT] at h;exact Fv (h.imp id .inl)
theorem RQ{t}(h:t.op=1):bL t=true:=by
 obtain⟨a,s,n,l⟩:=t;exact Fv (.inl h)
structure Yp(l:Lt):Prop where
 a:il l.op=true->bn l.a=true
 x:(l.op==1)=false->(l.op==2)=false->bL l.x=true
 y:(l.op==1)=false->(l.op==2)=false->l.op≠7->bL l.y=true
theorem VJ{l}(h:jl l=true):Yp l:=by
 unfold jl at h;by_cases b:(decide (l.op=1)||decide (l.op=2))=true
 ·rw[b,as1,ar5] at h
  refine⟨fun _=>h.1,fun e d=>?_,fun e d=>?_⟩
  all_goals
   simp only[as7,ar4] at b;rcases b with c|c<;>simp[c] at e d
 ·have b:(decide (l.op=1)||decide (l.op=2))=false:=by simpa using b
  rw[b,ar9] at h;by_cases a:(decide (l.op=3)||decide (l.op=4)||decide (l.op=5)||decide (l.op=6))=true
  ·rw[a,as1] at h
   simp only[ar5,Bool.not_eq_true',ar6] at h;refine⟨fun g=>?_,fun _ _=>ld 20 _ h.1.2 h.1.1.1.2,fun _ _ _=>ld 20 _ h.2 h.1.1.2⟩;simp only[as7,ar4] at a;rcases a with((c|c)|c)|c<;>simp[il,c] at g
  ·have a:(decide (l.op=3)||decide (l.op=4)||decide (l.op=5)||decide (l.op=6))=false:=by simpa using a
   rw[a,ar9] at h;by_cases c7:l.op=7
   ·rw[as0 c7,as1] at h
    simp only[ar5] at h;exact⟨fun _=>h.1.1,fun _ _=>HS h.1.2.1,fun _ _ f=>absurd c7 f⟩
   ·rw[ar8 c7,ar9] at h
    cases c8:(decide (l.op=8)||decide (l.op=9)||decide (l.op=10)) with
    |true=>
     rw[c8,as1] at h;simp only[ar5,ar4] at h;exact⟨fun _=>h.1.1.1,fun _ _=>HS h.1.1.2.1,fun _ _ _=>RQ h.1.1.2.2⟩
    |false=>rw[c8] at h;cases h
abbrev bh(a:List RL):List AV:=a.map fun L=> .ah 70 (rws L)
def G7 ds i:=(af (ag (nth ds i) 2)).length
structure dU(ds:List AV)(all:List RL):Prop where
 len:all.length=ds.length
 v: ∀L,L∈all->fN L
 r: ∀L,L∈all->cG L=true
 w: ∀i r,r∈all.getD i []->r.length=G7 ds i
theorem mP a i:af (nth (bh a) i)=rws (a.getD i []):=by
 grind [aM,af,fj]
def FT(ds b:List AV)(r:dh)(a:List RL):uQ:=⟨ds,b,r,cR (aQ r),bh a⟩
theorem sX ds c r a b:(FT ds c r a).at b=rws (a.getD (bx b ds).toNat []):=mP _ _
theorem u6{ds f r a}(h: ∀L,L∈a->fN L):V5 (FT ds f r a):=by
 intro b x c;rw[sX] at c;obtain⟨L,e,rfl⟩:=List.mem_map.1 c;rcases Nat.lt_or_ge (bx b ds).toNat a.length with d|d
 ·refine h _ ?_ L e
  grind
 grind
theorem Nf{ds a}(h:known (cO ds) a=0):a.l.length=G7 ds (bx a.rel ds).toNat:=by
 unfold known at h;cases e:kL a.rel (cO ds) with
 |none=>grind
 |some k=>
  obtain⟨_,b,d⟩:=om e;rw[yc e] at h;by_cases c:(mb ds k).length=a.l.length
  ·rw[←c,b,mb,List.length_map];rfl
  grind
theorem CN{a}(h:il a=true):Rl.dM ⟨a,⟨ByteArray.empty,[]⟩, .mk 0 ByteArray.empty 0 [], .mk 0 ByteArray.empty 0 []⟩=true:=by
 grind [Rl.dM,il]
theorem Iz{ds c}(h:(lZ ds c).2=0){r}(i:r∈c):known (cO ds) (aQ (dr r)).head=0/\∀l,l∈(aQ (dr r)).body->il l.op=true->known (cO ds) l.a=0:=by
 obtain⟨g,_,j,_⟩:=sE.1 h;have b:jf (cO ds) (aQ (dr r))=0:=by
  grind [Um,kj]
 unfold jf at b;cases e:decide (known (cO ds) (aQ (dr r)).head=0) with
 |false=>grind
 |true=>
  rw[e] at b;exact⟨by simpa using e,fun l f d=>qs b l f (CN d)⟩
theorem Mr{r k}(h:k<r.bl.length):c9 (nth r.bl k)∈(aQ r).body:=List.mem_map_of_mem (by grind [aM])
theorem MH{ds m}(I:nJ ds m)(n:(lZ ds m).2=0){r}(q:r∈m){b}(u:dU ds b)(P: ∀L,L∈b->L.length<=100000000):QT (FT ds m (dr r) b):=by
 have d:=uU I n q;have F:=r4 n q;have O:=Iz n q;have H:=d.r;simp only[a8,ar5,ar4,List.all_eq_true] at H;obtain⟨⟨⟨C,T⟩,K⟩,p⟩:=H;have hl:=tM d.f;have U:(aQ (dr r)).body.length=(dr r).bl.length:=fW _;have i: ∀k,k∈cR (aQ (dr r))->k<(dr r).bl.length:=fun k d=>by have:=sn d;omega
 refine⟨I.1,?_,i,?_,fun t s=>?_,fun k d=>?_⟩
 ·show(cR (aQ (dr r))).length<=100000
  omega
 ·have:=(nv C).1
  have e:(aQ (dr r)).head.l.length=(dr r).hl.length:=eD _;show(dr r).hl.length<=100000
  omega
 ·have j:cI t∈(aQ (dr r)).head.l:=List.mem_map_of_mem s
  rw[iB];have D:=K _ j;simp only[sL,ar5,Bool.not_eq_true',ar6] at D;exact(nv C).2 _ j D.1.1
 ·have d:=i k d
  have j:=Mr d;have o:=VJ (p _ j);have h:nth (dr r).bl k∈af (ag r 1):=by rw[aM _ k d];exact List.getElem_mem _
  have E:il (toInt (ag (nth (dr r).bl k) 0))=true->dM (toInt (ag (nth (dr r).bl k) 0))=true:=fun g=>by
   have:=CN g
   simp only[Rl.dM,as7,ar4] at this;unfold dM;by_cases c:toInt (ag (nth (dr r).bl k) 0)<3
   ·rw[as0 c];rfl
   ·rw[ar8 c,ar9,ar4];omega
  refine⟨fun g=>?_,fun g=>?_,fun z v=>by rw[iB];exact o.x z v,fun z v e7=>by rw[iB];exact o.y z v e7⟩
  ·have:=F.2 _ h (E g)
   refine⟨this.1,?_⟩;show _<((bh b).length:Int)
   rw[List.length_map,u.len];exact this.2
  ·have A:=nv (o.a g)
   have B:=Nf (O.2 _ j g);have R:(c9 (nth (dr r).bl k)).a.l.length=(af (ag (ag (nth (dr r).bl k) 1) 1)).length:=eD _;rw[sX];show Cc (af (ag (ag (nth (dr r).bl k) 1) 1)) (rws (b.getD (bx (toStr (ag (ag (nth (dr r).bl k) 1) 0)) ds).toNat []))
   have J:=F.2 _ h (E g);have Q:(bx (toStr (ag (ag (nth (dr r).bl k) 1) 0)) ds).toNat<b.length:=by have:=u.len;omega
   refine⟨?_,by omega,fun t s p=>?_,fun x J=>?_⟩
   ·rw[dX]
    refine P _ ?_;simp[List.getD_eq_getElem?_getD,Q]
   ·rw[iB]
    have e:=de t;refine A.2 _ (List.mem_map_of_mem s) ?_;rw[e];exact p
   ·obtain⟨L,N,rfl⟩:=List.mem_map.1 J
    rw[←R,B];exact u.w _ L N
theorem sk A B:A.length<=(et A B).length:=by
 match A,B with
 |[],B=>simp
 |a::c,[]=>
  have:=sk c []
  grind [B3]
 |a::c,b::d=>
  have f:=sk c (b::d);have g:=sk c d;have e:=sk (a::c) d
  grind [B2]
termination_by A.length+B.length
def cC(a:List RL):=(a.map List.length).sum
theorem Jc: ∀a i N,i<a.length->cC (a.set i N)+(a.getD i []).length=cC a+N.length
 |[],_,_,h=>absurd h (by simp)
 |L::a,0,N,_=>by grind [cC]
 |L::a,i+1,N,h=>by
  have:=Jc a i N (by grind)
  simp[cC,List.sum_cons,List.getD_cons_succ] at this⊢;omega
theorem sj{L}: ∀{a},L∈a->L.length<=cC a
 |M::a,h=>by
  simp[cC];rcases List.mem_cons.1 h with rfl|h
  ·simp
  ·have:=sj h;grind [cC]
section
variable (ds rs:List AV)
def dC r a:=eo (pQ (FT ds rs r a) (cR (aQ r)) [])
def atR r:=(bx (dr r).rel ds).toNat
def iP r(a:List _):=a.set (atR ds r) (et (a.getD (atR ds r) []) (dC ds rs (dr r) a))
def cu(g:List Int)(bf:Nat):List AV->List RL->Bool->List RL×Bool
 |[],a,b=>(a,b)
 |r::xs,a,b=>bif decide (bf<cC a) then(a,false)
  else bif !g.contains (bx (dr r).rel ds) then cu g bf xs a b
  else cu g bf xs (iP ds rs r a) (b||decide ((a.getD (atR ds r) []).length<(et (a.getD (atR ds r) []) (dC ds rs (dr r) a)).length))
def fw(g:List Int)(bf:Nat):Nat->List RL->List RL
 |0,a=>a
 |n+1,a=>bif (cu ds rs g bf rs a false).2 then fw g bf n (cu ds rs g bf rs a false).1 else(cu ds rs g bf rs a false).1
def gT bf(b:List _) a:=b.foldl (fun a g=>fw ds rs g bf 99 a) a
end
structure iQ(ds rs:List AV):Prop where
 s:nJ ds rs
 c:(lZ ds rs).2=0
variable {ds rs:List AV}
theorem iQ.at(h:iQ ds rs){r}(a:r∈rs):(0<=bx (dr r).rel ds/\bx (dr r).rel ds<ds.length)/\atR ds r<ds.length:=by
 have:=(r4 h.c a).1
 grind [dr,atR]
theorem H3:uH []:=fun _ hx=>nomatch hx
theorem u0(h:iQ ds rs){r}(b:r∈rs){a}(j:dU ds a):fN (dC ds rs (dr r) a)/\cG (dC ds rs (dr r) a)=true/\∀x,x∈dC ds rs (dr r) a->x.length=G7 ds (atR ds r):=by
 have d:fN (pQ (FT ds rs (dr r) _) (cR (aQ (dr r))) _):=rp (u6 j.v) _ H3;obtain⟨e,f,g⟩:=kc d;refine⟨g,e,fun x i=>?_⟩;rw[Az _ ((f x).1 i)];have:=Nf (Iz h.c b).1
 rw[show(aQ _).head.l.length=(dr r).hl.length from eD _] at this;exact this
theorem kQ{a:List RL}{i}(h:i<a.length):a.getD i []∈a:=by grind
theorem pM(h:iQ ds rs){r}(k:r∈rs){a}(c:dU ds a):dU ds (iP ds rs r a)/\cC a<=cC (iP ds rs r a)/\cC (iP ds rs r a)+(a.getD (atR ds r) []).length=cC a+(et (a.getD (atR ds r) []) (dC ds rs (dr r) a)).length:=by
 obtain⟨g,n,l⟩:=u0 h k c;have j:atR ds r<a.length:=by rw[c.len];exact(h.at k).2
 have f:=kQ j;have m:=Jc a (atR ds r) (et (a.getD (atR ds r) []) (dC ds rs (dr r) a)) j;have o:=sk (a.getD (atR ds r) []) (dC ds rs (dr r) a);refine⟨⟨?_,?_,?_,?_⟩,?_,m⟩
 ·rw[iP,List.length_set];exact c.len
 ·intro L d
  rcases List.mem_or_eq_of_mem_set d with d|rfl
  ·exact c.v L d
  ·intro x b
   rcases(gu (c.v _ f) g).1 b with b|b
   ·exact c.v _ f x b
   ·exact g x b
 ·intro L d
  rcases List.mem_or_eq_of_mem_set d with d|rfl
  ·exact c.r L d
  ·exact mG (c.v _ f) g (c.r _ f) n
 ·intro i x b
  by_cases e:atR ds r=i
  ·subst e
   rw[iP,List.getD_eq_getElem?_getD,List.getElem?_set_self j] at b;rcases(gu (c.v _ f) g).1 b with b|b
   ·exact c.w _ x b
   ·exact l x b
  ·rw[iP,List.getD_eq_getElem?_getD,List.getElem?_set_ne e,←List.getD_eq_getElem?_getD] at b
   exact c.w i x b
 ·unfold iP;omega
theorem lF(h:iQ ds rs) g bf: ∀xs a m,(∀r,r∈xs->r∈rs)->dU ds a->
  dU ds (cu ds rs g bf xs a m).1/\cC a<=cC (cu ds rs g bf xs a m).1/\((cu ds rs g bf xs a m).2=true->m=true\/cC a<cC (cu ds rs g bf xs a m).1)/\
  (cC (cu ds rs g bf xs a m).1<=bf->cu ds rs g (bf+1) xs a m=cu ds rs g bf xs a m)
 |[],a,m,_,b=>⟨b,Nat.le_refl _,fun h=> .inl h,fun _=>rfl⟩
 | r::xs,a,m,d,b=>by
  rw[cu,cu];by_cases c:bf<cC a
  ·grind
  ·rw[ar8 c,ar8 (show ¬ bf+1<cC a by omega),ar9,ar9]
   cases f: !g.contains (bx (dr r).rel ds) with
   |true=>exact lF h g bf xs a m (fun r e=>d r (by simp[e])) b
   |false=>
    obtain⟨s1,s2,i⟩:=pM h (d r (by simp)) b;obtain⟨j,k,l,n⟩:=lF h g bf xs (iP ds rs r a) (m||decide ((a.getD (atR ds r) []).length<(et (a.getD (atR ds r) []) (dC ds rs (dr r) a)).length)) (fun r e=>d r (by simp[e])) s1
    grind
theorem u5(h:iQ ds rs) g bf: ∀n a,dU ds a->
  dU ds (fw ds rs g bf n a)/\cC a<=cC (fw ds rs g bf n a)/\(cC (fw ds rs g bf n a)<=bf->fw ds rs g (bf+1) n a=fw ds rs g bf n a)
 |0,a,b=>⟨b,Nat.le_refl _,fun _=>rfl⟩
 | n+1,a,b=>by
  obtain⟨c,e,f,i⟩:=lF h g bf rs _ false (by simp) b;rw[fw,fw];cases j:(cu ds rs g _ rs a _).2 with
  |true=>
   obtain⟨k,l,d⟩:=u5 h g bf n _ c
   grind
  |false=>
   grind
theorem Ar(h:iQ ds rs) bf: ∀b a,dU ds a->
  dU ds (gT ds rs bf b a)/\cC a<=cC (gT ds rs bf b a)/\(cC (gT ds rs bf b a)<=bf->gT ds rs (bf+1) b a=gT ds rs bf b a)
 |[],a,c=>⟨c,Nat.le_refl _,fun _=>rfl⟩
 |g::b,a,c=>by
  obtain⟨d,f,i⟩:=u5 h g bf 99 _ c;obtain⟨j,k,e⟩:=Ar h bf b _ d
  grind [gT]
end Go.Proofs.YtioeffnadipbaaaGreatDoor
namespace Go.Proofs.YtioeffnadipbaaaGreatDoor
open Go Go.Dn Go.Rl Go.Proofs
attribute [local irreducible] a0 vc
set_option maxRecDepth 20000
structure Lm where
 ds:List AV
 rs:List AV
 r:dh
 all:List RL
def Lm.V(a:Lm):=pQ (FT a.ds a.rs a.r a.all) (cR (aQ a.r)) []
def K5(a:Lm):List AV×List Dn.Obj:=([eH a.ds a.rs,au a.r, .ak 0 0 (bh a.all).length],[.row 51 (bh a.all)])
structure qj(a:Lm):Prop where
 o:OkR a.r
 x:QT (FT a.ds a.rs a.r a.all)
 f:vt a.V
def Tz(a:Lm):Out (AV×List Dn.Obj):= .one (.ah 70 (rws (dC a.ds a.rs a.r a.all)),[.row 51 (bh a.all)])
theorem cGv κ:bc (BGp κ).E 12 50 (aO K5 qj Tz):=by
 refine aR ?_;rintro⟨ds,c,r,a⟩ K d b;have g:=d.f
 replace b:K (.ah 70 (rws (eo (Lm.V ⟨ds,c,r,a⟩)))) [.row 51 (bh a)]:=b
 refine Eq.mpr (yGv κ ds c (bh a) r K) ⟨r,rfl,d.o,⟨FT ds c r a,[],0,[]⟩,rfl,⟨d.x,Nat.zero_le _,?_⟩,ae.2 ⟨fun h=>⟨[],rfl,⟨Nat.zero_le _,fun r e=>(nomatch e),fun r e=>(nomatch e)⟩,?_⟩,fun h=>⟨_,?_,g,b⟩⟩⟩
 ·have:=g.n
  show 0+(Lm.V ⟨ds,c,r,a⟩).length<=100000000
  omega
 ·have h:(Lm.V ⟨ds,c,r,a⟩).isEmpty=true:=h
  rw[List.isEmpty_iff] at h;rw[h] at b;exact b
 ·rw[List.nil_append,as4,←dX,List.take_length];rfl
noncomputable def UG κ:=(BGp κ).call (cGv _)
def ju(xs:List _):=(xs.map fun x=>(af x).length).sum
theorem Ej xs a:ju (xs++a)=ju xs+ju a:=by simp[ju]
theorem ya a:ju (bh a)=cC a:=by
 unfold ju cC bh;rw[List.map_map];congr 1
 exact List.map_congr_left fun L _=>dX L
abbrev W0 xs(i:Nat):=sp 18 [(3, .int (ju (xs.take i))),(6, .ah 51 xs),(7, .int xs.length),(8, .int i)] []
theorem xTo κ xs i I N K:(vc (UG κ).E 12 47 none 0 (ad (Pr κ).toProgram 47 3) (W0 xs i) (bj (UG κ).E 47 3 0 I N K))=(
 letI a:=IntKind.wrap IntKind.i64
 letI b:=(↑i:Int)<(↑(xs.length):Int)
 aq (decide b) (aV (true&&decide b) (∃(e0:Nat),e0<N/\I e0 (sp 18 [(3,AV.int (a ((↑(ju (List.take i xs)):Int)+
 (↑(List.length (af (nth xs (Int.toNat (↑i:Int))))):Int)))),(6,AV.ah 51 xs),(7,AV.int (↑(xs.length):Int)),(8,AV.int (a ((↑i:
 Int)+(1:Int))))] []))) (K (Exit.exit 0) (sp 18 [(3,AV.int (↑(ju (List.take i xs)):Int))] []))):=by kernel_rfl
abbrev ATo:=List AV×Nat
abbrev PM(x:ATo):S:=W0 x.1 x.2
def Pb(x:ATo):=x.2<=x.1.length/\x.1.length<=100000/\ju x.1<=1000000000
def aa5(x:ATo):Out (Exit×S):= .one (.exit 0,sp 18 [(3, .int (ju x.1))] [])
theorem lTo κ:aU (UG κ).E 12 47 3 (aG 0 PM Pb aa5):=by
 refine aC (fun x=>x.1.length - x.2) ?_;rintro⟨xs,i⟩ K ⟨f,c,d⟩ b;simp only at f c d;rw[show(UG κ).E.P=Pr κ from rfl];refine Eq.mpr (xTo κ xs i _ _ K) ?_;simp only[Int.toNat_natCast];rw[ae,ar4,ar6];refine⟨fun h=>?_,fun h=>?_⟩
 ·have a:i<xs.length:=by omega
  have j:ju (xs.take (i+1))=ju (xs.take i)+(af (nth xs i)).length:=by
   rw[List.take_add_one,Ej,aM xs i a];simp[ju,a]
  have g:ju (xs.take (i+1))<=ju xs:=by
   have:=Ej (xs.take (i+1)) (xs.drop (i+1))
   rw[List.take_append_drop] at this;omega
  refine ai.2 ⟨by simp;omega,_,?_,⟨xs,i+1⟩,?_,⟨a,c,d⟩,rfl,b⟩
  ·simp only;omega
  ·simp only[PM,W0]
   grind [az,ju,af,nth]
 ·have e:xs.take i=xs:=List.take_of_length_le (by omega)
  simp only[e];exact b
noncomputable def U8 κ:=(UG κ).loop (lTo _)
theorem yTo κ xs K:(a0 (U8 κ).E 12 47 [.ah 51 xs] [] K)=(
 letI a:=Pg.toProgram (Env.P (EB.E (UG κ)))
 ad a 47 3=ad a 47 3/\∃(e0:ATo),sp 18 [(3,AV.int 0),(6,AV.ah 51 xs),(7,AV.int (↑(xs.length):Int)),(8,AV.int 0)] []=PM e0/\Pb e0/\K (AV.int
 (↑(ju e0.1):Int)) []):=by kernel_rfl
def gTo:List AV->Option (Bool×AV)
 |[.ah 51 xs]=>some (decide (xs.length<=100000)&&decide (ju xs<=1000000000), .int (ju xs))
 |_=>none
theorem pTo κ:cd (U8 κ).E 12 47 gTo:=by
 intro b x a;unfold gTo at a;split at a
 ·rename_i xs
  simp   at a;obtain⟨⟨d,c⟩,rfl⟩:=a;exact⟨_,rfl,rfl,Eq.mpr (yTo κ xs _) ⟨rfl,⟨xs,0⟩,rfl,⟨Nat.zero_le _,d,c⟩,rfl⟩⟩
 grind
noncomputable def U7 κ:=EB.Fx ((U8 κ).pure (pTo _)) [47]
structure SU where
 A:List AV
 B:List AV
 xs:List AV
abbrev nN(A B:List AV):List Dn.Obj:=[.box 51 (.ah 70 A), .box 51 (.ah 70 B)]
abbrev Sh(x:SU):=sp 52 [(0, .cf 0),(1, .ptr 1 0 [] 0),(2, .ptr 2 0 [] 0)] (.ext (some x.xs)::nN x.A x.B)
theorem xBo(κ:Kp)(x:SU)(I:Nat->S->Prop)(N:Nat)(K:Exit->S->Prop):(vc (U7 κ).E 12 82 none 3 (ad (Pr κ).toProgram 82 0) (Sh x) (bj (U7 κ).E 82 0 3 I N K))=(
 letI a:=AV.ptr
 letI b:=AV.agg
 letI c:=AV.bool
 letI d:=Obj.ext
 letI e:=Exit.ret
 letI f:=AV.aH
 letI g:=AV.cf
 letI j:=af (nth x.A 0)
 letI h:=x.A.length
 letI m:=List.drop 1 (List.take (Int.toNat (↑h:Int)) x.A)
 letI s:=true&&decide ((1:Int)<=(↑h:Int))&&decide ((↑h:Int)<=(↑h:Int))
 letI r:=true&&decide ((0:Int)<(↑h:Int))
 letI i:=x.B.length
 letI n:=List.drop 1 (List.take (Int.toNat (↑i:Int)) x.B)
 letI u:=true&&decide ((1:Int)<=(↑i:Int))&&decide ((↑i:Int)<=(↑i:Int))
 letI t:=true&&decide ((0:Int)<(↑i:Int))
 letI k:=af (nth x.B 0)
 letI l:=decide (bz j k<=(0:Int))
 letI o:=decide (bz j k>=(0:Int))
 letI p:=sp 52 [] (d none::nN m x.B)
 letI q:=sp 52 [] (d none::nN x.A n)
 letI v:=aq ((↑i:Int)==(0:Int)) (aV r (aV s (∃(e1:List AV),x.xs=f [AV.ah 72 j,b [c true,c false]]::e1/\(∃(e0:
  Nat),e0<N/\I e0 (sp 52 [(0,g 0),(1,a 1 0 [] 0),(2,a 2 0 [] 0)] (d (some e1)::nN m x.B)))/\K e p))) (aq ((↑h:Int)
  ==(0:Int)) (aV t (aV u (∃(e1:List AV),x.xs=f [AV.ah 72 k,b [c false,c true]]::e1/\(∃(e0:Nat),e0<N/\I e0 (sp 52
  [(0,g 0),(1,a 1 0 [] 0),(2,a 2 0 [] 0)] (d (some e1)::nN x.A n)))/\K e q))) (aV r (aV t (aV (decide (List.length j<=
  9223372036854775807)) (aq o (aV t (aV u (aq l (aV r (aV s (∃(e1:List AV),x.xs=f [AV.ah 72 j,b [c l,c o]]::e1/\(∃(e0:
  Nat),e0<N/\I e0 (sp 52 [(0,g 0),(1,a 1 0 [] 0),(2,a 2 0 [] 0)] (d (some e1)::nN m n)))/\K e (sp 52 [] (d none::
  nN m n))))) (∃(e1:List AV),x.xs=f [AV.ah 72 k,b [c l,c o]]::e1/\(∃(e0:Nat),e0<N/\I e0 (sp 52 [(0,g 0),(1,
  a 1 0 [] 0),(2,a 2 0 [] 0)] (d (some e1)::nN x.A n)))/\K e q)))) (aq l (aV r (aV s (∃(e1:List AV),x.xs=f [AV.ah 72
  j,b [c l,c o]]::e1/\(∃(e0:Nat),e0<N/\I e0 (sp 52 [(0,g 0),(1,a 1 0 [] 0),(2,a 2 0 [] 0)] (d (some e1)
  ::nN m x.B)))/\K e p))) (∃(e1:List AV),x.xs=f [AV.nil,b [c l,c o]]::e1/\(∃(e0:Nat),e0<N/\I e0 (sp 52 [(0,
  g 0),(1,a 1 0 [] 0),(2,a 2 0 [] 0)] (d (some e1)::nN x.A x.B)))/\K e (sp 52 [] (d none::nN x.A x.B)))))))))
 aq (decide ((↑h:Int)>(0:Int))) v (aq (decide ((↑i:Int)>(0:Int))) v (K (Exit.exit 0) (sp 52 [] (d (some x.xs)::nN x.A x.B))))):=by kernel_rfl
def Ex(l:List BI):List AV:=l.map fun x=> .aH [.ah 72 x.1, .agg [.bool x.2.1, .bool x.2.2]]
def tw(x:SU):=x.xs=Ex (fX (cU x.A) (cU x.B))/\eM x.A=true/\eM x.B=true
def Tt(_:SU):Out (Exit×S):= .all (fun _:Bool×List _×List _=>True) fun y=> .aq y.1
 (.one (.exit 0,sp 52 [] (.ext (some [])::nN y.2.1 y.2.2)))
 (.one (.ret,sp 52 [] (.ext none::nN y.2.1 y.2.2)))
theorem Mu p q:aq true p q=p:=rfl
theorem Ht p q:aq false p q=q:=rfl
theorem Mz(p:Prop):aV true p=p:=rfl
theorem pt{a A}(h:eM (a::A)=true):eM A=true:=by
 grind [eM]
theorem Nk(a:AV) A:decide (((a::A).length:Int)>0)=true/\(((a::A).length:Int)==0)=false/\(true&&decide ((0:Int)<(a::A).length))=true/\(true&&decide (1<=((a::A).length:Int))&&decide ((a::A).length<=((a::A).length:Int)))=true:=by grind
theorem lBo κ:aU (U7 κ).E 12 82 0 (aG 3 Sh tw Tt):=by
 refine aC (fun x=>x.A.length+x.B.length) ?_;rintro⟨A,B,xs⟩ K ⟨e,i,j⟩ l;simp only at e i j;rw[show(U7 κ).E.P=Pr κ from rfl];refine Eq.mpr (xBo κ ⟨A,B,xs⟩ _ _ K) ?_;have d: ∀(h f:List AV) (v:AV),eM h=true->eM f=true->h.length+f.length<A.length+B.length->xs=v::Ex (fX (cU h) (cU f))->∃g,xs=v::g/\(∃m,m<A.length+B.length/\ep Sh tw Tt (fun x=>x.A.length+x.B.length) K m (sp 52 [(0, .cf 0),(1, .ptr 1 0 [] 0),(2, .ptr 2 0 [] 0)] (.ext (some g)::nN h f)))/\K Exit.ret (sp 52 [] (.ext none::nN h f)):=
  fun h f v D y z C=>⟨_,C,⟨_,z,⟨h,f,_⟩,rfl,⟨rfl,D,y⟩,rfl,l⟩,l (false,h,f) trivial⟩
 simp only[Int.toNat_natCast,List.take_length];have e0:decide (((([]:List AV).length:Nat):Int)>0)=false:=rfl;have k:((((([]:List AV).length:Nat)):Int)==0)=true:=rfl;cases A with
 | nil=>
  cases B with
  |nil=>
   rw[show xs=[] from e];simp only[e0,k,Ht];exact l (true,[],[]) trivial
  |cons b B=>
   obtain⟨o,q,n,p⟩:=Nk b B;simp only[e0,k,o,q,n,p,Mu,Ht,Mz];exact d [] B _ i (pt j) (by simp) (by rw[e];cases B<;>rfl)
 | cons a A=>
  obtain⟨s,r,t,u⟩:=Nk a A;cases B with
  |nil=>
   simp only[k,s,r,t,u,Mu,Ht,Mz];exact d A [] _ (pt i) j (by simp) (by rw[e];rfl)
  | cons b B=>
   obtain⟨o,q,n,p⟩:=Nk b B;simp only[s,r,t,u,o,q,n,p,Bool.and_self,Mu,Ht,Mz];have F:=lC i 0;refine ai.2 ⟨by rw[ar4];omega,?_⟩;have w:fX (cU (a::A)) (cU (b::B))=bif decide (bz (af a) (af b)<0) then(af a,true,false)::fX (cU A) (cU (b::B)) else bif decide (bz (af a) (af b)=0) then(af a,true,true)::fX (cU A) (cU B) else(af b,false,true)::fX (cU (a::A)) (cU B):=rfl
   rw[w] at e;rw[show nth (a::A) 0=a from rfl,show nth (b::B) 0=b from rfl];rcases Int.lt_trichotomy (bz (af a) (af b)) 0 with c|c|c
   ·rw[as0 c] at e
    rw[ar8 (show ¬ bz (af a) (af b)>=0 by omega),as0 (show bz (af a) (af b)<=0 by omega)];exact d A (b::B) _ (pt i) j (by simp) e
   ·rw[ar8 (show ¬ bz (af a) (af b)<0 by omega),as0 c] at e
    rw[as0 (show bz (af a) (af b)>=0 by omega),as0 (show bz (af a) (af b)<=0 by omega)];exact d A B _ (pt i) (pt j) (by simp;omega) e
   ·rw[ar8 (show ¬ bz (af a) (af b)<0 by omega),ar8 (show ¬ bz (af a) (af b)=0 by omega)] at e
    rw[as0 (show bz (af a) (af b)>=0 by omega),ar8 (show ¬ bz (af a) (af b)<=0 by omega)];exact d (a::A) B _ i (pt j) (by simp) e
noncomputable def Uw κ:=(U7 κ).loop (lBo _)
theorem yBo κ(x:SU) K:(a0 (Uw κ).E 12 82 [.cf 0, .ptr 1 0 [] 0, .ptr 2 0 [] 0] (.ext (some x.xs)::nN x.A x.B) K)=(
 letI a:=Pg.toProgram (Env.P (EB.E (U7 κ)))
 ad a 82 0=ad a 82 0/\∃(e1:SU),sp 52 [(0,AV.cf 0),(1,AV.ptr 1 0 [] 0),(2,AV.ptr 2 0 [] 0)] (Obj.ext (some x.xs)::nN x.A x.B)=Sh e1/\tw e1/\∀
 (e0:Bool×List AV×List AV),True->aq e0.1 (K (AV.aH []) (Obj.ext (some [])::nN e0.2.1 e0.2.2)) (K (AV.aH []) (Obj.ext none::nN e0.2.1 e0.2.2))):=by kernel_rfl
def WD(x:SU):List AV×List Dn.Obj:=([.cf 0, .ptr 1 0 [] 0, .ptr 2 0 [] 0], .ext (some x.xs)::nN x.A x.B)
def N0(_:SU):Out (AV×List Dn.Obj):= .all (fun st'=>se st') fun st'=> .one (.aH [],st')
theorem cBp κ:bc (Uw κ).E 12 82 (aO WD tw N0):=by
 refine aR ?_;intro x K c a;refine Eq.mpr (yBo _ x K) ⟨rfl,x,rfl,c,fun y _=>?_⟩;obtain⟨b,e,d⟩:=y;cases b
 ·exact a _ trivial
 ·exact a _ trivial
noncomputable def Xh κ:=EB.inline ((Uw κ).call (cBp _)) [38]
abbrev nO:List AV:=[.ptr 1 0 [] 0, .ptr 2 0 [] 0]
noncomputable abbrev RC(A B:List AV):Dn.Obj:= .loop (iG Tryz.prog 15 5 .ready none (hG (bM 27) [(0, .ah 70 A),(1, .ah 70 B),(4, .nil),(5, .int 0),(6, .ptr 0 0 [] 0),(8, .ah 70 A),(9, .bool (cG (cU A))),(10, .bool !cG (cU A)),(11, .bool false),(12, .ah 70 B),(13, .bool (cG (cU B))),(14, .bool !cG (cU B)),(15, .bool false),(16, .ah 70 A),(17, .ah 70 B),(18, .bm 82 nO)]))
noncomputable abbrev tI A B:=[.box 51 .nil, .box 51 (.ah 70 A), .box 51 (.ah 70 B),RC A B]
noncomputable abbrev G4 A B W:=[.box 51 (.ak 4 0 W.length), .dead, .dead,RC A B, .row 70 (rws W)]
theorem sUn κ A B Q:(tidy (Pr κ).toProgram 4 (dt (tI A B) (bV (tI A B) nO)) Q)=(
 Q [Obj.box 51 (AV.ak 4 0 0),Obj.dead,Obj.dead,RC A B,Obj.row 70 []]):=by kernel_rfl
theorem rUn κ A B t W p q Q(K2:List Dn.Obj->Prop):(fQ (vc (Xh κ).E 12) 3 [.ah 72 t, .agg [.bool p, .bool q]] (G4 A B W) (fun r st''=>match r with| .lit (.bool true)=>tidy (Pr κ).toProgram 4 st'' Q| .lit (.bool false)=>K2 st''|_=>False))=(
 ∃(a:List AV),([AV.ah 72 t],[])=PD a/\a.length<=100000000/\aV (decide ((W.length+1+1)*25<=70368744177664)) (Q [Obj.box 51 (AV.ak 4 0
 (W.length+1)),Obj.dead,Obj.dead,RC A B,Obj.row 70 (List.take W.length (rws W)++[AV.ah 72 a])])):=by kernel_rfl
theorem oUn A B:lD (tI A B) nO=true:=by kernel_rfl
theorem kUn A B xs:(AV.cf 0::fE (ij (bV (tI A B) nO)) nO,Obj.ext (some xs)::gg (ij (bV (tI A B) nO)) (fY (tI A B) (bV (tI A B) nO)))=([.cf 0, .ptr 1 0 [] 0, .ptr 2 0 [] 0], .ext (some xs)::nN A B):=by kernel_rfl
structure Vl(A B:List AV):Prop where
 a:eM A=true
 b:eM B=true
 n:(fX (cU A) (cU B)).length<=100000000
 s: ∀x,x∈fX (cU A) (cU B)->x.1.length<=100000000
noncomputable def ab8:ee:=fun a st K=>∃A B,(a,st)=(nO,tI A B)/\Vl A B/\K (G4 A B (et (cU A) (cU B)))
theorem K0:ab8.fU:=by
 rintro a st K f d ⟨A,B,c,e,b⟩;exact⟨A,B,c,e,d _ b⟩
theorem Vw κ a st K(h:aO WD tw N0 a st K):(Xh κ).E.call 82 a st K:=h
theorem gUn κ:ir (Xh κ).E 12 82 ab8:=by
 rintro k st K ⟨A,B,w,m,v⟩;obtain⟨rfl,rfl⟩:=Prod.mk.inj (show(k,st)=(nO,tI A B) from w);refine⟨Ex (fX (cU A) (cU B)),fun g st'=>∃d c:List BI,g=Ex c/\st'=G4 A B (d.map (·.1))/\d++c=fX (cU A) (cU B),⟨oUn A B,?_,?_,?_,?_⟩⟩
 ·refine Vw κ _ _ _ ⟨⟨A,B,Ex (fX (cU A) (cU B))⟩,?_,⟨rfl,m.a,m.b⟩,fun st' h=>h⟩
  rw[kUn];rfl
 ·rw[show(Xh κ).E.P=Pr κ from rfl,show(tI A B).length=4 from rfl,sUn]
  exact⟨[],_,rfl,rfl,List.nil_append _⟩
 ·rintro C u st' ⟨d,c,o,rfl,i⟩
  cases c with
  |nil=>cases o
  | cons x c=>
   obtain⟨t,p,q⟩:=x;obtain⟨z,rfl⟩:=List.cons.inj o;obtain rfl:=AV.aH.inj z;rw[show(Xh κ).E.P=Pr κ from rfl,show(tI A B).length=4 from rfl,show(4:Nat) - 1=3 from rfl];have r:=m.n;rw[←i] at r;simp only[as9,List.length_cons] at r;have y:t.length<=100000000:=m.s (t,p,q) (by rw[←i];simp);have f: ∃l j:List BI,Ex c=Ex j/\G4 A B (d.map (·.1)++[t])=G4 A B (l.map (·.1))/\l++j=fX (cU A) (cU B):=
    ⟨d++[(t,p,q)],c,rfl,by rw[List.map_append];rfl,by rw[←i];simp⟩
   refine Eq.mpr (rUn κ A B t (d.map (·.1)) p q (fun st'=>∃l j:List BI,Ex c=Ex j/\st'=G4 A B (l.map (·.1))/\l++j=fX (cU A) (cU B)) K) ⟨t,rfl,y,ai.2 ⟨?_,?_⟩⟩
   ·rw[ar4,List.length_map];omega
   ·have e:List.take (d.map (·.1)).length (rws (d.map (·.1)))++[AV.ah 72 t]=rws (d.map (·.1)++[t]):=by
     rw[←vf,←dX (d.map (·.1)),List.take_length]
    rw[e];simp only[G4,as9,List.length_singleton] at f;exact f
 ·rintro st' ⟨d,c,o,rfl,i⟩
  obtain rfl:c=[]:=by cases c with|nil=>rfl|cons _ _=>cases o
  rw[List.append_nil] at i;rw[i];exact v
noncomputable def Va κ:=(Xh _).range 15 5 K0 (gUn κ) fun f=>iH f (82::JS)
theorem yUn κ A B K:(a0 (Va κ).E 12 15 [.ah 70 A, .ah 70 B] [] K)=(
 letI a:=K (AV.aH [AV.nil,AV.int 80]) []
 aV (eM A) (aq (!cG (cU A)) a (aV (eM B) (aq (!cG (cU B)) a (∃(e1:List AV),∃(e0:List AV),([AV.ptr 1 0 [] 0,AV.ptr 2 0 [] 0],tI A B)=([AV.ptr 1 0 []
 0,AV.ptr 2 0 [] 0],tI e1 e0)/\Vl e1 e0/\K (AV.aH [AV.ak 0 0 (List.length (et (cU e1) (cU e0))),AV.int 0]) [Obj.row 70 (rws (et (cU e1) (cU e0)))]))))):=by kernel_rfl
abbrev P6:=List AV×List AV
def SK(x:P6):List AV×List Dn.Obj:=([.ah 70 x.1, .ah 70 x.2],[])
structure vw(x:P6):Prop where
 f:Vl x.1 x.2
 a:cG (cU x.1)=true
 b:cG (cU x.2)=true
def aa6(x:P6):Out (AV×List Dn.Obj):= .one (.aH [.ak 0 0 (et (cU x.1) (cU x.2)).length, .int 0],[.row 70 (rws (et (cU x.1) (cU x.2)))])
theorem cUn κ:bc (Va κ).E 12 15 (aO SK vw aa6):=by
 refine aR ?_;rintro⟨A,B⟩ K ⟨c,e,f⟩ d;refine Eq.mpr (yUn _ A B K) (ai.2 ⟨c.a,?_⟩);rw[e];refine ai.2 ⟨c.b,?_⟩;rw[f];exact⟨A,B,rfl,c,d⟩
noncomputable def BUn κ:=((Va κ).call (cUn _)).calm [15,50]
end Go.Proofs.YtioeffnadipbaaaGreatDoor
