import Derived.Test.YtioeffnadipbaaaGreatDoorDePD
import Derived.Test.YtioeffnadipbaaaGreatDoorDeP8
import Derived.Test.YtioeffnadipbaaaGreatDoorDePC
namespace Go.Proofs.YtioeffnadipbaaaGreatDoor
open Go Go.Dn Go.Rl Go.Proofs
attribute [local irreducible] a8 vc
set_option maxRecDepth 20000
theorem br.ar0(a:br) b:a.t=nth a.x.r.bl a.x.od[a.i]:=by
 grind [xZ]
theorem br.Yw(a:br)(b:a.i<a.x.od.length):a.out=bif toInt (af a.t 0)==1 then a.all
  else bif toInt (af a.t 0)==2 then(bif (M0 a).isEmpty then wj a a.e else[])
  else bif toInt (af a.t 0)==3||(toInt (af a.t 0)==4||(toInt (af a.t 0)==5||toInt (af a.t 0)==6)) then
   (bif toInt (af a.t 0)==3&&dn a.e (dQ (af a.t 2)) then wj a (a.e.put (dQ (af a.t 2)).s (bI a.e (dQ (af a.t 3)).tm))
    else bif toInt (af a.t 0)==3&&dn a.e (dQ (af a.t 3)) then wj a (a.e.put (dQ (af a.t 3)).s (bI a.e (dQ (af a.t 2)).tm))
    else bif ik (toInt (af a.t 0)) (bI a.e (dQ (af a.t 2)).tm) (bI a.e (dQ (af a.t 3)).tm) then wj a a.e else[])
  else
   (bif !oL (toInt (af a.t 0)) (iA ((M0 a).map (mW (toInt (af a.t 0)) (dQ (af a.t 3))))) then[]
    else bif dn a.e (dQ (af a.t 2)) then wj a (a.e.put (dQ (af a.t 2)).s ⟨false,nC (toInt (af a.t 0)) (iA ((M0 a).map (mW (toInt (af a.t 0)) (dQ (af a.t 3))))),ByteArray.mk #[]⟩)
    else bif (bI a.e (dQ (af a.t 2)).tm).n==nC (toInt (af a.t 0)) (iA ((M0 a).map (mW (toInt (af a.t 0)) (dQ (af a.t 3))))) then wj a a.e else[]):=by
 have c:=a.ar0 b;unfold br.out br.all M0 wj br.l br.rel
 grind [List.drop_eq_getElem_cons,mL]
theorem cGe κ r:bd (EGm κ r) 12 98 (YL r):=by
 refine aQ ?_;rintro a K ⟨p,hr⟩ z
 replace z:aq a.out.isEmpty (K (.aH []) (dH a.x a.L)) (K (.aH []) (oV a.x (a.L++a.out))):=z
 refine Eq.mpr (yGo κ r a K) ?_;have hn:=p.x.n;have w:=p.n;have hle:=p.i;refine ae.2 ⟨fun e0=>?_,fun e0=>?_⟩
 ·have e0:(a.i:Int)=a.x.od.length:=by simpa using e0
  have c:a.out=[gH a.x.r.hl a.e]:=by
   unfold br.out;rw[aD3 (by omega)];rfl
  refine⟨rfl,⟨a.x,a.L,a.e,0⟩,rfl,⟨Nat.zero_le _,p.x.h,p.x.hv⟩,ai.2 ⟨?_,?_⟩⟩
  ·rw[c] at w
   simp only[List.length_singleton] at w;rw[at3];simp only;omega
  ·rw[c] at z
   have hx:List.take a.L.length (rws a.L)++[AV.ah 72 (List.take (gH a.x.r.hl a.e).length (List.drop 0 (gH a.x.r.hl a.e)))]=rws (a.L++[gH a.x.r.hl a.e]):=by
    rw[aD5,List.take_length,←wP,←eC a.L,List.take_length]
   show K (.aH []) [_,_,_,_, .row 70 (List.take a.L.length (rws a.L)++[AV.ah 72 (List.take (gH a.x.r.hl a.e).length (List.drop 0 (gH a.x.r.hl a.e)))])]
   rw[hx];have hl:(a.L++[gH a.x.r.hl a.e]).length=a.L.length+1:=by simp
   rw[←hl];exact z
 ·have e0: ¬ (a.i:Int)=a.x.od.length:=by simpa using e0
  have O:a.i<a.x.od.length:=by omega
  have hw:=az (n:=(a.i:Int)+1) (by omega) (by omega);have hm:a.x.od[a.i]∈a.x.od:=List.getElem_mem _;have c:=a.Yw O;have hk:toInt a.k=(a.x.od[a.i]:Int):=by
   have h:=xZ a.x.od a.i O;simp only[br.k,br.j,Nat.zero_add,Int.toNat_natCast,h]
  have F:aa2 a.x a.t:=by rw[a.ar0 O];exact p.x.t _ hm
  have g:=p.x.o _ hm;have f: ∀H,a.out=wj a H->∃m,m<r/\∃b:br,([AV.ptr 0 0 [] 0,AV.int (IntKind.wrap .i64 ((a.i:Int)+1)),da H],dH a.x a.L)=gL b/\(cL b/\b.x.od.length - b.i=m)/\aq b.out.isEmpty (K (AV.aH []) (dH b.x b.L)) (K (AV.aH []) (oV b.x (b.L++b.out))):=fun H Z=>by
   refine⟨a.x.od.length - (a.i+1),by omega,⟨a.x,a.L,a.i+1,H⟩,by rw[hw];rfl,⟨⟨p.x,O,?_⟩,rfl⟩,?_⟩
   ·show a.L.length+(wj a H).length<=100000000
    rw[←Z];exact w
   ·show aq (wj a H).isEmpty (K (AV.aH []) (dH a.x a.L)) (K (AV.aH []) (oV a.x (a.L++wj a H)))
    rw[←Z];exact z
  have none:a.out=[]->K (.aH []) (dH a.x a.L):=fun h=>by rw[h] at z;exact z
  refine ai.2 ⟨by simp;omega,ai.2 ⟨by rw[hk];simp;omega,?_⟩⟩;refine ae.2 ⟨fun y=>?p1,fun y=>ae.2 ⟨fun B=>?p2,fun B=>?_⟩⟩
  case p1=>
   have C:fv (toInt (af a.t 0))=true:=by unfold fv;rw[y];rfl
   rw[y,aD2] at c;have D:=F.at0 C;refine⟨⟨⟨a.x,a.L,a.rel,a.l⟩,rfl,⟨p.x.d,D.1,D.2⟩⟩,⟨rfl,rfl,rfl,rfl,rfl,trivial⟩,a,by kernel_rfl,⟨p.x,O,hr,F.at1 C,by rw[c] at w;exact w⟩,?_⟩;rw[c] at z;exact z
  case p2=>
   have C:fv (toInt (af a.t 0))=true:=by unfold fv;rw[y,B];rfl
   rw[y,B,aD0,aD2] at c;have D:=F.at0 C;exact⟨⟨⟨a.x,a.L,a.rel,a.l⟩,rfl,⟨p.x.d,D.1,D.2⟩⟩,⟨rfl,rfl,rfl,rfl,rfl,trivial⟩,a,by kernel_rfl,F.at1 C,ae.2 ⟨fun U=>f _ (by rw[c,U];rfl),fun U=>none (by rw[c,U];rfl)⟩⟩
  have P:=F.u y B;have N:=F.v y B;refine ae.2 ⟨fun V=>?p3,fun V=>ae.2 ⟨fun W=>?p4,fun W=>ae.2 ⟨fun Q=>?p5,fun Q=>ae.2 ⟨fun R=>?p6,fun R=>?p7⟩⟩⟩⟩
  case p7=>
   rw[y,B,V,W,Q,R] at c;simp only[aD0,Bool.or_false] at c;have C:fv (toInt (af a.t 0))=true:=by unfold fv;rw[y,B,V,W,Q,R];rfl
   have D:=F.at0 C;refine⟨⟨a.x,a.L,toInt (af a.t 0),a.rel,a.l,dQ (af a.t 2),dQ (af a.t 3),a.e⟩,rfl,⟨p.x.d,D.1,D.2,⟨F.at1 C,N⟩⟩,?_⟩;refine ae.2 ⟨fun g=>none ?_,fun g=>⟨⟨a.e,dQ (af a.t 2)⟩,rfl,trivial,ae.2 ⟨fun A=>⟨⟨a.e,(dQ (af a.t 2)).s,⟨false,_,ByteArray.mk #[]⟩⟩,rfl,trivial,f _ ?_⟩,fun A=>⟨⟨a.e,dQ (af a.t 2)⟩,rfl,P,ae.2 ⟨fun I=>f _ ?_,fun I=>none ?_⟩⟩⟩⟩⟩
   ·have g:(!oL (toInt (af a.t 0)) (iA ((M0 a).map (mW (toInt (af a.t 0)) (dQ (af a.t 3))))))=true:=g
    rw[c,g];rfl
   ·have g:(!oL (toInt (af a.t 0)) (iA ((M0 a).map (mW (toInt (af a.t 0)) (dQ (af a.t 3))))))=false:=g
    rw[c,g,A];rfl
   ·have g:(!oL (toInt (af a.t 0)) (iA ((M0 a).map (mW (toInt (af a.t 0)) (dQ (af a.t 3))))))=false:=g
    have I:((bI a.e (dQ (af a.t 2)).tm).n==nC (toInt (af a.t 0)) (iA ((M0 a).map (mW (toInt (af a.t 0)) (dQ (af a.t 3))))))=true:=I;rw[c,g,A,I];rfl
   ·have g:(!oL (toInt (af a.t 0)) (iA ((M0 a).map (mW (toInt (af a.t 0)) (dQ (af a.t 3))))))=false:=g
    have I:((bI a.e (dQ (af a.t 2)).tm).n==nC (toInt (af a.t 0)) (iA ((M0 a).map (mW (toInt (af a.t 0)) (dQ (af a.t 3))))))=false:=I;rw[c,g,A,I];rfl
  all_goals
   have X:(toInt (af a.t 0)==3||(toInt (af a.t 0)==4||(toInt (af a.t 0)==5||toInt (af a.t 0)==6)))=true:=by simp_all
   have h7:toInt (af a.t 0)≠7:=by intro h;rw[h] at X;cases X
   rw[y,B,X,aD0,aD0,aD2] at c;have N:=N h7;have E:(a.out=bif ik (toInt (af a.t 0)) (bI a.e (dQ (af a.t 2)).tm) (bI a.e (dQ (af a.t 3)).tm) then wj a a.e else[])->aq (ik (toInt (af a.t 0)) (bI a.e (dQ (af a.t 2)).tm) (bI a.e (dQ (af a.t 3)).tm)) (∃m,m<r/\∃b:br,([AV.ptr 0 0 [] 0,AV.int (IntKind.wrap .i64 ((a.i:Int)+1)),da a.e],dH a.x a.L)=gL b/\(cL b/\b.x.od.length - b.i=m)/\aq b.out.isEmpty (K (AV.aH []) (dH b.x b.L)) (K (AV.aH []) (oV b.x (b.L++b.out)))) (K (.aH []) (dH a.x a.L)):=
    fun h=>ae.2 ⟨fun q=>f _ (by rw[h,q];rfl),fun q=>none (by rw[h,q];rfl)⟩
   refine ae.2 ⟨fun J=>⟨⟨a.e,dQ (af a.t 2)⟩,rfl,trivial,ae.2 ⟨fun A=>⟨⟨a.e,dQ (af a.t 3)⟩,rfl,N,⟨a.e,(dQ (af a.t 2)).s,bI a.e (dQ (af a.t 3)).tm⟩,rfl,trivial,f _ (by rw[c,J,A];rfl)⟩,
    fun A=>ae.2 ⟨fun _=>⟨⟨a.e,dQ (af a.t 3)⟩,rfl,trivial,ae.2 ⟨fun Y=>⟨⟨a.e,dQ (af a.t 2)⟩,rfl,P,⟨a.e,(dQ (af a.t 3)).s,bI a.e (dQ (af a.t 2)).tm⟩,rfl,trivial,f _ (by rw[c,J,A,Y];rfl)⟩,
     fun Y=>⟨⟨a.e,dQ (af a.t 2)⟩,rfl,P,⟨a.e,dQ (af a.t 3)⟩,rfl,N,⟨toInt (af a.t 0),bI a.e (dQ (af a.t 2)).tm,bI a.e (dQ (af a.t 3)).tm⟩,rfl,trivial,E (by rw[c,J,A,Y];rfl)⟩⟩⟩,fun T=>absurd (J.symm.trans T) (by simp)⟩⟩⟩,
    fun J=>ae.2 ⟨fun T=>absurd (T.symm.trans J) (by simp),fun _=>⟨⟨a.e,dQ (af a.t 2)⟩,rfl,P,⟨a.e,dQ (af a.t 3)⟩,rfl,N,⟨toInt (af a.t 0),bI a.e (dQ (af a.t 2)).tm,bI a.e (dQ (af a.t 3)).tm⟩,rfl,trivial,E (by rw[c,J];rfl)⟩⟩⟩
theorem qGe κ: ∀b st K,aM gL cL VO b st K->cf (Pr κ) 98 b st K:=by
 rintro b st K ⟨a,d,e,c⟩;exact aE.qh _ _ (eGm _) (cGe _) _ _ _ K ⟨a,d,⟨e,rfl⟩,c⟩
noncomputable def BGe κ:=(DP κ).ZJ aJ (qGe _)
end Go.Proofs.YtioeffnadipbaaaGreatDoor
namespace Go.Proofs.YtioeffnadipbaaaGreatDoor
open Go Go.Dn Go.Rl Go.Proofs
def Md(v:fe):=bif v.y then v.n=0 else v.s=ByteArray.mk #[]
theorem Yk{v}(h:Md v):TV (fq v):=⟨rfl,h⟩
def wh(e:dq):=∀x,x∈e->Md x.2
theorem Jo: ∀{e s},wh e->Md (e.get s)
 |[],_,_=>rfl
 |(t,w)::e,s,h=>by
  rw[dq.get];cases decide (s=t) with
  |true=>exact h (t,w) (by simp)
  |false=>exact Jo fun x a=>h x (by grind)
theorem wM: ∀{e s v},wh e->Md v->wh (e.put s v)
 |[],s,v,_,b,x,a=>by
  grind [dq.put]
 | (t,w)::e,s,v,h,b,x,a=>by
  rw[dq.put] at a;cases c:decide (s=t) with
  |true=>
   rw[c] at a;rcases List.mem_cons.1 a with rfl|a
   ·exact b
   ·exact h x (by grind)
  |false=>
   rw[c] at a;rcases List.mem_cons.1 a with rfl|a
   ·exact h _ (by simp)
   ·exact wM (fun y d=>h y (by simp[d])) b x a
theorem KV{e}(h:wh e): ∀t,Md (bI e t)
 | .mk a s n l=>by
  rw[bI];cases a==1 with
  |true=>exact Jo h
  | false=>cases a==2 with
   |true=>rfl
   | false=>cases a==3 with
    |true=>rfl
    |false=>
     unfold Tf;split<;>rfl
theorem TX{a}(h:wi a) j:Md (Ad (nth a j)):=by
 rcases Nat.lt_or_ge j _ with b|b
 ·rw[aV _ j b]
  exact(h _ (by simp)).2
 ·rw[gr _ j b];rfl
theorem sQ{a}(c:wi a): ∀{l j g d},wh g->mM a l j g=some d->wh d
 |[],_,g,d,b,h=>by
  grind [mM]
 | t::k,j,g,d,b,h=>by
  rw[mM] at h;cases i:toInt (af t 0)==4 with
  |true=>rw[i] at h;exact sQ c b h
  | false=>
   rw[i] at h;cases f:dn g (dQ t) with
   |true=>rw[f] at h;exact sQ c (wM b (TX c j)) h
   |false=>
    rw[f] at h;cases e: !C5 _ _ with
    |true=>rw[e] at h;cases h
    |false=>rw[e] at h;exact sQ c b h
theorem Pm{l a e g}(c: ∀r,r∈a->wi (ag r))(d:wh e)(h:g∈mN l a e):wh g:=by
 obtain⟨r,f,b⟩:=List.mem_filterMap.1 h
 grind [sQ]
def NxE(x:vL) k e a:=
 a∈mN (ag (af (af (nth x.r.bl k) 1) 1)) (x.at (toStr (af (af (nth x.r.bl k) 1) 0))) e\/a=e\/(∃s t,a=e.put s (bI e t))\/ ∃s n,a=e.put s ⟨false,n,ByteArray.mk #[]⟩
theorem Ek x k a e:
  toInt (af (nth x.r.bl k) 0)=1/\mL x (k::a) e=(mN (ag (af (af (nth x.r.bl k) 1) 1)) (x.at (toStr (af (af (nth x.r.bl k) 1) 0))) e).flatMap (mL x a)\/mL x (k::a) e=[]\/ ∃b,NxE x k e b/\mL x (k::a) e=mL x a b:=by
 grind [NxE,mL]
def Yj(x:vL):=∀a r,r∈x.at a->wi (ag r)
theorem Yn{x}(c:Yj x){k e b}(a:wh e)(h:NxE x k e b):wh b:=by
 rcases h with h|rfl|⟨s,t,rfl⟩|⟨s,n,rfl⟩
 ·exact Pm (c _) a h
 ·grind
 ·grind [wM,KV]
 ·exact wM a rfl
theorem Jp{x k c e r}(h:r∈mL x (k::c) e): ∃a,NxE x k e a/\r∈mL x c a:=by
 rcases Ek x k _ e with⟨_,b⟩|b|⟨a,b,d⟩
 ·rw[b] at h
  obtain⟨g,d,f⟩:=List.mem_flatMap.1 h;exact⟨g, .inl d,f⟩
 ·grind
 grind
theorem qo{x}(b:Yj x): ∀c {e},wh e->gU (mL x c e)
 |[],e,d,r,a=>by
  rw[mL,List.mem_singleton] at a;subst a;intro v g;obtain⟨t,_,rfl⟩:=List.mem_map.1 g
  grind [Yk,KV]
 |k::c,e,d,r,a=>by
  obtain⟨i,h,f⟩:=Jp a;exact qo b _ (Yn b d h) r f
theorem B2{x}: ∀b {e r},r∈mL x b e->r.length=x.r.hl.length
 |[],e,r,a=>by
  rw[mL,List.mem_singleton] at a;subst a;exact List.length_map _
 |k::b,e,r,a=>by
  obtain⟨d,_,c⟩:=Jp a;exact B2 _ c
def BJ(x:vL)(a:List _):=(a.filter fun k=>toInt (af (nth x.r.bl k) 0)==1).length
theorem Eh{α β:Type}{f:α->List β}{m}: ∀{l:List _},(∀a,a∈l->(f a).length<=m)->(l.flatMap f).length<=l.length*m
 |[],_=>by simp
 |a::l,h=>by
  have d:=h a (by simp);have e:=Eh (l:=l) fun b c=>h b (by grind)
  rw[List.flatMap_cons,aE1,List.length_cons,Nat.succ_mul];omega
theorem B1{x N}(h: ∀f,(x.at f).length<=N)(d:1<=N): ∀a e,(mL x a e).length<=N ^ BJ x a
 |[],e=>by rw[mL];exact Nat.le_refl _
 | k::a,e=>by
  have c:BJ x a<=BJ x (k::a):=by
   unfold BJ;rw[List.filter_cons];split<;>simp
  have i:=Nat.pow_le_pow_right d c;rcases Ek x k a e with⟨b,l⟩|b|⟨m,_,b⟩
  ·rw[l]
   have j:=Nat.le_trans (yn (ag (af (af (nth x.r.bl k) 1) 1)) (x.at (toStr (af (af (nth x.r.bl k) 1) 0))) e) (h _);have c:BJ x (k::a)=BJ x a+1:=by
    unfold BJ
    grind
   rw[c,Nat.pow_succ,Nat.mul_comm];exact Nat.le_trans (Eh fun g _=>B1 h d a g) (Nat.mul_le_mul_right _ j)
  ·rw[b];exact Nat.zero_le _
  ·rw[b];exact Nat.le_trans (B1 h d a m) i
end Go.Proofs.YtioeffnadipbaaaGreatDoor
namespace Go.Proofs.YtioeffnadipbaaaGreatDoor
open Go Go.Dn Go.Rl Go.Proofs
attribute [local irreducible] a8 vc
set_option maxRecDepth 20000
theorem U5{E}(b:aE E){f:Nat}{a st K}(h:r4 E f a st K):cf E.P f a st K:=by
 refine⟨?_,fun C i e g c d=>by grind [pZ]⟩;obtain⟨_,h⟩:=ai.1 h;simp[kW] at h;exact(b.call _ _ _ _ h).1
def EB.place(b:EB)(f:Nat)(l:List (Nat×Nat×TypeId)):EB:=
 ⟨b.E.ax f fun c s K=>r4 _ f _ _ K,b.ok.fQ fun _ _ _ a=>Q4 (Q5 l (U5 b.ok a)),b.mono.ax fun _ _ _ _ d a=>zn b.mono d a⟩
noncomputable def BGp κ:=EB.owns (EB.place (BGe κ) 98 [(0,4,70)]) [50,46]
theorem yGv κ ds rs ins r K:(a8 (BGp κ).E 12 50 [eg ds rs,aw r, .ak 0 0 ins.length] [.row 51 ins] K)=(
 letI b:=Obj.row
 ∃a,([aw r],[])=aq0 a/\OkR a/\∃a_1,([.ptr 0 0 [] 0,AV.int 0,.fh 9 72 [] []],[.box 160 (.agg [eg ds rs,aw r,.ak 1
 0 (List.length (c6 (aL a))),.ak 2 0 ins.length,.ak 3 0 0]),b 3 (ints (c6 (aL a))),b 51 ins,b 70 []])=gL a_1/\cL
 a_1/\aq (List.isEmpty (br.out a_1)) (∃a,([.ah 70 (List.take a_1.L.length (List.drop 0 (rws a_1.L)))],[])=RB a/\vO a/\K (.ah 70 (rws
 (dk a))) [b 51 a_1.x.ins]) (∃a,([.ah 70 (List.take (List.length (a_1.L++br.out a_1)) (List.drop 0 (rws (a_1.L++br.out a_1))))],[])=
 RB a/\vO a/\K (.ah 70 (rws (dk a))) [b 51 a_1.x.ins])):=by kernel_rfl
end Go.Proofs.YtioeffnadipbaaaGreatDoor
namespace Go.Proofs.YtioeffnadipbaaaGreatDoor
open Go Go.Dn Go.Rl Go.Proofs
theorem sl{ds a}(c:oN ds a)(h:(lA ds a).2=0){r}(b:r∈a):OkR (cK r):=by
 have d:=(pb.1 h).2.2.2 r b;refine⟨c.2.2 r b,?_,?_⟩
 ·grind [cK,lM,HD]
 grind [lM,HD]
theorem He{a s n l}(h:a=1\/a=2\/a=3):bO (.mk a s n l)=true:=by
 have c: ∀b,(a==1||(a==2||(a==3||b)))=true:=fun b=>by grind
 match l with
 |[]=>grind [bO]
 |[_]=>grind [bO]
 |[_,_]=>exact c _
 |_::_::_::_=>grind [bO]
theorem lS: ∀h t,au h t=true->t.op≠4->bO t=true
 |0,t,c,_=>by simp[au] at c
 | h+1, .mk f s n l,c,i=>by
  rw[qB] at c;by_cases j:f=0
  ·grind
  rw[aC9 j,aD0] at c;cases d:iY f with
  | true=>
   rw[d,aD2] at c;simp only[aC6,at3,mx,List.all_eq_true,Bool.not_eq_true',Bool.or_eq_false_iff,aC7] at c;obtain⟨⟨_,k⟩,e⟩:=c;match l,k,e with
   |[a,b],_,e=>
    have g:=e a (by simp);have d:=e b (by simp);simp only[bO,lS h a g.2 g.1.2,lS h b d.2 d.1.2,Bool.and_true,Bool.or_true]
  |false=>
   rw[d,aD0,aC6] at c;have m:=c.1;have i:f≠4:=i
   grind [bare,He,decide_eq_false]
theorem ow{a}(h:bm a=true):a.l.length<=8/\∀t,t∈a.l->t.op≠4->bO t=true:=by
 grind [bm,lS]
theorem Jw{t}(h:TI t=true):bO t=true:=by
 obtain⟨a,s,n,l⟩:=t;simp[TI] at h;exact He (h.imp id .inl)
theorem T7{t}(h:t.op=1):bO t=true:=by
 obtain⟨a,s,n,l⟩:=t;exact He (.inl h)
structure aa1(l:Lt):Prop where
 a:fv l.op=true->bm l.a=true
 x:(l.op==1)=false->(l.op==2)=false->bO l.x=true
 y:(l.op==1)=false->(l.op==2)=false->l.op≠7->bO l.y=true
theorem XY{l}(h:fX l=true):aa1 l:=by
 unfold fX at h;by_cases b:(decide (l.op=1)||decide (l.op=2))=true
 ·rw[b,aD2,aC6] at h
  refine⟨fun _=>h.1,fun e d=>?_,fun e d=>?_⟩
  all_goals
   simp only[aD9,at3] at b;rcases b with c|c<;>simp[c] at e d
 ·have b:(decide (l.op=1)||decide (l.op=2))=false:=by simpa using b
  rw[b,aD0] at h;by_cases a:(decide (l.op=3)||decide (l.op=4)||decide (l.op=5)||decide (l.op=6))=true
  ·rw[a,aD2] at h
   simp only[aC6,Bool.not_eq_true',aC7] at h;refine⟨fun g=>?_,fun _ _=>lS 20 _ h.1.2 h.1.1.1.2,fun _ _ _=>lS 20 _ h.2 h.1.1.2⟩;simp only[aD9,at3] at a;rcases a with((c|c)|c)|c<;>simp[fv,c] at g
  ·have a:(decide (l.op=3)||decide (l.op=4)||decide (l.op=5)||decide (l.op=6))=false:=by simpa using a
   rw[a,aD0] at h;by_cases c7:l.op=7
   ·rw[aD1 c7,aD2] at h
    simp only[aC6] at h;exact⟨fun _=>h.1.1,fun _ _=>Jw h.1.2.1,fun _ _ f=>absurd c7 f⟩
   ·rw[aC9 c7,aD0] at h
    cases c8:(decide (l.op=8)||decide (l.op=9)||decide (l.op=10)) with
    |true=>
     rw[c8,aD2] at h;simp only[aC6,at3] at h;exact⟨fun _=>h.1.1.1,fun _ _=>Jw h.1.1.2.1,fun _ _ _=>T7 h.1.1.2.2⟩
    |false=>rw[c8] at h;cases h
abbrev aI(a:List RL):List AV:=a.map fun L=> .ah 70 (rws L)
def IJ ds i:=(ag (af (nth ds i) 2)).length
structure dX(ds:List AV)(all:List RL):Prop where
 len:all.length=ds.length
 v: ∀L,L∈all->gU L
 r: ∀L,L∈all->dg L=true
 w: ∀i r,r∈all.getD i []->r.length=IJ ds i
theorem kR a i:ag (nth (aI a) i)=rws (a.getD i []):=by
 grind [aV,ag,gr]
def AM(ds b:List AV)(r:dx)(a:List RL):vL:=⟨ds,b,r,c6 (aL r),aI a⟩
theorem rF ds c r a b:(AM ds c r a).at b=rws (a.getD (bu b ds).toNat []):=kR _ _
theorem sR{ds f r a}(h: ∀L,L∈a->gU L):Yj (AM ds f r a):=by
 intro b x c;rw[rF] at c;obtain⟨L,e,rfl⟩:=List.mem_map.1 c;rcases Nat.lt_or_ge (bu b ds).toNat a.length with d|d
 ·refine h _ ?_ L e
  grind
 grind
theorem O2{ds a}(h:known (cv ds) a=0):a.l.length=IJ ds (bu a.rel ds).toNat:=by
 unfold known at h;cases e:jX a.rel (cv ds) with
 |none=>grind
 |some k=>
  obtain⟨_,b,d⟩:=lD e;rw[qb e] at h;by_cases c:(lb ds k).length=a.l.length
  ·rw[←c,b,lb,List.length_map];rfl
  grind
theorem xR{a}(h:fv a=true):Rl.cQ ⟨a,⟨ByteArray.empty,[]⟩, .mk 0 ByteArray.empty 0 [], .mk 0 ByteArray.empty 0 []⟩=true:=by
 grind [Rl.cQ,fv]
theorem CZ{ds c}(h:(lA ds c).2=0){r}(i:r∈c):known (cv ds) (aL (cK r)).head=0/\∀l,l∈(aL (cK r)).body->fv l.op=true->known (cv ds) l.a=0:=by
 obtain⟨g,_,j,_⟩:=pb.1 h;have b:fA (cv ds) (aL (cK r))=0:=by
  grind [Wy,ky]
 unfold fA at b;cases e:decide (known (cv ds) (aL (cK r)).head=0) with
 |false=>grind
 |true=>
  rw[e] at b;exact⟨by simpa using e,fun l f d=>rC b l f (xR d)⟩
theorem D5{r k}(h:k<r.bl.length):bQ (nth r.bl k)∈(aL r).body:=List.mem_map_of_mem (by grind [aV])
theorem Ow{ds m}(I:oN ds m)(n:(lA ds m).2=0){r}(q:r∈m){b}(u:dX ds b)(P: ∀L,L∈b->L.length<=100000000):SY (AM ds m (cK r) b):=by
 have d:=sl I n q;have F:=nF n q;have O:=CZ n q;have H:=d.r;simp only[ba,aC6,at3,List.all_eq_true] at H;obtain⟨⟨⟨C,T⟩,K⟩,p⟩:=H;have hl:=u9 d.f;have U:(aL (cK r)).body.length=(cK r).bl.length:=fR _;have i: ∀k,k∈c6 (aL (cK r))->k<(cK r).bl.length:=fun k d=>by have:=tF d;omega
 refine⟨I.1,?_,i,?_,fun t s=>?_,fun k d=>?_⟩
 ·show(c6 (aL (cK r))).length<=100000
  omega
 ·have:=(ow C).1
  have e:(aL (cK r)).head.l.length=(cK r).hl.length:=eS _;show(cK r).hl.length<=100000
  omega
 ·have j:cx t∈(aL (cK r)).head.l:=List.mem_map_of_mem s
  rw[gn];have D:=K _ j;simp only[rA,aC6,Bool.not_eq_true',aC7] at D;exact(ow C).2 _ j D.1.1
 ·have d:=i k d
  have j:=D5 d;have o:=XY (p _ j);have h:nth (cK r).bl k∈ag (af r 1):=by rw[aV _ k d];exact List.getElem_mem _
  have E:fv (toInt (af (nth (cK r).bl k) 0))=true->cQ (toInt (af (nth (cK r).bl k) 0))=true:=fun g=>by
   have:=xR g
   simp only[Rl.cQ,aD9,at3] at this;unfold cQ;by_cases c:toInt (af (nth (cK r).bl k) 0)<3
   ·rw[aD1 c];rfl
   ·rw[aC9 c,aD0,at3];omega
  refine⟨fun g=>?_,fun g=>?_,fun z v=>by rw[gn];exact o.x z v,fun z v e7=>by rw[gn];exact o.y z v e7⟩
  ·have:=F.2 _ h (E g)
   refine⟨this.1,?_⟩;show _<((aI b).length:Int)
   rw[List.length_map,u.len];exact this.2
  ·have A:=ow (o.a g)
   have B:=O2 (O.2 _ j g);have R:(bQ (nth (cK r).bl k)).a.l.length=(ag (af (af (nth (cK r).bl k) 1) 1)).length:=eS _;rw[rF];show DQ (ag (af (af (nth (cK r).bl k) 1) 1)) (rws (b.getD (bu (toStr (af (af (nth (cK r).bl k) 1) 0)) ds).toNat []))
   have J:=F.2 _ h (E g);have Q:(bu (toStr (af (af (nth (cK r).bl k) 1) 0)) ds).toNat<b.length:=by have:=u.len;omega
   refine⟨?_,by omega,fun t s p=>?_,fun x J=>?_⟩
   ·rw[eC]
    refine P _ ?_;simp[List.getD_eq_getElem?_getD,Q]
   ·rw[gn]
    have e:=cI t;refine A.2 _ (List.mem_map_of_mem s) ?_;rw[e];exact p
   ·obtain⟨L,N,rfl⟩:=List.mem_map.1 J
    rw[←R,B];exact u.w _ L N
theorem tC A B:A.length<=(eY A B).length:=by
 match A,B with
 |[],B=>simp
 |a::c,[]=>
  have:=tC c []
  grind [DH]
 |a::c,b::d=>
  have f:=tC c (b::d);have g:=tC c d;have e:=tC (a::c) d
  grind [DG]
termination_by A.length+B.length
def cM(a:List RL):=(a.map List.length).sum
theorem KQ: ∀a i N,i<a.length->cM (a.set i N)+(a.getD i []).length=cM a+N.length
 |[],_,_,h=>absurd h (by simp)
 |L::a,0,N,_=>by grind [cM]
 |L::a,i+1,N,h=>by
  have:=KQ a i N (by grind)
  simp[cM,List.sum_cons,List.getD_cons_succ] at this⊢;omega
theorem oD{L}: ∀{a},L∈a->L.length<=cM a
 |M::a,h=>by
  simp[cM];rcases List.mem_cons.1 h with rfl|h
  ·simp
  ·have:=oD h;grind [cM]
section
variable (ds rs:List AV)
def dp r a:=dk (mL (AM ds rs r a) (c6 (aL r)) [])
def atR r:=(bu (cK r).rel ds).toNat
def iJ r(a:List _):=a.set (atR ds r) (eY (a.getD (atR ds r) []) (dp ds rs (cK r) a))
def ct(g:List Int)(aZ:Nat):List AV->List RL->Bool->List RL×Bool
 |[],a,b=>(a,b)
 |r::xs,a,b=>bif decide (aZ<cM a) then(a,false)
  else bif !g.contains (bu (cK r).rel ds) then ct g aZ xs a b
  else ct g aZ xs (iJ ds rs r a) (b||decide ((a.getD (atR ds r) []).length<(eY (a.getD (atR ds r) []) (dp ds rs (cK r) a)).length))
def eH(g:List Int)(aZ:Nat):Nat->List RL->List RL
 |0,a=>a
 |n+1,a=>bif (ct ds rs g aZ rs a false).2 then eH g aZ n (ct ds rs g aZ rs a false).1 else(ct ds rs g aZ rs a false).1
def dR aZ(b:List _) a:=b.foldl (fun a g=>eH ds rs g aZ 99 a) a
end
structure gB(ds rs:List AV):Prop where
 s:oN ds rs
 c:(lA ds rs).2=0
variable {ds rs:List AV}
theorem gB.at(h:gB ds rs){r}(a:r∈rs):(0<=bu (cK r).rel ds/\bu (cK r).rel ds<ds.length)/\atR ds r<ds.length:=by
 have:=(nF h.c a).1
 grind [cK,atR]
theorem EN:wh []:=fun _ hx=>nomatch hx
theorem nW(h:gB ds rs){r}(b:r∈rs){a}(j:dX ds a):gU (dp ds rs (cK r) a)/\dg (dp ds rs (cK r) a)=true/\∀x,x∈dp ds rs (cK r) a->x.length=IJ ds (atR ds r):=by
 have d:gU (mL (AM ds rs (cK r) _) (c6 (aL (cK r))) _):=qo (sR j.v) _ EN;obtain⟨e,f,g⟩:=jP d;refine⟨g,e,fun x i=>?_⟩;rw[B2 _ ((f x).1 i)];have:=O2 (CZ h.c b).1
 rw[show(aL _).head.l.length=(cK r).hl.length from eS _] at this;exact this
theorem km{a:List RL}{i}(h:i<a.length):a.getD i []∈a:=by grind
theorem qK(h:gB ds rs){r}(k:r∈rs){a}(c:dX ds a):dX ds (iJ ds rs r a)/\cM a<=cM (iJ ds rs r a)/\cM (iJ ds rs r a)+(a.getD (atR ds r) []).length=cM a+(eY (a.getD (atR ds r) []) (dp ds rs (cK r) a)).length:=by
 obtain⟨g,n,l⟩:=nW h k c;have j:atR ds r<a.length:=by rw[c.len];exact(h.at k).2
 have f:=km j;have m:=KQ a (atR ds r) (eY (a.getD (atR ds r) []) (dp ds rs (cK r) a)) j;have o:=tC (a.getD (atR ds r) []) (dp ds rs (cK r) a);refine⟨⟨?_,?_,?_,?_⟩,?_,m⟩
 ·rw[iJ,List.length_set];exact c.len
 ·intro L d
  rcases List.mem_or_eq_of_mem_set d with d|rfl
  ·exact c.v L d
  ·intro x b
   rcases(gz (c.v _ f) g).1 b with b|b
   ·exact c.v _ f x b
   ·exact g x b
 ·intro L d
  rcases List.mem_or_eq_of_mem_set d with d|rfl
  ·exact c.r L d
  ·exact lV (c.v _ f) g (c.r _ f) n
 ·intro i x b
  by_cases e:atR ds r=i
  ·subst e
   rw[iJ,List.getD_eq_getElem?_getD,List.getElem?_set_self j] at b;rcases(gz (c.v _ f) g).1 b with b|b
   ·exact c.w _ x b
   ·exact l x b
  ·rw[iJ,List.getD_eq_getElem?_getD,List.getElem?_set_ne e,←List.getD_eq_getElem?_getD] at b
   exact c.w i x b
 ·unfold iJ;omega
theorem kZ(h:gB ds rs) g aZ: ∀xs a m,(∀r,r∈xs->r∈rs)->dX ds a->
  dX ds (ct ds rs g aZ xs a m).1/\cM a<=cM (ct ds rs g aZ xs a m).1/\((ct ds rs g aZ xs a m).2=true->m=true\/cM a<cM (ct ds rs g aZ xs a m).1)/\
  (cM (ct ds rs g aZ xs a m).1<=aZ->ct ds rs g (aZ+1) xs a m=ct ds rs g aZ xs a m)
 |[],a,m,_,b=>⟨b,Nat.le_refl _,fun h=> .inl h,fun _=>rfl⟩
 | r::xs,a,m,d,b=>by
  rw[ct,ct];by_cases c:aZ<cM a
  ·grind
  ·rw[aC9 c,aC9 (show ¬ aZ+1<cM a by omega),aD0,aD0]
   cases f: !g.contains (bu (cK r).rel ds) with
   |true=>exact kZ h g aZ xs a m (fun r e=>d r (by simp[e])) b
   |false=>
    obtain⟨s1,s2,i⟩:=qK h (d r (by simp)) b;obtain⟨j,k,l,n⟩:=kZ h g aZ xs (iJ ds rs r a) (m||decide ((a.getD (atR ds r) []).length<(eY (a.getD (atR ds r) []) (dp ds rs (cK r) a)).length)) (fun r e=>d r (by simp[e])) s1
    grind
theorem sK(h:gB ds rs) g aZ: ∀n a,dX ds a->
  dX ds (eH ds rs g aZ n a)/\cM a<=cM (eH ds rs g aZ n a)/\(cM (eH ds rs g aZ n a)<=aZ->eH ds rs g (aZ+1) n a=eH ds rs g aZ n a)
 |0,a,b=>⟨b,Nat.le_refl _,fun _=>rfl⟩
 | n+1,a,b=>by
  obtain⟨c,e,f,i⟩:=kZ h g aZ rs _ false (by simp) b;rw[eH,eH];cases j:(ct ds rs g _ rs a _).2 with
  |true=>
   obtain⟨k,l,d⟩:=sK h g aZ n _ c
   grind
  |false=>
   grind
theorem BP(h:gB ds rs) aZ: ∀b a,dX ds a->
  dX ds (dR ds rs aZ b a)/\cM a<=cM (dR ds rs aZ b a)/\(cM (dR ds rs aZ b a)<=aZ->dR ds rs (aZ+1) b a=dR ds rs aZ b a)
 |[],a,c=>⟨c,Nat.le_refl _,fun _=>rfl⟩
 |g::b,a,c=>by
  obtain⟨d,f,i⟩:=sK h g aZ 99 _ c;obtain⟨j,k,e⟩:=BP h aZ b _ d
  grind [dR]
end Go.Proofs.YtioeffnadipbaaaGreatDoor
namespace Go.Proofs.YtioeffnadipbaaaGreatDoor
open Go Go.Dn Go.Rl Go.Proofs
attribute [local irreducible] a8 vc
set_option maxRecDepth 20000
structure K5 where
 ds:List AV
 rs:List AV
 r:dx
 all:List RL
def K5.V(a:K5):=mL (AM a.ds a.rs a.r a.all) (c6 (aL a.r)) []
def IA(a:K5):List AV×List Dn.Obj:=([eg a.ds a.rs,aw a.r, .ak 0 0 (aI a.all).length],[.row 51 (aI a.all)])
structure oZ(a:K5):Prop where
 o:OkR a.r
 x:SY (AM a.ds a.rs a.r a.all)
 f:vO a.V
def VS(a:K5):Out (AV×List Dn.Obj):= .one (.ah 70 (rws (dp a.ds a.rs a.r a.all)),[.row 51 (aI a.all)])
theorem cGv κ:bd (BGp κ).E 12 50 (aM IA oZ VS):=by
 refine aQ ?_;rintro⟨ds,c,r,a⟩ K d b;have g:=d.f
 replace b:K (.ah 70 (rws (dk (K5.V ⟨ds,c,r,a⟩)))) [.row 51 (aI a)]:=b
 refine Eq.mpr (yGv κ ds c (aI a) r K) ⟨r,rfl,d.o,⟨AM ds c r a,[],0,[]⟩,rfl,⟨d.x,Nat.zero_le _,?_⟩,ae.2 ⟨fun h=>⟨[],rfl,⟨Nat.zero_le _,fun r e=>(nomatch e),fun r e=>(nomatch e)⟩,?_⟩,fun h=>⟨_,?_,g,b⟩⟩⟩
 ·have:=g.n
  show 0+(K5.V ⟨ds,c,r,a⟩).length<=100000000
  omega
 ·have h:(K5.V ⟨ds,c,r,a⟩).isEmpty=true:=h
  rw[List.isEmpty_iff] at h;rw[h] at b;exact b
 ·rw[List.nil_append,aD5,←eC,List.take_length];rfl
noncomputable def WU κ:=(BGp κ).call (cGv _)
def jd(xs:List _):=(xs.map fun x=>(ag x).length).sum
theorem F5 xs a:jd (xs++a)=jd xs+jd a:=by simp[jd]
theorem tB a:jd (aI a)=cM a:=by
 unfold jd cM aI;rw[List.map_map];congr 1
 exact List.map_congr_left fun L _=>eC L
abbrev Zc xs(i:Nat):=sp 18 [(3, .int (jd (xs.take i))),(6, .ah 51 xs),(7, .int xs.length),(8, .int i)] []
theorem xTo κ xs i I N K:(vc (WU κ).E 12 47 none 0 (ad (Pr κ).toProgram 47 3) (Zc xs i) (bg (WU κ).E 47 3 0 I N K))=(
 letI a:=IntKind.wrap .i64
 letI b:=↑i<(↑(xs.length):Int)
 aq (decide b) (aW (true&&decide b) (∃e0,e0<N/\I e0 (sp 18 [(3,AV.int (a ((↑(jd (List.take i xs)))+
 (↑(List.length (ag (nth xs (Int.toNat ↑i)))))))),(6,.ah 51 xs),(7,AV.int ↑(xs.length)),(8,AV.int (a (↑i+1)))] []))) (K (.exit 0) (sp 18 [(3,AV.int (↑(jd (List.take i xs))))] []))):=by kernel_rfl
abbrev ATo:=List AV×Nat
abbrev RC(x:ATo):S:=Zc x.1 x.2
def QZ(x:ATo):=x.2<=x.1.length/\x.1.length<=100000/\jd x.1<=1000000000
def al0(x:ATo):Out (Exit×S):= .one (.exit 0,sp 18 [(3, .int (jd x.1))] [])
theorem lTo κ:aU (WU κ).E 12 47 3 (aG 0 RC QZ al0):=by
 refine aC (fun x=>x.1.length - x.2) ?_;rintro⟨xs,i⟩ K ⟨f,c,d⟩ b;simp only at f c d;rw[show(WU κ).E.P=Pr κ from rfl];refine Eq.mpr (xTo κ xs i _ _ K) ?_;simp only[Int.toNat_natCast];rw[ae,at3,aC7];refine⟨fun h=>?_,fun h=>?_⟩
 ·have a:i<xs.length:=by omega
  have j:jd (xs.take (i+1))=jd (xs.take i)+(ag (nth xs i)).length:=by
   rw[List.take_add_one,F5,aV xs i a];simp[jd,a]
  have g:jd (xs.take (i+1))<=jd xs:=by
   have:=F5 (xs.take (i+1)) (xs.drop (i+1))
   rw[List.take_append_drop] at this;omega
  refine ai.2 ⟨by simp;omega,_,?_,⟨xs,i+1⟩,?_,⟨a,c,d⟩,rfl,b⟩
  ·simp only;omega
  ·simp only[RC,Zc]
   grind [az,jd,ag,nth]
 ·have e:xs.take i=xs:=List.take_of_length_le (by omega)
  simp only[e];exact b
noncomputable def Xj κ:=(WU κ).loop (lTo _)
theorem yTo κ xs K:(a8 (Xj κ).E 12 47 [.ah 51 xs] [] K)=(
 letI a:=Pg.toProgram (Env.P (EB.E (WU κ)))
 ad a 47 3=ad a 47 3/\∃e0,sp 18 [(3,AV.int 0),(6,.ah 51 xs),(7,AV.int ↑(xs.length)),(8,AV.int 0)] []=RC e0/\QZ e0/\K (AV.int
 (↑(jd e0.1))) []):=by kernel_rfl
def gTo:List AV->Option (Bool×AV)
 |[.ah 51 xs]=>some (decide (xs.length<=100000)&&decide (jd xs<=1000000000), .int (jd xs))
 |_=>none
theorem pTo κ:cm (Xj κ).E 12 47 gTo:=by
 intro b x a;unfold gTo at a;split at a
 ·rename_i xs
  simp   at a;obtain⟨⟨d,c⟩,rfl⟩:=a;exact⟨_,rfl,rfl,Eq.mpr (yTo κ xs _) ⟨rfl,⟨xs,0⟩,rfl,⟨Nat.zero_le _,d,c⟩,rfl⟩⟩
 grind
noncomputable def Xi κ:=EB.Hf ((Xj κ).pure (pTo _)) [47]
structure Vd where
 A:List AV
 B:List AV
 xs:List AV
abbrev oR(A B:List AV):List Dn.Obj:=[.box 51 (.ah 70 A), .box 51 (.ah 70 B)]
abbrev Uz(x:Vd):=sp 52 [(0, .cn 0),(1, .ptr 1 0 [] 0),(2, .ptr 2 0 [] 0)] (.ext (some x.xs)::oR x.A x.B)
theorem xBo(κ:Kp)(x:Vd)(I:Nat->S->Prop)(N:Nat)(K:Exit->S->Prop):(vc (Xi κ).E 12 82 none 3 (ad (Pr κ).toProgram 82 0) (Uz x) (bg (Xi κ).E 82 0 3 I N K))=(
 letI a:=AV.ptr
 letI b:=AV.agg
 letI c:=AV.bool
 letI d:=Obj.ext
 letI e:=Exit.ret
 letI f:=AV.aH
 letI g:=AV.cn
 letI j:=ag (nth x.A 0)
 letI h:=x.A.length
 letI m:=List.drop 1 (List.take (Int.toNat (↑h:Int)) x.A)
 letI s:=true&&decide ((1:Int)<=(↑h:Int))&&decide ((↑h:Int)<=(↑h:Int))
 letI r:=true&&decide ((0:Int)<(↑h:Int))
 letI i:=x.B.length
 letI n:=List.drop 1 (List.take (Int.toNat (↑i:Int)) x.B)
 letI u:=true&&decide ((1:Int)<=(↑i:Int))&&decide ((↑i:Int)<=(↑i:Int))
 letI t:=true&&decide ((0:Int)<(↑i:Int))
 letI k:=ag (nth x.B 0)
 letI l:=decide (bD j k<=(0:Int))
 letI o:=decide (bD j k>=(0:Int))
 letI p:=sp 52 [] (d none::oR m x.B)
 letI q:=sp 52 [] (d none::oR x.A n)
 letI v:=aq ((↑i:Int)==(0:Int)) (aW r (aW s (∃(e1:List AV),x.xs=f [AV.ah 72 j,b [c true,c false]]::e1/\(∃(e0:
  Nat),e0<N/\I e0 (sp 52 [(0,g 0),(1,a 1 0 [] 0),(2,a 2 0 [] 0)] (d (some e1)::oR m x.B)))/\K e p))) (aq ((↑h:Int)
  ==(0:Int)) (aW t (aW u (∃(e1:List AV),x.xs=f [AV.ah 72 k,b [c false,c true]]::e1/\(∃(e0:Nat),e0<N/\I e0 (sp 52
  [(0,g 0),(1,a 1 0 [] 0),(2,a 2 0 [] 0)] (d (some e1)::oR x.A n)))/\K e q))) (aW r (aW t (aW (decide (List.length j<=
  9223372036854775807)) (aq o (aW t (aW u (aq l (aW r (aW s (∃(e1:List AV),x.xs=f [AV.ah 72 j,b [c l,c o]]::e1/\(∃(e0:
  Nat),e0<N/\I e0 (sp 52 [(0,g 0),(1,a 1 0 [] 0),(2,a 2 0 [] 0)] (d (some e1)::oR m n)))/\K e (sp 52 [] (d none::
  oR m n))))) (∃(e1:List AV),x.xs=f [AV.ah 72 k,b [c l,c o]]::e1/\(∃(e0:Nat),e0<N/\I e0 (sp 52 [(0,g 0),(1,
  a 1 0 [] 0),(2,a 2 0 [] 0)] (d (some e1)::oR x.A n)))/\K e q)))) (aq l (aW r (aW s (∃(e1:List AV),x.xs=f [AV.ah 72
  j,b [c l,c o]]::e1/\(∃(e0:Nat),e0<N/\I e0 (sp 52 [(0,g 0),(1,a 1 0 [] 0),(2,a 2 0 [] 0)] (d (some e1)
  ::oR m x.B)))/\K e p))) (∃(e1:List AV),x.xs=f [AV.nil,b [c l,c o]]::e1/\(∃(e0:Nat),e0<N/\I e0 (sp 52 [(0,
  g 0),(1,a 1 0 [] 0),(2,a 2 0 [] 0)] (d (some e1)::oR x.A x.B)))/\K e (sp 52 [] (d none::oR x.A x.B)))))))))
 aq (decide ((↑h:Int)>(0:Int))) v (aq (decide ((↑i:Int)>(0:Int))) v (K (Exit.exit 0) (sp 52 [] (d (some x.xs)::oR x.A x.B))))):=by kernel_rfl
def Gj(l:List BI):List AV:=l.map fun x=> .aH [.ah 72 x.1, .agg [.bool x.2.1, .bool x.2.2]]
def uO(x:Vd):=x.xs=Gj (gE (dh x.A) (dh x.B))/\fp x.A=true/\fp x.B=true
def VM(_:Vd):Out (Exit×S):= .all (fun _:Bool×List _×List _=>True) fun y=> .aq y.1
 (.one (.exit 0,sp 52 [] (.ext (some [])::oR y.2.1 y.2.2)))
 (.one (.ret,sp 52 [] (.ext none::oR y.2.1 y.2.2)))
theorem Oh p q:aq true p q=p:=rfl
theorem I8 p q:aq false p q=q:=rfl
theorem Om(p:Prop):aW true p=p:=rfl
theorem ql{a A}(h:fp (a::A)=true):fp A=true:=by
 grind [fp]
theorem O7(a:AV) A:decide (((a::A).length:Int)>0)=true/\(((a::A).length:Int)==0)=false/\(true&&decide ((0:Int)<(a::A).length))=true/\(true&&decide (1<=((a::A).length:Int))&&decide ((a::A).length<=((a::A).length:Int)))=true:=by grind
theorem lBo κ:aU (Xi κ).E 12 82 0 (aG 3 Uz uO VM):=by
 refine aC (fun x=>x.A.length+x.B.length) ?_;rintro⟨A,B,xs⟩ K ⟨e,i,j⟩ l;simp only at e i j;rw[show(Xi κ).E.P=Pr κ from rfl];refine Eq.mpr (xBo κ ⟨A,B,xs⟩ _ _ K) ?_;have d: ∀(h f:List AV) (v:AV),fp h=true->fp f=true->h.length+f.length<A.length+B.length->xs=v::Gj (gE (dh h) (dh f))->∃g,xs=v::g/\(∃m,m<A.length+B.length/\eW Uz uO VM (fun x=>x.A.length+x.B.length) K m (sp 52 [(0, .cn 0),(1, .ptr 1 0 [] 0),(2, .ptr 2 0 [] 0)] (.ext (some g)::oR h f)))/\K Exit.ret (sp 52 [] (.ext none::oR h f)):=
  fun h f v D y z C=>⟨_,C,⟨_,z,⟨h,f,_⟩,rfl,⟨rfl,D,y⟩,rfl,l⟩,l (false,h,f) trivial⟩
 simp only[Int.toNat_natCast,List.take_length];have e0:decide (((([]:List AV).length:Nat):Int)>0)=false:=rfl;have k:((((([]:List AV).length:Nat)):Int)==0)=true:=rfl;cases A with
 | nil=>
  cases B with
  |nil=>
   rw[show xs=[] from e];simp only[e0,k,I8];exact l (true,[],[]) trivial
  |cons b B=>
   obtain⟨o,q,n,p⟩:=O7 b B;simp only[e0,k,o,q,n,p,Oh,I8,Om];exact d [] B _ i (ql j) (by simp) (by rw[e];cases B<;>rfl)
 | cons a A=>
  obtain⟨s,r,t,u⟩:=O7 a A;cases B with
  |nil=>
   simp only[k,s,r,t,u,Oh,I8,Om];exact d A [] _ (ql i) j (by simp) (by rw[e];rfl)
  | cons b B=>
   obtain⟨o,q,n,p⟩:=O7 b B;simp only[s,r,t,u,o,q,n,p,Bool.and_self,Oh,I8,Om];have F:=mg i 0;refine ai.2 ⟨by rw[at3];omega,?_⟩;have w:gE (dh (a::A)) (dh (b::B))=bif decide (bD (ag a) (ag b)<0) then(ag a,true,false)::gE (dh A) (dh (b::B)) else bif decide (bD (ag a) (ag b)=0) then(ag a,true,true)::gE (dh A) (dh B) else(ag b,false,true)::gE (dh (a::A)) (dh B):=rfl
   rw[w] at e;rw[show nth (a::A) 0=a from rfl,show nth (b::B) 0=b from rfl];rcases Int.lt_trichotomy (bD (ag a) (ag b)) 0 with c|c|c
   ·rw[aD1 c] at e
    rw[aC9 (show ¬ bD (ag a) (ag b)>=0 by omega),aD1 (show bD (ag a) (ag b)<=0 by omega)];exact d A (b::B) _ (ql i) j (by simp) e
   ·rw[aC9 (show ¬ bD (ag a) (ag b)<0 by omega),aD1 c] at e
    rw[aD1 (show bD (ag a) (ag b)>=0 by omega),aD1 (show bD (ag a) (ag b)<=0 by omega)];exact d A B _ (ql i) (ql j) (by simp;omega) e
   ·rw[aC9 (show ¬ bD (ag a) (ag b)<0 by omega),aC9 (show ¬ bD (ag a) (ag b)=0 by omega)] at e
    rw[aD1 (show bD (ag a) (ag b)>=0 by omega),aC9 (show ¬ bD (ag a) (ag b)<=0 by omega)];exact d (a::A) B _ i (ql j) (by simp) e
noncomputable def WJ κ:=(Xi κ).loop (lBo _)
theorem yBo κ(x:Vd) K:(a8 (WJ κ).E 12 82 [.cn 0, .ptr 1 0 [] 0, .ptr 2 0 [] 0] (.ext (some x.xs)::oR x.A x.B) K)=(
 letI a:=Pg.toProgram (Env.P (EB.E (Xi κ)))
 ad a 82 0=ad a 82 0/\∃e1,sp 52 [(0,.cn 0),(1,.ptr 1 0 [] 0),(2,.ptr 2 0 [] 0)] (.ext (some x.xs)::oR x.A x.B)=Uz e1/\uO e1/\∀
 (e0:Bool×List AV×List AV),True->aq e0.1 (K (.aH []) (.ext (some [])::oR e0.2.1 e0.2.2)) (K (.aH []) (.ext none::oR e0.2.1 e0.2.2))):=by kernel_rfl
def YU(x:Vd):List AV×List Dn.Obj:=([.cn 0, .ptr 1 0 [] 0, .ptr 2 0 [] 0], .ext (some x.xs)::oR x.A x.B)
def PT(_:Vd):Out (AV×List Dn.Obj):= .all (fun st'=>tv st') fun st'=> .one (.aH [],st')
theorem cBp κ:bd (WJ κ).E 12 82 (aM YU uO PT):=by
 refine aQ ?_;intro x K c a;refine Eq.mpr (yBo _ x K) ⟨rfl,x,rfl,c,fun y _=>?_⟩;obtain⟨b,e,d⟩:=y;cases b
 ·exact a _ trivial
 ·exact a _ trivial
noncomputable def Zr κ:=EB.inline ((WJ κ).call (cBp _)) [38]
abbrev oS:List AV:=[.ptr 1 0 [] 0, .ptr 2 0 [] 0]
noncomputable abbrev TQ(A B:List AV):Dn.Obj:= .loop (jq Tryz.prog 15 5 .ready none (iO (bR 27) [(0, .ah 70 A),(1, .ah 70 B),(4, .nil),(5, .int 0),(6, .ptr 0 0 [] 0),(8, .ah 70 A),(9, .bool (dg (dh A))),(10, .bool !dg (dh A)),(11, .bool false),(12, .ah 70 B),(13, .bool (dg (dh B))),(14, .bool !dg (dh B)),(15, .bool false),(16, .ah 70 A),(17, .ah 70 B),(18, .bo 82 oS)]))
noncomputable abbrev uZ A B:=[.box 51 .nil, .box 51 (.ah 70 A), .box 51 (.ah 70 B),TQ A B]
noncomputable abbrev IH A B W:=[.box 51 (.ak 4 0 W.length), .dead, .dead,TQ A B, .row 70 (rws W)]
theorem sUn κ A B Q:(tidy (Pr κ).toProgram 4 (dF (uZ A B) (b7 (uZ A B) oS)) Q)=(
 Q [.box 51 (.ak 4 0 0),.dead,.dead,TQ A B,.row 70 []]):=by kernel_rfl
theorem rUn κ A B t W p q Q(K2:List Dn.Obj->Prop):(gx (vc (Zr κ).E 12) 3 [.ah 72 t, .agg [.bool p, .bool q]] (IH A B W) (fun r st''=>match r with| .lit (.bool true)=>tidy (Pr κ).toProgram 4 st'' Q| .lit (.bool false)=>K2 st''|_=>False))=(
 ∃a,([.ah 72 t],[])=Rq a/\a.length<=100000000/\aW (decide ((W.length+1+1)*25<=70368744177664)) (Q [.box 51 (.ak 4 0
 (W.length+1)),.dead,.dead,TQ A B,.row 70 (List.take W.length (rws W)++[.ah 72 a])])):=by kernel_rfl
theorem oUn A B:mi (uZ A B) oS=true:=by kernel_rfl
theorem kUn A B xs:(.cn 0::gf (iX (b7 (uZ A B) oS)) oS,.ext (some xs)::gJ (iX (b7 (uZ A B) oS)) (gF (uZ A B) (b7 (uZ A B) oS)))=([.cn 0, .ptr 1 0 [] 0, .ptr 2 0 [] 0], .ext (some xs)::oR A B):=by kernel_rfl
structure Xx(A B:List AV):Prop where
 a:fp A=true
 b:fp B=true
 n:(gE (dh A) (dh B)).length<=100000000
 s: ∀x,x∈gE (dh A) (dh B)->x.1.length<=100000000
noncomputable def am7:eO:=fun a st K=>∃A B,(a,st)=(oS,uZ A B)/\Xx A B/\K (IH A B (eY (dh A) (dh B)))
theorem MP:am7.gl:=by
 rintro a st K f d ⟨A,B,c,e,b⟩;exact⟨A,B,c,e,d _ b⟩
theorem XH κ a st K(h:aM YU uO PT a st K):(Zr κ).E.call 82 a st K:=h
theorem gUn κ:jf (Zr κ).E 12 82 am7:=by
 rintro k st K ⟨A,B,w,m,v⟩;obtain⟨rfl,rfl⟩:=Prod.mk.inj (show(k,st)=(oS,uZ A B) from w);refine⟨Gj (gE (dh A) (dh B)),fun g st'=>∃d c:List BI,g=Gj c/\st'=IH A B (d.map (·.1))/\d++c=gE (dh A) (dh B),⟨oUn A B,?_,?_,?_,?_⟩⟩
 ·refine XH κ _ _ _ ⟨⟨A,B,Gj (gE (dh A) (dh B))⟩,?_,⟨rfl,m.a,m.b⟩,fun st' h=>h⟩
  rw[kUn];rfl
 ·rw[show(Zr κ).E.P=Pr κ from rfl,show(uZ A B).length=4 from rfl,sUn]
  exact⟨[],_,rfl,rfl,List.nil_append _⟩
 ·rintro C u st' ⟨d,c,o,rfl,i⟩
  cases c with
  |nil=>cases o
  | cons x c=>
   obtain⟨t,p,q⟩:=x;obtain⟨z,rfl⟩:=List.cons.inj o;obtain rfl:=AV.aH.inj z;rw[show(Zr κ).E.P=Pr κ from rfl,show(uZ A B).length=4 from rfl,show(4:Nat) - 1=3 from rfl];have r:=m.n;rw[←i] at r;simp only[aE1,List.length_cons] at r;have y:t.length<=100000000:=m.s (t,p,q) (by rw[←i];simp);have f: ∃l j:List BI,Gj c=Gj j/\IH A B (d.map (·.1)++[t])=IH A B (l.map (·.1))/\l++j=gE (dh A) (dh B):=
    ⟨d++[(t,p,q)],c,rfl,by rw[List.map_append];rfl,by rw[←i];simp⟩
   refine Eq.mpr (rUn κ A B t (d.map (·.1)) p q (fun st'=>∃l j:List BI,Gj c=Gj j/\st'=IH A B (l.map (·.1))/\l++j=gE (dh A) (dh B)) K) ⟨t,rfl,y,ai.2 ⟨?_,?_⟩⟩
   ·rw[at3,List.length_map];omega
   ·have e:List.take (d.map (·.1)).length (rws (d.map (·.1)))++[AV.ah 72 t]=rws (d.map (·.1)++[t]):=by
     rw[←wP,←eC (d.map (·.1)),List.take_length]
    rw[e];simp only[IH,aE1,List.length_singleton] at f;exact f
 ·rintro st' ⟨d,c,o,rfl,i⟩
  obtain rfl:c=[]:=by cases c with|nil=>rfl|cons _ _=>cases o
  rw[List.append_nil] at i;rw[i];exact v
noncomputable def Xl κ:=(Zr _).range 15 5 MP (gUn κ) fun f=>jr f (82::Lz)
theorem yUn κ A B K:(a8 (Xl κ).E 12 15 [.ah 70 A, .ah 70 B] [] K)=(
 letI a:=K (.aH [AV.nil,AV.int 80]) []
 aW (fp A) (aq (!dg (dh A)) a (aW (fp B) (aq (!dg (dh B)) a (∃e1,∃e0,([.ptr 1 0 [] 0,.ptr 2 0 [] 0],uZ A B)=([.ptr 1 0 []
 0,AV.ptr 2 0 [] 0],uZ e1 e0)/\Xx e1 e0/\K (.aH [.ak 0 0 (List.length (eY (dh e1) (dh e0))),AV.int 0]) [.row 70 (rws (eY (dh e1) (dh e0)))]))))):=by kernel_rfl
abbrev Nq:=List AV×List AV
def U2(x:Nq):List AV×List Dn.Obj:=([.ah 70 x.1, .ah 70 x.2],[])
structure w5(x:Nq):Prop where
 f:Xx x.1 x.2
 a:dg (dh x.1)=true
 b:dg (dh x.2)=true
def al1(x:Nq):Out (AV×List Dn.Obj):= .one (.aH [.ak 0 0 (eY (dh x.1) (dh x.2)).length, .int 0],[.row 70 (rws (eY (dh x.1) (dh x.2)))])
theorem cUn κ:bd (Xl κ).E 12 15 (aM U2 w5 al1):=by
 refine aQ ?_;rintro⟨A,B⟩ K ⟨c,e,f⟩ d;refine Eq.mpr (yUn _ A B K) (ai.2 ⟨c.a,?_⟩);rw[e];refine ai.2 ⟨c.b,?_⟩;rw[f];exact⟨A,B,rfl,c,d⟩
noncomputable def BUn κ:=((Xl κ).call (cUn _)).calm [15,50]
end Go.Proofs.YtioeffnadipbaaaGreatDoor
