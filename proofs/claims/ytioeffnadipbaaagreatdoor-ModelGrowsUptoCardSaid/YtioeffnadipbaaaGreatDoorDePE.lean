import Derived.Test.YtioeffnadipbaaaGreatDoorDePD
import Derived.Test.YtioeffnadipbaaaGreatDoorDeP8
import Derived.Test.YtioeffnadipbaaaGreatDoorDePC
namespace Go.Proofs.YtioeffnadipbaaaGreatDoor
open Go Go.Dn Go.Rl Go.Proofs
attribute [local irreducible] a0 vc
set_option maxRecDepth 20000
theorem bp.Yy(a:bp) b:a.t=nth a.x.r.bl a.x.od[a.i]:=by
 grind [vq]
theorem bp.WT(a:bp)(b:a.i<a.x.od.length):a.out=bif toInt (ag a.t 0)==1 then a.all
  else bif toInt (ag a.t 0)==2 then(bif (M0 a).isEmpty then uA a a.e else[])
  else bif toInt (ag a.t 0)==3||(toInt (ag a.t 0)==4||(toInt (ag a.t 0)==5||toInt (ag a.t 0)==6)) then
   (bif toInt (ag a.t 0)==3&&eP a.e (eH (ag a.t 2)) then uA a (a.e.put (eH (ag a.t 2)).s (bK a.e (eH (ag a.t 3)).tm))
    else bif toInt (ag a.t 0)==3&&eP a.e (eH (ag a.t 3)) then uA a (a.e.put (eH (ag a.t 3)).s (bK a.e (eH (ag a.t 2)).tm))
    else bif gV (toInt (ag a.t 0)) (bK a.e (eH (ag a.t 2)).tm) (bK a.e (eH (ag a.t 3)).tm) then uA a a.e else[])
  else
   (bif !o8 (toInt (ag a.t 0)) (iA ((M0 a).map (mw (toInt (ag a.t 0)) (eH (ag a.t 3))))) then[]
    else bif eP a.e (eH (ag a.t 2)) then uA a (a.e.put (eH (ag a.t 2)).s ⟨false,nJ (toInt (ag a.t 0)) (iA ((M0 a).map (mw (toInt (ag a.t 0)) (eH (ag a.t 3))))),ByteArray.mk #[]⟩)
    else bif (bK a.e (eH (ag a.t 2)).tm).n==nJ (toInt (ag a.t 0)) (iA ((M0 a).map (mw (toInt (ag a.t 0)) (eH (ag a.t 3))))) then uA a a.e else[]):=by
 have c:=a.Yy b;unfold bp.out bp.all M0 uA bp.l bp.rel
 grind [List.drop_eq_getElem_cons,pO]
theorem cGe κ r:bd (EGm κ r) 12 98 (WM r):=by
 refine aR ?_;rintro a K ⟨p,hr⟩ z
 replace z:aq a.out.isEmpty (K (.aH []) (du a.x a.L)) (K (.aH []) (nR a.x (a.L++a.out))):=z
 refine Eq.mpr (yGo κ r a K) ?_;have hn:=p.x.n;have w:=p.n;have hle:=p.i;refine ae.2 ⟨fun e0=>?_,fun e0=>?_⟩
 ·have e0:(a.i:Int)=a.x.od.length:=by simpa using e0
  have c:a.out=[jf a.x.r.hl a.e]:=by
   unfold bp.out;rw[aq4 (by omega)];rfl
  refine⟨rfl,⟨a.x,a.L,a.e,0⟩,rfl,⟨Nat.zero_le _,p.x.h,p.x.hv⟩,ai.2 ⟨?_,?_⟩⟩
  ·rw[c] at w
   simp only[List.length_singleton] at w;rw[ap6];simp only;omega
  ·rw[c] at z
   have hx:List.take a.L.length (rws a.L)++[AV.ah 72 (List.take (jf a.x.r.hl a.e).length (List.drop 0 (jf a.x.r.hl a.e)))]=rws (a.L++[jf a.x.r.hl a.e]):=by
    rw[aq6,List.take_length,←ve,←dX a.L,List.take_length]
   show K (.aH []) [_,_,_,_, .row 70 (List.take a.L.length (rws a.L)++[AV.ah 72 (List.take (jf a.x.r.hl a.e).length (List.drop 0 (jf a.x.r.hl a.e)))])]
   rw[hx];have hl:(a.L++[jf a.x.r.hl a.e]).length=a.L.length+1:=by simp
   rw[←hl];exact z
 ·have e0: ¬ (a.i:Int)=a.x.od.length:=by simpa using e0
  have O:a.i<a.x.od.length:=by omega
  have hw:=az (n:=(a.i:Int)+1) (by omega) (by omega);have hm:a.x.od[a.i]∈a.x.od:=List.getElem_mem _;have c:=a.WT O;have hk:toInt a.k=(a.x.od[a.i]:Int):=by
   have h:=vq a.x.od a.i O;simp only[bp.k,bp.j,Nat.zero_add,Int.toNat_natCast,h]
  have F:ad4 a.x a.t:=by rw[a.Yy O];exact p.x.t _ hm
  have g:=p.x.o _ hm;have f: ∀H,a.out=uA a H->∃m,m<r/\∃b:bp,([AV.ptr 0 0 [] 0,AV.int (IntKind.wrap .i64 ((a.i:Int)+1)),cR H],du a.x a.L)=gj b/\(cy b/\b.x.od.length - b.i=m)/\aq b.out.isEmpty (K (AV.aH []) (du b.x b.L)) (K (AV.aH []) (nR b.x (b.L++b.out))):=fun H Z=>by
   refine⟨a.x.od.length - (a.i+1),by omega,⟨a.x,a.L,a.i+1,H⟩,by rw[hw];rfl,⟨⟨p.x,O,?_⟩,rfl⟩,?_⟩
   ·show a.L.length+(uA a H).length<=100000000
    rw[←Z];exact w
   ·show aq (uA a H).isEmpty (K (AV.aH []) (du a.x a.L)) (K (AV.aH []) (nR a.x (a.L++uA a H)))
    rw[←Z];exact z
  have none:a.out=[]->K (.aH []) (du a.x a.L):=fun h=>by rw[h] at z;exact z
  refine ai.2 ⟨by simp;omega,ai.2 ⟨by rw[hk];simp;omega,?_⟩⟩;refine ae.2 ⟨fun y=>?p1,fun y=>ae.2 ⟨fun B=>?p2,fun B=>?_⟩⟩
  case p1=>
   have C:ik (toInt (ag a.t 0))=true:=by unfold ik;rw[y];rfl
   rw[y,aq3] at c;have D:=F.at0 C;refine⟨⟨⟨a.x,a.L,a.rel,a.l⟩,rfl,⟨p.x.d,D.1,D.2⟩⟩,⟨rfl,rfl,rfl,rfl,rfl,trivial⟩,a,by kernel_rfl,⟨p.x,O,hr,F.at1 C,by rw[c] at w;exact w⟩,?_⟩;rw[c] at z;exact z
  case p2=>
   have C:ik (toInt (ag a.t 0))=true:=by unfold ik;rw[y,B];rfl
   rw[y,B,aq1,aq3] at c;have D:=F.at0 C;exact⟨⟨⟨a.x,a.L,a.rel,a.l⟩,rfl,⟨p.x.d,D.1,D.2⟩⟩,⟨rfl,rfl,rfl,rfl,rfl,trivial⟩,a,by kernel_rfl,F.at1 C,ae.2 ⟨fun U=>f _ (by rw[c,U];rfl),fun U=>none (by rw[c,U];rfl)⟩⟩
  have P:=F.u y B;have N:=F.v y B;refine ae.2 ⟨fun V=>?p3,fun V=>ae.2 ⟨fun W=>?p4,fun W=>ae.2 ⟨fun Q=>?p5,fun Q=>ae.2 ⟨fun R=>?p6,fun R=>?p7⟩⟩⟩⟩
  case p7=>
   rw[y,B,V,W,Q,R] at c;simp only[aq1,Bool.or_false] at c;have C:ik (toInt (ag a.t 0))=true:=by unfold ik;rw[y,B,V,W,Q,R];rfl
   have D:=F.at0 C;refine⟨⟨a.x,a.L,toInt (ag a.t 0),a.rel,a.l,eH (ag a.t 2),eH (ag a.t 3),a.e⟩,rfl,⟨p.x.d,D.1,D.2,⟨F.at1 C,N⟩⟩,?_⟩;refine ae.2 ⟨fun g=>none ?_,fun g=>⟨⟨a.e,eH (ag a.t 2)⟩,rfl,trivial,ae.2 ⟨fun A=>⟨⟨a.e,(eH (ag a.t 2)).s,⟨false,_,ByteArray.mk #[]⟩⟩,rfl,trivial,f _ ?_⟩,fun A=>⟨⟨a.e,eH (ag a.t 2)⟩,rfl,P,ae.2 ⟨fun I=>f _ ?_,fun I=>none ?_⟩⟩⟩⟩⟩
   ·have g:(!o8 (toInt (ag a.t 0)) (iA ((M0 a).map (mw (toInt (ag a.t 0)) (eH (ag a.t 3))))))=true:=g
    rw[c,g];rfl
   ·have g:(!o8 (toInt (ag a.t 0)) (iA ((M0 a).map (mw (toInt (ag a.t 0)) (eH (ag a.t 3))))))=false:=g
    rw[c,g,A];rfl
   ·have g:(!o8 (toInt (ag a.t 0)) (iA ((M0 a).map (mw (toInt (ag a.t 0)) (eH (ag a.t 3))))))=false:=g
    have I:((bK a.e (eH (ag a.t 2)).tm).n==nJ (toInt (ag a.t 0)) (iA ((M0 a).map (mw (toInt (ag a.t 0)) (eH (ag a.t 3))))))=true:=I;rw[c,g,A,I];rfl
   ·have g:(!o8 (toInt (ag a.t 0)) (iA ((M0 a).map (mw (toInt (ag a.t 0)) (eH (ag a.t 3))))))=false:=g
    have I:((bK a.e (eH (ag a.t 2)).tm).n==nJ (toInt (ag a.t 0)) (iA ((M0 a).map (mw (toInt (ag a.t 0)) (eH (ag a.t 3))))))=false:=I;rw[c,g,A,I];rfl
  all_goals
   have X:(toInt (ag a.t 0)==3||(toInt (ag a.t 0)==4||(toInt (ag a.t 0)==5||toInt (ag a.t 0)==6)))=true:=by simp_all
   have h7:toInt (ag a.t 0)≠7:=by intro h;rw[h] at X;cases X
   rw[y,B,X,aq1,aq1,aq3] at c;have N:=N h7;have E:(a.out=bif gV (toInt (ag a.t 0)) (bK a.e (eH (ag a.t 2)).tm) (bK a.e (eH (ag a.t 3)).tm) then uA a a.e else[])->aq (gV (toInt (ag a.t 0)) (bK a.e (eH (ag a.t 2)).tm) (bK a.e (eH (ag a.t 3)).tm)) (∃m,m<r/\∃b:bp,([AV.ptr 0 0 [] 0,AV.int (IntKind.wrap .i64 ((a.i:Int)+1)),cR a.e],du a.x a.L)=gj b/\(cy b/\b.x.od.length - b.i=m)/\aq b.out.isEmpty (K (AV.aH []) (du b.x b.L)) (K (AV.aH []) (nR b.x (b.L++b.out)))) (K (.aH []) (du a.x a.L)):=
    fun h=>ae.2 ⟨fun q=>f _ (by rw[h,q];rfl),fun q=>none (by rw[h,q];rfl)⟩
   refine ae.2 ⟨fun J=>⟨⟨a.e,eH (ag a.t 2)⟩,rfl,trivial,ae.2 ⟨fun A=>⟨⟨a.e,eH (ag a.t 3)⟩,rfl,N,⟨a.e,(eH (ag a.t 2)).s,bK a.e (eH (ag a.t 3)).tm⟩,rfl,trivial,f _ (by rw[c,J,A];rfl)⟩,
    fun A=>ae.2 ⟨fun _=>⟨⟨a.e,eH (ag a.t 3)⟩,rfl,trivial,ae.2 ⟨fun Y=>⟨⟨a.e,eH (ag a.t 2)⟩,rfl,P,⟨a.e,(eH (ag a.t 3)).s,bK a.e (eH (ag a.t 2)).tm⟩,rfl,trivial,f _ (by rw[c,J,A,Y];rfl)⟩,
     fun Y=>⟨⟨a.e,eH (ag a.t 2)⟩,rfl,P,⟨a.e,eH (ag a.t 3)⟩,rfl,N,⟨toInt (ag a.t 0),bK a.e (eH (ag a.t 2)).tm,bK a.e (eH (ag a.t 3)).tm⟩,rfl,trivial,E (by rw[c,J,A,Y];rfl)⟩⟩⟩,fun T=>absurd (J.symm.trans T) (by simp)⟩⟩⟩,
    fun J=>ae.2 ⟨fun T=>absurd (T.symm.trans J) (by simp),fun _=>⟨⟨a.e,eH (ag a.t 2)⟩,rfl,P,⟨a.e,eH (ag a.t 3)⟩,rfl,N,⟨toInt (ag a.t 0),bK a.e (eH (ag a.t 2)).tm,bK a.e (eH (ag a.t 3)).tm⟩,rfl,trivial,E (by rw[c,J];rfl)⟩⟩⟩
theorem qGe κ: ∀b st K,aO gj cy TK b st K->b7 (Pr κ) 98 b st K:=by
 rintro b st K ⟨a,d,e,c⟩;exact aE.ph _ _ (eGm _) (cGe _) _ _ _ K ⟨a,d,⟨e,rfl⟩,c⟩
noncomputable def BGe κ:=(Dj κ).Xh aJ (qGe _)
end Go.Proofs.YtioeffnadipbaaaGreatDoor
namespace Go.Proofs.YtioeffnadipbaaaGreatDoor
open Go Go.Dn Go.Rl Go.Proofs
def K3(v:eU):=bif v.y then v.n=0 else v.s=ByteArray.mk #[]
theorem Wh{v}(h:K3 v):QJ (e6 v):=⟨rfl,h⟩
def uy(e:dG):=∀x,x∈e->K3 x.2
theorem HW: ∀{e s},uy e->K3 (e.get s)
 |[],_,_=>rfl
 |(t,w)::e,s,h=>by
  rw[dG.get];cases decide (s=t) with
  |true=>exact h (t,w) (by simp)
  |false=>exact HW fun x a=>h x (by grind)
theorem vg: ∀{e s v},uy e->K3 v->uy (e.put s v)
 |[],s,v,_,b,x,a=>by
  grind [dG.put]
 | (t,w)::e,s,v,h,b,x,a=>by
  rw[dG.put] at a;cases c:decide (s=t) with
  |true=>
   rw[c] at a;rcases List.mem_cons.1 a with rfl|a
   ·exact b
   ·exact h x (by grind)
  |false=>
   rw[c] at a;rcases List.mem_cons.1 a with rfl|a
   ·exact h _ (by simp)
   ·exact vg (fun y d=>h y (by simp[d])) b x a
theorem HP{e}(h:uy e): ∀t,K3 (bK e t)
 | .mk a s n l=>by
  rw[bK];cases a==1 with
  |true=>exact HW h
  | false=>cases a==2 with
   |true=>rfl
   | false=>cases a==3 with
    |true=>rfl
    |false=>
     unfold Zp;split<;>rfl
theorem RH{a}(h:uB a) j:K3 (Es (nth a j)):=by
 rcases Nat.lt_or_ge j _ with b|b
 ·rw[aM _ j b]
  exact(h _ (by simp)).2
 ·rw[eV _ j b];rfl
theorem rX{a}(c:uB a): ∀{l j g d},uy g->nO a l j g=some d->uy d
 |[],_,g,d,b,h=>by
  grind [nO]
 | t::k,j,g,d,b,h=>by
  rw[nO] at h;cases i:toInt (ag t 0)==4 with
  |true=>rw[i] at h;exact rX c b h
  | false=>
   rw[i] at h;cases f:eP g (eH t) with
   |true=>rw[f] at h;exact rX c (vg b (RH c j)) h
   |false=>
    rw[f] at h;cases e: !GS _ _ with
    |true=>rw[e] at h;cases h
    |false=>rw[e] at h;exact rX c b h
theorem Oi{l a e g}(c: ∀r,r∈a->uB (af r))(d:uy e)(h:g∈nq l a e):uy g:=by
 obtain⟨r,f,b⟩:=List.mem_filterMap.1 h
 grind [rX]
def NxE(x:vh) k e a:=
 a∈nq (af (ag (ag (nth x.r.bl k) 1) 1)) (x.at (toStr (ag (ag (nth x.r.bl k) 1) 0))) e\/a=e\/(∃s t,a=e.put s (bK e t))\/ ∃s n,a=e.put s ⟨false,n,ByteArray.mk #[]⟩
theorem Ee x k a e:
  toInt (ag (nth x.r.bl k) 0)=1/\pO x (k::a) e=(nq (af (ag (ag (nth x.r.bl k) 1) 1)) (x.at (toStr (ag (ag (nth x.r.bl k) 1) 0))) e).flatMap (pO x a)\/pO x (k::a) e=[]\/ ∃b,NxE x k e b/\pO x (k::a) e=pO x a b:=by
 grind [NxE,pO]
def Va(x:vh):=∀a r,r∈x.at a->uB (af r)
theorem Wb{x}(c:Va x){k e b}(a:uy e)(h:NxE x k e b):uy b:=by
 rcases h with h|rfl|⟨s,t,rfl⟩|⟨s,n,rfl⟩
 ·exact Oi (c _) a h
 ·grind
 ·grind [vg,HP]
 ·exact vg a rfl
theorem Iz{x k c e r}(h:r∈pO x (k::c) e): ∃a,NxE x k e a/\r∈pO x c a:=by
 rcases Ee x k _ e with⟨_,b⟩|b|⟨a,b,d⟩
 ·rw[b] at h
  obtain⟨g,d,f⟩:=List.mem_flatMap.1 h;exact⟨g, .inl d,f⟩
 ·grind
 grind
theorem rq{x}(b:Va x): ∀c {e},uy e->fR (pO x c e)
 |[],e,d,r,a=>by
  rw[pO,List.mem_singleton] at a;subst a;intro v g;obtain⟨t,_,rfl⟩:=List.mem_map.1 g
  grind [Wh,HP]
 |k::c,e,d,r,a=>by
  obtain⟨i,h,f⟩:=Iz a;exact rq b _ (Wb b d h) r f
theorem BL{x}: ∀b {e r},r∈pO x b e->r.length=x.r.hl.length
 |[],e,r,a=>by
  rw[pO,List.mem_singleton] at a;subst a;exact List.length_map _
 |k::b,e,r,a=>by
  obtain⟨d,_,c⟩:=Iz a;exact BL _ c
def AZ(x:vh)(a:List _):=(a.filter fun k=>toInt (ag (nth x.r.bl k) 0)==1).length
theorem Cq{α β:Type}{f:α->List β}{m}: ∀{l:List _},(∀a,a∈l->(f a).length<=m)->(l.flatMap f).length<=l.length*m
 |[],_=>by simp
 |a::l,h=>by
  have d:=h a (by simp);have e:=Cq (l:=l) fun b c=>h b (by grind)
  rw[List.flatMap_cons,ar1,List.length_cons,Nat.succ_mul];omega
theorem Bp{x N}(h: ∀f,(x.at f).length<=N)(d:1<=N): ∀a e,(pO x a e).length<=N ^ AZ x a
 |[],e=>by rw[pO];exact Nat.le_refl _
 | k::a,e=>by
  have c:AZ x a<=AZ x (k::a):=by
   unfold AZ;rw[List.filter_cons];split<;>simp
  have i:=Nat.pow_le_pow_right d c;rcases Ee x k a e with⟨b,l⟩|b|⟨m,_,b⟩
  ·rw[l]
   have j:=Nat.le_trans (wx (af (ag (ag (nth x.r.bl k) 1) 1)) (x.at (toStr (ag (ag (nth x.r.bl k) 1) 0))) e) (h _);have c:AZ x (k::a)=AZ x a+1:=by
    unfold AZ
    grind
   rw[c,Nat.pow_succ,Nat.mul_comm];exact Nat.le_trans (Cq fun g _=>Bp h d a g) (Nat.mul_le_mul_right _ j)
  ·rw[b];exact Nat.zero_le _
  ·rw[b];exact Nat.le_trans (Bp h d a m) i
end Go.Proofs.YtioeffnadipbaaaGreatDoor
namespace Go.Proofs.YtioeffnadipbaaaGreatDoor
open Go Go.Dn Go.Rl Go.Proofs
attribute [local irreducible] a0 vc
set_option maxRecDepth 20000
theorem RK{E}(b:aE E){f:Nat}{a st K}(h:qn E f a st K):b7 E.P f a st K:=by
 refine⟨?_,fun C i e g c d=>by grind [oO]⟩;obtain⟨_,h⟩:=ai.1 h;simp[kl] at h;exact(b.call _ _ _ _ h).1
def EB.place(b:EB)(f:Nat)(l:List (Nat×Nat×TypeId)):EB:=
 ⟨b.E.aw f fun c s K=>qn _ f _ _ K,b.ok.fT fun _ _ _ a=>MK (NV l (RK b.ok a)),b.mono.aw fun _ _ _ _ d a=>wJ b.mono d a⟩
noncomputable def BGp κ:=EB.owns (EB.place (BGe κ) 98 [(0,4,70)]) [50,46]
theorem yGv κ ds rs ins r K:(a0 (BGp κ).E 12 50 [eG ds rs,au r, .ak 0 0 ins.length] [.row 51 ins] K)=(
 letI b:=Obj.row
 ∃(a:dk),([au r],[])=ad5 a/\OkR a/\∃(a_1:bp),([AV.ptr 0 0 [] 0,AV.int 0,AV.eS 9 72 [] []],[Obj.box 160 (AV.agg [eG ds rs,au r,AV.ak 1
 0 (List.length (cQ (aQ a))),AV.ak 2 0 ins.length,AV.ak 3 0 0]),b 3 (ints (cQ (aQ a))),b 51 ins,b 70 []])=gj a_1/\cy
 a_1/\aq (List.isEmpty (bp.out a_1)) (∃(a:RL),([AV.ah 70 (List.take a_1.L.length (List.drop 0 (rws a_1.L)))],[])=QG a/\xe a/\K (AV.ah 70 (rws
 (ej a))) [b 51 a_1.x.ins]) (∃(a:RL),([AV.ah 70 (List.take (List.length (a_1.L++bp.out a_1)) (List.drop 0 (rws (a_1.L++bp.out a_1))))],[])=
 QG a/\xe a/\K (AV.ah 70 (rws (ej a))) [b 51 a_1.x.ins])):=by kernel_rfl
end Go.Proofs.YtioeffnadipbaaaGreatDoor
namespace Go.Proofs.YtioeffnadipbaaaGreatDoor
open Go Go.Dn Go.Rl Go.Proofs
theorem uP{ds a}(c:nF ds a)(h:(lZ ds a).2=0){r}(b:r∈a):OkR (dr r):=by
 have d:=(tq.1 h).2.2.2 r b;refine⟨c.2.2 r b,?_,?_⟩
 ·grind [dr,kQ,GK]
 grind [kQ,GK]
theorem Fk{a s n l}(h:a=1\/a=2\/a=3):bL (.mk a s n l)=true:=by
 have c: ∀b,(a==1||(a==2||(a==3||b)))=true:=fun b=>by grind
 match l with
 |[]=>grind [bL]
 |[_]=>grind [bL]
 |[_,_]=>exact c _
 |_::_::_::_=>grind [bL]
theorem lb: ∀h t,ar h t=true->t.op≠4->bL t=true
 |0,t,c,_=>by simp[ar] at c
 | h+1, .mk f s n l,c,i=>by
  rw[su] at c;by_cases j:f=0
  ·grind
  rw[aq0 j,aq1] at c;cases d:mn f with
  | true=>
   rw[d,aq3] at c;simp only[ap7,ap6,lH,List.all_eq_true,Bool.not_eq_true',Bool.or_eq_false_iff,ap8] at c;obtain⟨⟨_,k⟩,e⟩:=c;match l,k,e with
   |[a,b],_,e=>
    have g:=e a (by simp);have d:=e b (by simp);simp only[bL,lb h a g.2 g.1.2,lb h b d.2 d.1.2,Bool.and_true,Bool.or_true]
  |false=>
   rw[d,aq1,ap7] at c;have m:=c.1;have i:f≠4:=i
   grind [bare,Fk,decide_eq_false]
theorem nk{a}(h:bn a=true):a.l.length<=8/\∀t,t∈a.l->t.op≠4->bL t=true:=by
 grind [bn,lb]
theorem Ji{t}(h:Vv t=true):bL t=true:=by
 obtain⟨a,s,n,l⟩:=t;simp[Vv] at h;exact Fk (h.imp id .inl)
theorem RG{t}(h:t.op=1):bL t=true:=by
 obtain⟨a,s,n,l⟩:=t;exact Fk (.inl h)
structure Z1(l:Lt):Prop where
 a:ik l.op=true->bn l.a=true
 x:(l.op==1)=false->(l.op==2)=false->bL l.x=true
 y:(l.op==1)=false->(l.op==2)=false->l.op≠7->bL l.y=true
theorem V8{l}(h:jl l=true):Z1 l:=by
 unfold jl at h;by_cases b:(decide (l.op=1)||decide (l.op=2))=true
 ·rw[b,aq3,ap7] at h
  refine⟨fun _=>h.1,fun e d=>?_,fun e d=>?_⟩
  all_goals
   simp only[aq9,ap6] at b;rcases b with c|c<;>simp[c] at e d
 ·have b:(decide (l.op=1)||decide (l.op=2))=false:=by simpa using b
  rw[b,aq1] at h;by_cases a:(decide (l.op=3)||decide (l.op=4)||decide (l.op=5)||decide (l.op=6))=true
  ·rw[a,aq3] at h
   simp only[ap7,Bool.not_eq_true',ap8] at h;refine⟨fun g=>?_,fun _ _=>lb 20 _ h.1.2 h.1.1.1.2,fun _ _ _=>lb 20 _ h.2 h.1.1.2⟩;simp only[aq9,ap6] at a;rcases a with((c|c)|c)|c<;>simp[ik,c] at g
  ·have a:(decide (l.op=3)||decide (l.op=4)||decide (l.op=5)||decide (l.op=6))=false:=by simpa using a
   rw[a,aq1] at h;by_cases c7:l.op=7
   ·rw[aq2 c7,aq3] at h
    simp only[ap7] at h;exact⟨fun _=>h.1.1,fun _ _=>Ji h.1.2.1,fun _ _ f=>absurd c7 f⟩
   ·rw[aq0 c7,aq1] at h
    cases c8:(decide (l.op=8)||decide (l.op=9)||decide (l.op=10)) with
    |true=>
     rw[c8,aq3] at h;simp only[ap7,ap6] at h;exact⟨fun _=>h.1.1.1,fun _ _=>Ji h.1.1.2.1,fun _ _ _=>RG h.1.1.2.2⟩
    |false=>rw[c8] at h;cases h
abbrev bh(a:List RL):List AV:=a.map fun L=> .ah 70 (rws L)
def GC ds i:=(af (ag (nth ds i) 2)).length
structure dU(ds:List AV)(all:List RL):Prop where
 len:all.length=ds.length
 v: ∀L,L∈all->fR L
 r: ∀L,L∈all->cK L=true
 w: ∀i r,r∈all.getD i []->r.length=GC ds i
theorem ni a i:af (nth (bh a) i)=rws (a.getD i []):=by
 grind [aM,af,eV]
def Fv(ds b:List AV)(r:dk)(a:List RL):vh:=⟨ds,b,r,cQ (aQ r),bh a⟩
theorem sO ds c r a b:(Fv ds c r a).at b=rws (a.getD (bx b ds).toNat []):=ni _ _
theorem vn{ds f r a}(h: ∀L,L∈a->fR L):Va (Fv ds f r a):=by
 intro b x c;rw[sO] at c;obtain⟨L,e,rfl⟩:=List.mem_map.1 c;rcases Nat.lt_or_ge (bx b ds).toNat a.length with d|d
 ·refine h _ ?_ L e
  grind
 grind
theorem OZ{ds a}(h:known (cP ds) a=0):a.l.length=GC ds (bx a.rel ds).toNat:=by
 unfold known at h;cases e:kV a.rel (cP ds) with
 |none=>grind
 |some k=>
  obtain⟨_,b,d⟩:=n8 e;rw[x4 e] at h;by_cases c:(lW ds k).length=a.l.length
  ·rw[←c,b,lW,List.length_map];rfl
  grind
theorem Dh{a}(h:ik a=true):Rl.dL ⟨a,⟨ByteArray.empty,[]⟩, .mk 0 ByteArray.empty 0 [], .mk 0 ByteArray.empty 0 []⟩=true:=by
 grind [Rl.dL,ik]
theorem Ht{ds c}(h:(lZ ds c).2=0){r}(i:r∈c):known (cP ds) (aQ (dr r)).head=0/\∀l,l∈(aQ (dr r)).body->ik l.op=true->known (cP ds) l.a=0:=by
 obtain⟨g,_,j,_⟩:=tq.1 h;have b:iY (cP ds) (aQ (dr r))=0:=by
  grind [Uh,kj]
 unfold iY at b;cases e:decide (known (cP ds) (aQ (dr r)).head=0) with
 |false=>grind
 |true=>
  rw[e] at b;exact⟨by simpa using e,fun l f d=>qm b l f (Dh d)⟩
theorem OR{r k}(h:k<r.bl.length):da (nth r.bl k)∈(aQ r).body:=List.mem_map_of_mem (by grind [aM])
theorem OK{ds m}(I:nF ds m)(n:(lZ ds m).2=0){r}(q:r∈m){b}(u:dU ds b)(P: ∀L,L∈b->L.length<=100000000):Qd (Fv ds m (dr r) b):=by
 have d:=uP I n q;have F:=rj n q;have O:=Ht n q;have H:=d.r;simp only[a8,ap7,ap6,List.all_eq_true] at H;obtain⟨⟨⟨C,T⟩,K⟩,p⟩:=H;have hl:=sq d.f;have U:(aQ (dr r)).body.length=(dr r).bl.length:=gh _;have i: ∀k,k∈cQ (aQ (dr r))->k<(dr r).bl.length:=fun k d=>by have:=sl d;omega
 refine⟨I.1,?_,i,?_,fun t s=>?_,fun k d=>?_⟩
 ·show(cQ (aQ (dr r))).length<=100000
  omega
 ·have:=(nk C).1
  have e:(aQ (dr r)).head.l.length=(dr r).hl.length:=eD _;show(dr r).hl.length<=100000
  omega
 ·have j:cI t∈(aQ (dr r)).head.l:=List.mem_map_of_mem s
  rw[iE];have D:=K _ j;simp only[tk,ap7,Bool.not_eq_true',ap8] at D;exact(nk C).2 _ j D.1.1
 ·have d:=i k d
  have j:=OR d;have o:=V8 (p _ j);have h:nth (dr r).bl k∈af (ag r 1):=by rw[aM _ k d];exact List.getElem_mem _
  have E:ik (toInt (ag (nth (dr r).bl k) 0))=true->dL (toInt (ag (nth (dr r).bl k) 0))=true:=fun g=>by
   have:=Dh g
   simp only[Rl.dL,aq9,ap6] at this;unfold dL;by_cases c:toInt (ag (nth (dr r).bl k) 0)<3
   ·rw[aq2 c];rfl
   ·rw[aq0 c,aq1,ap6];omega
  refine⟨fun g=>?_,fun g=>?_,fun z v=>by rw[iE];exact o.x z v,fun z v e7=>by rw[iE];exact o.y z v e7⟩
  ·have:=F.2 _ h (E g)
   refine⟨this.1,?_⟩;show _<((bh b).length:Int)
   rw[List.length_map,u.len];exact this.2
  ·have A:=nk (o.a g)
   have B:=OZ (O.2 _ j g);have R:(da (nth (dr r).bl k)).a.l.length=(af (ag (ag (nth (dr r).bl k) 1) 1)).length:=eD _;rw[sO];show D3 (af (ag (ag (nth (dr r).bl k) 1) 1)) (rws (b.getD (bx (toStr (ag (ag (nth (dr r).bl k) 1) 0)) ds).toNat []))
   have J:=F.2 _ h (E g);have Q:(bx (toStr (ag (ag (nth (dr r).bl k) 1) 0)) ds).toNat<b.length:=by have:=u.len;omega
   refine⟨?_,by omega,fun t s p=>?_,fun x J=>?_⟩
   ·rw[dX]
    refine P _ ?_;simp[List.getD_eq_getElem?_getD,Q]
   ·rw[iE]
    have e:=de t;refine A.2 _ (List.mem_map_of_mem s) ?_;rw[e];exact p
   ·obtain⟨L,N,rfl⟩:=List.mem_map.1 J
    rw[←R,B];exact u.w _ L N
theorem rW A B:A.length<=(er A B).length:=by
 match A,B with
 |[],B=>simp
 |a::c,[]=>
  have:=rW c []
  grind [Bv]
 |a::c,b::d=>
  have f:=rW c (b::d);have g:=rW c d;have e:=rW (a::c) d
  grind [zY]
termination_by A.length+B.length
def cC(a:List RL):=(a.map List.length).sum
theorem HE: ∀a i N,i<a.length->cC (a.set i N)+(a.getD i []).length=cC a+N.length
 |[],_,_,h=>absurd h (by simp)
 |L::a,0,N,_=>by grind [cC]
 |L::a,i+1,N,h=>by
  have:=HE a i N (by grind)
  simp[cC,List.sum_cons,List.getD_cons_succ] at this⊢;omega
theorem rn{L}: ∀{a},L∈a->L.length<=cC a
 |M::a,h=>by
  simp[cC];rcases List.mem_cons.1 h with rfl|h
  ·simp
  ·have:=rn h;grind [cC]
section
variable (ds rs:List AV)
def dF r a:=ej (pO (Fv ds rs r a) (cQ (aQ r)) [])
def atR r:=(bx (dr r).rel ds).toNat
def iK r(a:List _):=a.set (atR ds r) (er (a.getD (atR ds r) []) (dF ds rs (dr r) a))
def cu(g:List Int)(bc:Nat):List AV->List RL->Bool->List RL×Bool
 |[],a,b=>(a,b)
 |r::xs,a,b=>bif decide (bc<cC a) then(a,false)
  else bif !g.contains (bx (dr r).rel ds) then cu g bc xs a b
  else cu g bc xs (iK ds rs r a) (b||decide ((a.getD (atR ds r) []).length<(er (a.getD (atR ds r) []) (dF ds rs (dr r) a)).length))
def ft(g:List Int)(bc:Nat):Nat->List RL->List RL
 |0,a=>a
 |n+1,a=>bif (cu ds rs g bc rs a false).2 then ft g bc n (cu ds rs g bc rs a false).1 else(cu ds rs g bc rs a false).1
def gT bc(b:List _) a:=b.foldl (fun a g=>ft ds rs g bc 99 a) a
end
structure iQ(ds rs:List AV):Prop where
 s:nF ds rs
 c:(lZ ds rs).2=0
variable {ds rs:List AV}
theorem iQ.at(h:iQ ds rs){r}(a:r∈rs):(0<=bx (dr r).rel ds/\bx (dr r).rel ds<ds.length)/\atR ds r<ds.length:=by
 have:=(rj h.c a).1
 grind [dr,atR]
theorem Im:uy []:=fun _ hx=>nomatch hx
theorem u6(h:iQ ds rs){r}(b:r∈rs){a}(j:dU ds a):fR (dF ds rs (dr r) a)/\cK (dF ds rs (dr r) a)=true/\∀x,x∈dF ds rs (dr r) a->x.length=GC ds (atR ds r):=by
 have d:fR (pO (Fv ds rs (dr r) _) (cQ (aQ (dr r))) _):=rq (vn j.v) _ Im;obtain⟨e,f,g⟩:=jH d;refine⟨g,e,fun x i=>?_⟩;rw[BL _ ((f x).1 i)];have:=OZ (Ht h.c b).1
 rw[show(aQ _).head.l.length=(dr r).hl.length from eD _] at this;exact this
theorem k9{a:List RL}{i}(h:i<a.length):a.getD i []∈a:=by grind
theorem pe(h:iQ ds rs){r}(k:r∈rs){a}(c:dU ds a):dU ds (iK ds rs r a)/\cC a<=cC (iK ds rs r a)/\cC (iK ds rs r a)+(a.getD (atR ds r) []).length=cC a+(er (a.getD (atR ds r) []) (dF ds rs (dr r) a)).length:=by
 obtain⟨g,n,l⟩:=u6 h k c;have j:atR ds r<a.length:=by rw[c.len];exact(h.at k).2
 have f:=k9 j;have m:=HE a (atR ds r) (er (a.getD (atR ds r) []) (dF ds rs (dr r) a)) j;have o:=rW (a.getD (atR ds r) []) (dF ds rs (dr r) a);refine⟨⟨?_,?_,?_,?_⟩,?_,m⟩
 ·rw[iK,List.length_set];exact c.len
 ·intro L d
  rcases List.mem_or_eq_of_mem_set d with d|rfl
  ·exact c.v L d
  ·intro x b
   rcases(gq (c.v _ f) g).1 b with b|b
   ·exact c.v _ f x b
   ·exact g x b
 ·intro L d
  rcases List.mem_or_eq_of_mem_set d with d|rfl
  ·exact c.r L d
  ·exact ml (c.v _ f) g (c.r _ f) n
 ·intro i x b
  by_cases e:atR ds r=i
  ·subst e
   rw[iK,List.getD_eq_getElem?_getD,List.getElem?_set_self j] at b;rcases(gq (c.v _ f) g).1 b with b|b
   ·exact c.w _ x b
   ·exact l x b
  ·rw[iK,List.getD_eq_getElem?_getD,List.getElem?_set_ne e,←List.getD_eq_getElem?_getD] at b
   exact c.w i x b
 ·unfold iK;omega
theorem lC(h:iQ ds rs) g bc: ∀xs a m,(∀r,r∈xs->r∈rs)->dU ds a->
  dU ds (cu ds rs g bc xs a m).1/\cC a<=cC (cu ds rs g bc xs a m).1/\((cu ds rs g bc xs a m).2=true->m=true\/cC a<cC (cu ds rs g bc xs a m).1)/\
  (cC (cu ds rs g bc xs a m).1<=bc->cu ds rs g (bc+1) xs a m=cu ds rs g bc xs a m)
 |[],a,m,_,b=>⟨b,Nat.le_refl _,fun h=> .inl h,fun _=>rfl⟩
 | r::xs,a,m,d,b=>by
  rw[cu,cu];by_cases c:bc<cC a
  ·grind
  ·rw[aq0 c,aq0 (show ¬ bc+1<cC a by omega),aq1,aq1]
   cases f: !g.contains (bx (dr r).rel ds) with
   |true=>exact lC h g bc xs a m (fun r e=>d r (by simp[e])) b
   |false=>
    obtain⟨s1,s2,i⟩:=pe h (d r (by simp)) b;obtain⟨j,k,l,n⟩:=lC h g bc xs (iK ds rs r a) (m||decide ((a.getD (atR ds r) []).length<(er (a.getD (atR ds r) []) (dF ds rs (dr r) a)).length)) (fun r e=>d r (by simp[e])) s1
    grind
theorem uR(h:iQ ds rs) g bc: ∀n a,dU ds a->
  dU ds (ft ds rs g bc n a)/\cC a<=cC (ft ds rs g bc n a)/\(cC (ft ds rs g bc n a)<=bc->ft ds rs g (bc+1) n a=ft ds rs g bc n a)
 |0,a,b=>⟨b,Nat.le_refl _,fun _=>rfl⟩
 | n+1,a,b=>by
  obtain⟨c,e,f,i⟩:=lC h g bc rs _ false (by simp) b;rw[ft,ft];cases j:(cu ds rs g _ rs a _).2 with
  |true=>
   obtain⟨k,l,d⟩:=uR h g bc n _ c
   grind
  |false=>
   grind
theorem BD(h:iQ ds rs) bc: ∀b a,dU ds a->
  dU ds (gT ds rs bc b a)/\cC a<=cC (gT ds rs bc b a)/\(cC (gT ds rs bc b a)<=bc->gT ds rs (bc+1) b a=gT ds rs bc b a)
 |[],a,c=>⟨c,Nat.le_refl _,fun _=>rfl⟩
 |g::b,a,c=>by
  obtain⟨d,f,i⟩:=uR h g bc 99 _ c;obtain⟨j,k,e⟩:=BD h bc b _ d
  grind [gT]
end Go.Proofs.YtioeffnadipbaaaGreatDoor
namespace Go.Proofs.YtioeffnadipbaaaGreatDoor
open Go Go.Dn Go.Rl Go.Proofs
attribute [local irreducible] a0 vc
set_option maxRecDepth 20000
structure Lr where
 ds:List AV
 rs:List AV
 r:dk
 all:List RL
def Lr.V(a:Lr):=pO (Fv a.ds a.rs a.r a.all) (cQ (aQ a.r)) []
def KT(a:Lr):List AV×List Dn.Obj:=([eG a.ds a.rs,au a.r, .ak 0 0 (bh a.all).length],[.row 51 (bh a.all)])
structure qi(a:Lr):Prop where
 o:OkR a.r
 x:Qd (Fv a.ds a.rs a.r a.all)
 f:xe a.V
def TT(a:Lr):Out (AV×List Dn.Obj):= .one (.ah 70 (rws (dF a.ds a.rs a.r a.all)),[.row 51 (bh a.all)])
theorem cGv κ:bd (BGp κ).E 12 50 (aO KT qi TT):=by
 refine aR ?_;rintro⟨ds,c,r,a⟩ K d b;have g:=d.f
 replace b:K (.ah 70 (rws (ej (Lr.V ⟨ds,c,r,a⟩)))) [.row 51 (bh a)]:=b
 refine Eq.mpr (yGv κ ds c (bh a) r K) ⟨r,rfl,d.o,⟨Fv ds c r a,[],0,[]⟩,rfl,⟨d.x,Nat.zero_le _,?_⟩,ae.2 ⟨fun h=>⟨[],rfl,⟨Nat.zero_le _,fun r e=>(nomatch e),fun r e=>(nomatch e)⟩,?_⟩,fun h=>⟨_,?_,g,b⟩⟩⟩
 ·have:=g.n
  show 0+(Lr.V ⟨ds,c,r,a⟩).length<=100000000
  omega
 ·have h:(Lr.V ⟨ds,c,r,a⟩).isEmpty=true:=h
  rw[List.isEmpty_iff] at h;rw[h] at b;exact b
 ·rw[List.nil_append,aq6,←dX,List.take_length];rfl
noncomputable def UB κ:=(BGp κ).call (cGv _)
def jt(xs:List _):=(xs.map fun x=>(af x).length).sum
theorem DN xs a:jt (xs++a)=jt xs+jt a:=by simp[jt]
theorem wv a:jt (bh a)=cC a:=by
 unfold jt cC bh;rw[List.map_map];congr 1
 exact List.map_congr_left fun L _=>dX L
abbrev Wx xs(i:Nat):=sp 18 [(3, .int (jt (xs.take i))),(6, .ah 51 xs),(7, .int xs.length),(8, .int i)] []
theorem xTo κ xs i I N K:(vc (UB κ).E 12 47 none 0 (ad (Pr κ).toProgram 47 3) (Wx xs i) (bj (UB κ).E 47 3 0 I N K))=(
 letI a:=IntKind.wrap IntKind.i64
 letI b:=(↑i:Int)<(↑(xs.length):Int)
 aq (decide b) (aV (true&&decide b) (∃(e0:Nat),e0<N/\I e0 (sp 18 [(3,AV.int (a ((↑(jt (List.take i xs)):Int)+
 (↑(List.length (af (nth xs (Int.toNat (↑i:Int))))):Int)))),(6,AV.ah 51 xs),(7,AV.int (↑(xs.length):Int)),(8,AV.int (a ((↑i:
 Int)+(1:Int))))] []))) (K (Exit.exit 0) (sp 18 [(3,AV.int (↑(jt (List.take i xs)):Int))] []))):=by kernel_rfl
abbrev ATo:=List AV×Nat
abbrev PC(x:ATo):S:=Wx x.1 x.2
def Mm(x:ATo):=x.2<=x.1.length/\x.1.length<=100000/\jt x.1<=1000000000
def ZX(x:ATo):Out (Exit×S):= .one (.exit 0,sp 18 [(3, .int (jt x.1))] [])
theorem lTo κ:aU (UB κ).E 12 47 3 (aG 0 PC Mm ZX):=by
 refine aC (fun x=>x.1.length - x.2) ?_;rintro⟨xs,i⟩ K ⟨f,c,d⟩ b;simp only at f c d;rw[show(UB κ).E.P=Pr κ from rfl];refine Eq.mpr (xTo κ xs i _ _ K) ?_;simp only[Int.toNat_natCast];rw[ae,ap6,ap8];refine⟨fun h=>?_,fun h=>?_⟩
 ·have a:i<xs.length:=by omega
  have j:jt (xs.take (i+1))=jt (xs.take i)+(af (nth xs i)).length:=by
   rw[List.take_add_one,DN,aM xs i a];simp[jt,a]
  have g:jt (xs.take (i+1))<=jt xs:=by
   have:=DN (xs.take (i+1)) (xs.drop (i+1))
   rw[List.take_append_drop] at this;omega
  refine ai.2 ⟨by simp;omega,_,?_,⟨xs,i+1⟩,?_,⟨a,c,d⟩,rfl,b⟩
  ·simp only;omega
  ·simp only[PC,Wx]
   grind [az,jt,af,nth]
 ·have e:xs.take i=xs:=List.take_of_length_le (by omega)
  simp only[e];exact b
noncomputable def WY κ:=(UB κ).loop (lTo _)
theorem yTo κ xs K:(a0 (WY κ).E 12 47 [.ah 51 xs] [] K)=(
 letI a:=Pg.toProgram (Env.P (EB.E (UB κ)))
 ad a 47 3=ad a 47 3/\∃(e0:ATo),sp 18 [(3,AV.int 0),(6,AV.ah 51 xs),(7,AV.int (↑(xs.length):Int)),(8,AV.int 0)] []=PC e0/\Mm e0/\K (AV.int
 (↑(jt e0.1):Int)) []):=by kernel_rfl
def gTo:List AV->Option (Bool×AV)
 |[.ah 51 xs]=>some (decide (xs.length<=100000)&&decide (jt xs<=1000000000), .int (jt xs))
 |_=>none
theorem pTo κ:cd (WY κ).E 12 47 gTo:=by
 intro b x a;unfold gTo at a;split at a
 ·rename_i xs
  simp   at a;obtain⟨⟨d,c⟩,rfl⟩:=a;exact⟨_,rfl,rfl,Eq.mpr (yTo κ xs _) ⟨rfl,⟨xs,0⟩,rfl,⟨Nat.zero_le _,d,c⟩,rfl⟩⟩
 grind
noncomputable def Vs κ:=EB.GV ((WY κ).pure (pTo _)) [47]
structure WO where
 A:List AV
 B:List AV
 xs:List AV
abbrev nP(A B:List AV):List Dn.Obj:=[.box 51 (.ah 70 A), .box 51 (.ah 70 B)]
abbrev QK(x:WO):=sp 52 [(0, .cf 0),(1, .ptr 1 0 [] 0),(2, .ptr 2 0 [] 0)] (.ext (some x.xs)::nP x.A x.B)
theorem xBo(κ:Kp) x I N K:(vc (Vs κ).E 12 82 none 3 (ad (Pr κ).toProgram 82 0) (QK x) (bj (Vs κ).E 82 0 3 I N K))=(
 letI a:=AV.ptr
 letI b:=AV.agg
 letI c:=AV.bool
 letI d:=Obj.ext
 letI e:=Exit.ret
 letI f:=AV.aH
 letI g:=AV.cf
 letI j:=af (nth x.A 0)
 letI h:=x.A.length
 letI m:=List.drop 1 (List.take (Int.toNat (↑h:Int)) x.A)
 letI s:=true&&decide ((1:Int)<=(↑h:Int))&&decide ((↑h:Int)<=(↑h:Int))
 letI r:=true&&decide ((0:Int)<(↑h:Int))
 letI i:=x.B.length
 letI n:=List.drop 1 (List.take (Int.toNat (↑i:Int)) x.B)
 letI u:=true&&decide ((1:Int)<=(↑i:Int))&&decide ((↑i:Int)<=(↑i:Int))
 letI t:=true&&decide ((0:Int)<(↑i:Int))
 letI k:=af (nth x.B 0)
 letI l:=decide (bz j k<=(0:Int))
 letI o:=decide (bz j k>=(0:Int))
 letI p:=sp 52 [] (d none::nP m x.B)
 letI q:=sp 52 [] (d none::nP x.A n)
 letI v:=aq ((↑i:Int)==(0:Int)) (aV r (aV s (∃(e1:List AV),x.xs=f [AV.ah 72 j,b [c true,c false]]::e1/\(∃(e0:
  Nat),e0<N/\I e0 (sp 52 [(0,g 0),(1,a 1 0 [] 0),(2,a 2 0 [] 0)] (d (some e1)::nP m x.B)))/\K e p))) (aq ((↑h:Int)
  ==(0:Int)) (aV t (aV u (∃(e1:List AV),x.xs=f [AV.ah 72 k,b [c false,c true]]::e1/\(∃(e0:Nat),e0<N/\I e0 (sp 52
  [(0,g 0),(1,a 1 0 [] 0),(2,a 2 0 [] 0)] (d (some e1)::nP x.A n)))/\K e q))) (aV r (aV t (aV (decide (List.length j<=
  9223372036854775807)) (aq o (aV t (aV u (aq l (aV r (aV s (∃(e1:List AV),x.xs=f [AV.ah 72 j,b [c l,c o]]::e1/\(∃(e0:
  Nat),e0<N/\I e0 (sp 52 [(0,g 0),(1,a 1 0 [] 0),(2,a 2 0 [] 0)] (d (some e1)::nP m n)))/\K e (sp 52 [] (d none::
  nP m n))))) (∃(e1:List AV),x.xs=f [AV.ah 72 k,b [c l,c o]]::e1/\(∃(e0:Nat),e0<N/\I e0 (sp 52 [(0,g 0),(1,
  a 1 0 [] 0),(2,a 2 0 [] 0)] (d (some e1)::nP x.A n)))/\K e q)))) (aq l (aV r (aV s (∃(e1:List AV),x.xs=f [AV.ah 72
  j,b [c l,c o]]::e1/\(∃(e0:Nat),e0<N/\I e0 (sp 52 [(0,g 0),(1,a 1 0 [] 0),(2,a 2 0 [] 0)] (d (some e1)
  ::nP m x.B)))/\K e p))) (∃(e1:List AV),x.xs=f [AV.nil,b [c l,c o]]::e1/\(∃(e0:Nat),e0<N/\I e0 (sp 52 [(0,
  g 0),(1,a 1 0 [] 0),(2,a 2 0 [] 0)] (d (some e1)::nP x.A x.B)))/\K e (sp 52 [] (d none::nP x.A x.B)))))))))
 aq (decide ((↑h:Int)>(0:Int))) v (aq (decide ((↑i:Int)>(0:Int))) v (K (Exit.exit 0) (sp 52 [] (d (some x.xs)::nP x.A x.B))))):=by kernel_rfl
def Eo(l:List BI):List AV:=l.map fun x=> .aH [.ah 72 x.1, .agg [.bool x.2.1, .bool x.2.2]]
def tt(x:WO):=x.xs=Eo (fZ (cU x.A) (cU x.B))/\eR x.A=true/\eR x.B=true
def TP(_:WO):Out (Exit×S):= .all (fun _:Bool×List _×List _=>True) fun y=> .aq y.1
 (.one (.exit 0,sp 52 [] (.ext (some [])::nP y.2.1 y.2.2)))
 (.one (.ret,sp 52 [] (.ext none::nP y.2.1 y.2.2)))
theorem Oc p q:aq true p q=p:=rfl
theorem HF p q:aq false p q=q:=rfl
theorem OQ(p:Prop):aV true p=p:=rfl
theorem pw{a A}(h:eR (a::A)=true):eR A=true:=by
 grind [eR]
theorem Ob(a:AV) A:decide (((a::A).length:Int)>0)=true/\(((a::A).length:Int)==0)=false/\(true&&decide ((0:Int)<(a::A).length))=true/\(true&&decide (1<=((a::A).length:Int))&&decide ((a::A).length<=((a::A).length:Int)))=true:=by grind
theorem lBo κ:aU (Vs κ).E 12 82 0 (aG 3 QK tt TP):=by
 refine aC (fun x=>x.A.length+x.B.length) ?_;rintro⟨A,B,xs⟩ K ⟨e,i,j⟩ l;simp only at e i j;rw[show(Vs κ).E.P=Pr κ from rfl];refine Eq.mpr (xBo κ ⟨A,B,xs⟩ _ _ K) ?_;have d: ∀(h f:List AV) (v:AV),eR h=true->eR f=true->h.length+f.length<A.length+B.length->xs=v::Eo (fZ (cU h) (cU f))->∃g,xs=v::g/\(∃m,m<A.length+B.length/\et QK tt TP (fun x=>x.A.length+x.B.length) K m (sp 52 [(0, .cf 0),(1, .ptr 1 0 [] 0),(2, .ptr 2 0 [] 0)] (.ext (some g)::nP h f)))/\K Exit.ret (sp 52 [] (.ext none::nP h f)):=
  fun h f v D y z C=>⟨_,C,⟨_,z,⟨h,f,_⟩,rfl,⟨rfl,D,y⟩,rfl,l⟩,l (false,h,f) trivial⟩
 simp only[Int.toNat_natCast,List.take_length];have e0:decide (((([]:List AV).length:Nat):Int)>0)=false:=rfl;have k:((((([]:List AV).length:Nat)):Int)==0)=true:=rfl;cases A with
 | nil=>
  cases B with
  |nil=>
   rw[show xs=[] from e];simp only[e0,k,HF];exact l (true,[],[]) trivial
  |cons b B=>
   obtain⟨o,q,n,p⟩:=Ob b B;simp only[e0,k,o,q,n,p,Oc,HF,OQ];exact d [] B _ i (pw j) (by simp) (by rw[e];cases B<;>rfl)
 | cons a A=>
  obtain⟨s,r,t,u⟩:=Ob a A;cases B with
  |nil=>
   simp only[k,s,r,t,u,Oc,HF,OQ];exact d A [] _ (pw i) j (by simp) (by rw[e];rfl)
  | cons b B=>
   obtain⟨o,q,n,p⟩:=Ob b B;simp only[s,r,t,u,o,q,n,p,Bool.and_self,Oc,HF,OQ];have F:=lK i 0;refine ai.2 ⟨by rw[ap6];omega,?_⟩;have w:fZ (cU (a::A)) (cU (b::B))=bif decide (bz (af a) (af b)<0) then(af a,true,false)::fZ (cU A) (cU (b::B)) else bif decide (bz (af a) (af b)=0) then(af a,true,true)::fZ (cU A) (cU B) else(af b,false,true)::fZ (cU (a::A)) (cU B):=rfl
   rw[w] at e;rw[show nth (a::A) 0=a from rfl,show nth (b::B) 0=b from rfl];rcases Int.lt_trichotomy (bz (af a) (af b)) 0 with c|c|c
   ·rw[aq2 c] at e
    rw[aq0 (show ¬ bz (af a) (af b)>=0 by omega),aq2 (show bz (af a) (af b)<=0 by omega)];exact d A (b::B) _ (pw i) j (by simp) e
   ·rw[aq0 (show ¬ bz (af a) (af b)<0 by omega),aq2 c] at e
    rw[aq2 (show bz (af a) (af b)>=0 by omega),aq2 (show bz (af a) (af b)<=0 by omega)];exact d A B _ (pw i) (pw j) (by simp;omega) e
   ·rw[aq0 (show ¬ bz (af a) (af b)<0 by omega),aq0 (show ¬ bz (af a) (af b)=0 by omega)] at e
    rw[aq2 (show bz (af a) (af b)>=0 by omega),aq0 (show ¬ bz (af a) (af b)<=0 by omega)];exact d (a::A) B _ i (pw j) (by simp) e
noncomputable def Ur κ:=(Vs κ).loop (lBo _)
theorem yBo κ(x:WO) K:(a0 (Ur κ).E 12 82 [.cf 0, .ptr 1 0 [] 0, .ptr 2 0 [] 0] (.ext (some x.xs)::nP x.A x.B) K)=(
 letI a:=Pg.toProgram (Env.P (EB.E (Vs κ)))
 ad a 82 0=ad a 82 0/\∃(e1:WO),sp 52 [(0,AV.cf 0),(1,AV.ptr 1 0 [] 0),(2,AV.ptr 2 0 [] 0)] (Obj.ext (some x.xs)::nP x.A x.B)=QK e1/\tt e1/\∀
 (e0:Bool×List AV×List AV),True->aq e0.1 (K (AV.aH []) (Obj.ext (some [])::nP e0.2.1 e0.2.2)) (K (AV.aH []) (Obj.ext none::nP e0.2.1 e0.2.2))):=by kernel_rfl
def Wp(x:WO):List AV×List Dn.Obj:=([.cf 0, .ptr 1 0 [] 0, .ptr 2 0 [] 0], .ext (some x.xs)::nP x.A x.B)
def MQ(_:WO):Out (AV×List Dn.Obj):= .all (fun st'=>sm st') fun st'=> .one (.aH [],st')
theorem cBp κ:bd (Ur κ).E 12 82 (aO Wp tt MQ):=by
 refine aR ?_;intro x K c a;refine Eq.mpr (yBo _ x K) ⟨rfl,x,rfl,c,fun y _=>?_⟩;obtain⟨b,e,d⟩:=y;cases b
 ·exact a _ trivial
 ·exact a _ trivial
noncomputable def Xm κ:=EB.inline ((Ur κ).call (cBp _)) [38]
abbrev nN:List AV:=[.ptr 1 0 [] 0, .ptr 2 0 [] 0]
noncomputable abbrev Qj(A B:List AV):Dn.Obj:= .loop (iI Tryz.prog 15 5 .ready none (gX (bM 27) [(0, .ah 70 A),(1, .ah 70 B),(4, .nil),(5, .int 0),(6, .ptr 0 0 [] 0),(8, .ah 70 A),(9, .bool (cK (cU A))),(10, .bool !cK (cU A)),(11, .bool false),(12, .ah 70 B),(13, .bool (cK (cU B))),(14, .bool !cK (cU B)),(15, .bool false),(16, .ah 70 A),(17, .ah 70 B),(18, .bm 82 nN)]))
noncomputable abbrev tz A B:=[.box 51 .nil, .box 51 (.ah 70 A), .box 51 (.ah 70 B),Qj A B]
noncomputable abbrev EI A B W:=[.box 51 (.ak 4 0 W.length), .dead, .dead,Qj A B, .row 70 (rws W)]
theorem sUn κ A B Q:(tidy (Pr κ).toProgram 4 (dt (tz A B) (bV (tz A B) nN)) Q)=(
 Q [Obj.box 51 (AV.ak 4 0 0),Obj.dead,Obj.dead,Qj A B,Obj.row 70 []]):=by kernel_rfl
theorem rUn κ A B t W p q Q(K2:List Dn.Obj->Prop):(fQ (vc (Xm κ).E 12) 3 [.ah 72 t, .agg [.bool p, .bool q]] (EI A B W) (fun r st''=>match r with| .lit (.bool true)=>tidy (Pr κ).toProgram 4 st'' Q| .lit (.bool false)=>K2 st''|_=>False))=(
 ∃(a:List AV),([AV.ah 72 t],[])=NF a/\a.length<=100000000/\aV (decide ((W.length+1+1)*25<=70368744177664)) (Q [Obj.box 51 (AV.ak 4 0
 (W.length+1)),Obj.dead,Obj.dead,Qj A B,Obj.row 70 (List.take W.length (rws W)++[AV.ah 72 a])])):=by kernel_rfl
theorem oUn A B:lT (tz A B) nN=true:=by kernel_rfl
theorem kUn A B xs:(AV.cf 0::fC (ia (bV (tz A B) nN)) nN,Obj.ext (some xs)::fU (ia (bV (tz A B) nN)) (fV (tz A B) (bV (tz A B) nN)))=([.cf 0, .ptr 1 0 [] 0, .ptr 2 0 [] 0], .ext (some xs)::nP A B):=by kernel_rfl
structure Uy(A B:List AV):Prop where
 a:eR A=true
 b:eR B=true
 n:(fZ (cU A) (cU B)).length<=100000000
 s: ∀x,x∈fZ (cU A) (cU B)->x.1.length<=100000000
noncomputable def Yf:eh:=fun a st K=>∃A B,(a,st)=(nN,tz A B)/\Uy A B/\K (EI A B (er (cU A) (cU B)))
theorem Kf:Yf.fY:=by
 rintro a st K f d ⟨A,B,c,e,b⟩;exact⟨A,B,c,e,d _ b⟩
theorem Vy κ a st K(h:aO Wp tt MQ a st K):(Xm κ).E.call 82 a st K:=h
theorem gUn κ:iw (Xm κ).E 12 82 Yf:=by
 rintro k st K ⟨A,B,w,m,v⟩;obtain⟨rfl,rfl⟩:=Prod.mk.inj (show(k,st)=(nN,tz A B) from w);refine⟨Eo (fZ (cU A) (cU B)),fun g st'=>∃d c:List BI,g=Eo c/\st'=EI A B (d.map (·.1))/\d++c=fZ (cU A) (cU B),⟨oUn A B,?_,?_,?_,?_⟩⟩
 ·refine Vy κ _ _ _ ⟨⟨A,B,Eo (fZ (cU A) (cU B))⟩,?_,⟨rfl,m.a,m.b⟩,fun st' h=>h⟩
  rw[kUn];rfl
 ·rw[show(Xm κ).E.P=Pr κ from rfl,show(tz A B).length=4 from rfl,sUn]
  exact⟨[],_,rfl,rfl,List.nil_append _⟩
 ·rintro C u st' ⟨d,c,o,rfl,i⟩
  cases c with
  |nil=>cases o
  | cons x c=>
   obtain⟨t,p,q⟩:=x;obtain⟨z,rfl⟩:=List.cons.inj o;obtain rfl:=AV.aH.inj z;rw[show(Xm κ).E.P=Pr κ from rfl,show(tz A B).length=4 from rfl,show(4:Nat) - 1=3 from rfl];have r:=m.n;rw[←i] at r;simp only[ar1,List.length_cons] at r;have y:t.length<=100000000:=m.s (t,p,q) (by rw[←i];simp);have f: ∃l j:List BI,Eo c=Eo j/\EI A B (d.map (·.1)++[t])=EI A B (l.map (·.1))/\l++j=fZ (cU A) (cU B):=
    ⟨d++[(t,p,q)],c,rfl,by rw[List.map_append];rfl,by rw[←i];simp⟩
   refine Eq.mpr (rUn κ A B t (d.map (·.1)) p q (fun st'=>∃l j:List BI,Eo c=Eo j/\st'=EI A B (l.map (·.1))/\l++j=fZ (cU A) (cU B)) K) ⟨t,rfl,y,ai.2 ⟨?_,?_⟩⟩
   ·rw[ap6,List.length_map];omega
   ·have e:List.take (d.map (·.1)).length (rws (d.map (·.1)))++[AV.ah 72 t]=rws (d.map (·.1)++[t]):=by
     rw[←ve,←dX (d.map (·.1)),List.take_length]
    rw[e];simp only[EI,ar1,List.length_singleton] at f;exact f
 ·rintro st' ⟨d,c,o,rfl,i⟩
  obtain rfl:c=[]:=by cases c with|nil=>rfl|cons _ _=>cases o
  rw[List.append_nil] at i;rw[i];exact v
noncomputable def V0 κ:=(Xm _).range 15 5 Kf (gUn κ) fun f=>iD f (82::JJ)
theorem yUn κ A B K:(a0 (V0 κ).E 12 15 [.ah 70 A, .ah 70 B] [] K)=(
 letI a:=K (AV.aH [AV.nil,AV.int 80]) []
 aV (eR A) (aq (!cK (cU A)) a (aV (eR B) (aq (!cK (cU B)) a (∃(e1:List AV),∃(e0:List AV),([AV.ptr 1 0 [] 0,AV.ptr 2 0 [] 0],tz A B)=([AV.ptr 1 0 []
 0,AV.ptr 2 0 [] 0],tz e1 e0)/\Uy e1 e0/\K (AV.aH [AV.ak 0 0 (List.length (er (cU e1) (cU e0))),AV.int 0]) [Obj.row 70 (rws (er (cU e1) (cU e0)))]))))):=by kernel_rfl
abbrev P2:=List AV×List AV
def Q2(x:P2):List AV×List Dn.Obj:=([.ah 70 x.1, .ah 70 x.2],[])
structure vV(x:P2):Prop where
 f:Uy x.1 x.2
 a:cK (cU x.1)=true
 b:cK (cU x.2)=true
def X9(x:P2):Out (AV×List Dn.Obj):= .one (.aH [.ak 0 0 (er (cU x.1) (cU x.2)).length, .int 0],[.row 70 (rws (er (cU x.1) (cU x.2)))])
theorem cUn κ:bd (V0 κ).E 12 15 (aO Q2 vV X9):=by
 refine aR ?_;rintro⟨A,B⟩ K ⟨c,e,f⟩ d;refine Eq.mpr (yUn _ A B K) (ai.2 ⟨c.a,?_⟩);rw[e];refine ai.2 ⟨c.b,?_⟩;rw[f];exact⟨A,B,rfl,c,d⟩
noncomputable def BUn κ:=((V0 κ).call (cUn _)).calm [15,50]
end Go.Proofs.YtioeffnadipbaaaGreatDoor
