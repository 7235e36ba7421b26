import Derived.Test.YtioeffnadipbaaaGreatDoorDePD
import Derived.Test.YtioeffnadipbaaaGreatDoorDeP8
import Derived.Test.YtioeffnadipbaaaGreatDoorDePC
namespace Go.Proofs.YtioeffnadipbaaaGreatDoor
open Go Go.Dn Go.Rl Go.Proofs
attribute [local irreducible] a9 vc
set_option maxRecDepth 20000
theorem bp.Z6(a:bp) b:a.t=nth a.x.r.bl a.x.od[a.i]:=by
 grind [wb]
theorem bp.Ut(a:bp)(b:a.i<a.x.od.length):a.out=bif toInt (af a.t 0)==1 then a.all
  else bif toInt (af a.t 0)==2 then(bif (M0 a).isEmpty then uK a a.e else[])
  else bif toInt (af a.t 0)==3||(toInt (af a.t 0)==4||(toInt (af a.t 0)==5||toInt (af a.t 0)==6)) then
   (bif toInt (af a.t 0)==3&&eO a.e (eI (af a.t 2)) then uK a (a.e.put (eI (af a.t 2)).s (bK a.e (eI (af a.t 3)).tm))
    else bif toInt (af a.t 0)==3&&eO a.e (eI (af a.t 3)) then uK a (a.e.put (eI (af a.t 3)).s (bK a.e (eI (af a.t 2)).tm))
    else bif hG (toInt (af a.t 0)) (bK a.e (eI (af a.t 2)).tm) (bK a.e (eI (af a.t 3)).tm) then uK a a.e else[])
  else
   (bif !n9 (toInt (af a.t 0)) (iA ((M0 a).map (mD (toInt (af a.t 0)) (eI (af a.t 3))))) then[]
    else bif eO a.e (eI (af a.t 2)) then uK a (a.e.put (eI (af a.t 2)).s ⟨false,nJ (toInt (af a.t 0)) (iA ((M0 a).map (mD (toInt (af a.t 0)) (eI (af a.t 3))))),ByteArray.mk #[]⟩)
    else bif (bK a.e (eI (af a.t 2)).tm).n==nJ (toInt (af a.t 0)) (iA ((M0 a).map (mD (toInt (af a.t 0)) (eI (af a.t 3))))) then uK a a.e else[]):=by
 have c:=a.Z6 b;unfold bp.out bp.all M0 uK bp.l bp.rel
 grind [List.drop_eq_getElem_cons,pQ]
theorem cGe κ r:bg (Zh κ r) 12 98 (Uf r):=by
 refine aU ?_;rintro a K ⟨p,hr⟩ z
 replace z:ak a.out.isEmpty (K (.aJ []) (dt a.x a.L)) (K (.aJ []) (nR a.x (a.L++a.out))):=z
 refine Eq.mpr (yGo κ r a K) ?_;have hn:=p.x.n;have w:=p.n;have hle:=p.i;refine ad.2 ⟨fun e0=>?_,fun e0=>?_⟩
 ·have e0:(a.i:Int)=a.x.od.length:=by simpa using e0
  have c:a.out=[jl a.x.r.hl a.e]:=by
   unfold bp.out;rw[ao7 (by omega)];rfl
  refine⟨rfl,⟨a.x,a.L,a.e,0⟩,rfl,⟨Nat.zero_le _,p.x.h,p.x.hv⟩,ai.2 ⟨?_,?_⟩⟩
  ·rw[c] at w
   simp only[List.length_singleton] at w;rw[an9];simp only;omega
  ·rw[c] at z
   have hx:List.take a.L.length (rws a.L)++[AV.ah 72 (List.take (jl a.x.r.hl a.e).length (List.drop 0 (jl a.x.r.hl a.e)))]=rws (a.L++[jl a.x.r.hl a.e]):=by
    rw[ao9,List.take_length,←vr,←dZ a.L,List.take_length]
   show K (.aJ []) [_,_,_,_, .row 70 (List.take a.L.length (rws a.L)++[AV.ah 72 (List.take (jl a.x.r.hl a.e).length (List.drop 0 (jl a.x.r.hl a.e)))])]
   rw[hx];have hl:(a.L++[jl a.x.r.hl a.e]).length=a.L.length+1:=by simp
   rw[←hl];exact z
 ·have e0: ¬ (a.i:Int)=a.x.od.length:=by simpa using e0
  have O:a.i<a.x.od.length:=by omega
  have hw:=az (n:=(a.i:Int)+1) (by omega) (by omega);have hm:a.x.od[a.i]∈a.x.od:=List.getElem_mem _;have c:=a.Ut O;have hk:toInt a.k=(a.x.od[a.i]:Int):=by
   have h:=wb a.x.od a.i O;simp only[bp.k,bp.j,Nat.zero_add,Int.toNat_natCast,h]
  have F:YP a.x a.t:=by rw[a.Z6 O];exact p.x.t _ hm
  have g:=p.x.o _ hm;have f: ∀H,a.out=uK a H->∃m,m<r/\∃b:bp,([AV.ptr 0 0 [] 0,AV.int (IntKind.wrap .i64 ((a.i:Int)+1)),cL H],dt a.x a.L)=fX b/\(cz b/\b.x.od.length - b.i=m)/\ak b.out.isEmpty (K (AV.aJ []) (dt b.x b.L)) (K (AV.aJ []) (nR b.x (b.L++b.out))):=fun H Z=>by
   refine⟨a.x.od.length - (a.i+1),by omega,⟨a.x,a.L,a.i+1,H⟩,by rw[hw];rfl,⟨⟨p.x,O,?_⟩,rfl⟩,?_⟩
   ·show a.L.length+(uK a H).length<=100000000
    rw[←Z];exact w
   ·show ak (uK a H).isEmpty (K (AV.aJ []) (dt a.x a.L)) (K (AV.aJ []) (nR a.x (a.L++uK a H)))
    rw[←Z];exact z
  have none:a.out=[]->K (.aJ []) (dt a.x a.L):=fun h=>by rw[h] at z;exact z
  refine ai.2 ⟨by simp;omega,ai.2 ⟨by rw[hk];simp;omega,?_⟩⟩;refine ad.2 ⟨fun y=>?p1,fun y=>ad.2 ⟨fun B=>?p2,fun B=>?_⟩⟩
  case p1=>
   have C:iq (toInt (af a.t 0))=true:=by unfold iq;rw[y];rfl
   rw[y,ao6] at c;have D:=F.at0 C;refine⟨⟨⟨a.x,a.L,a.rel,a.l⟩,rfl,⟨p.x.d,D.1,D.2⟩⟩,⟨rfl,rfl,rfl,rfl,rfl,trivial⟩,a,by kernel_rfl,⟨p.x,O,hr,F.at1 C,by rw[c] at w;exact w⟩,?_⟩;rw[c] at z;exact z
  case p2=>
   have C:iq (toInt (af a.t 0))=true:=by unfold iq;rw[y,B];rfl
   rw[y,B,ao4,ao6] at c;have D:=F.at0 C;exact⟨⟨⟨a.x,a.L,a.rel,a.l⟩,rfl,⟨p.x.d,D.1,D.2⟩⟩,⟨rfl,rfl,rfl,rfl,rfl,trivial⟩,a,by kernel_rfl,F.at1 C,ad.2 ⟨fun U=>f _ (by rw[c,U];rfl),fun U=>none (by rw[c,U];rfl)⟩⟩
  have P:=F.u y B;have N:=F.v y B;refine ad.2 ⟨fun V=>?p3,fun V=>ad.2 ⟨fun W=>?p4,fun W=>ad.2 ⟨fun Q=>?p5,fun Q=>ad.2 ⟨fun R=>?p6,fun R=>?p7⟩⟩⟩⟩
  case p7=>
   rw[y,B,V,W,Q,R] at c;simp only[ao4,Bool.or_false] at c;have C:iq (toInt (af a.t 0))=true:=by unfold iq;rw[y,B,V,W,Q,R];rfl
   have D:=F.at0 C;refine⟨⟨a.x,a.L,toInt (af a.t 0),a.rel,a.l,eI (af a.t 2),eI (af a.t 3),a.e⟩,rfl,⟨p.x.d,D.1,D.2,⟨F.at1 C,N⟩⟩,?_⟩;refine ad.2 ⟨fun g=>none ?_,fun g=>⟨⟨a.e,eI (af a.t 2)⟩,rfl,trivial,ad.2 ⟨fun A=>⟨⟨a.e,(eI (af a.t 2)).s,⟨false,_,ByteArray.mk #[]⟩⟩,rfl,trivial,f _ ?_⟩,fun A=>⟨⟨a.e,eI (af a.t 2)⟩,rfl,P,ad.2 ⟨fun I=>f _ ?_,fun I=>none ?_⟩⟩⟩⟩⟩
   ·have g:(!n9 (toInt (af a.t 0)) (iA ((M0 a).map (mD (toInt (af a.t 0)) (eI (af a.t 3))))))=true:=g
    rw[c,g];rfl
   ·have g:(!n9 (toInt (af a.t 0)) (iA ((M0 a).map (mD (toInt (af a.t 0)) (eI (af a.t 3))))))=false:=g
    rw[c,g,A];rfl
   ·have g:(!n9 (toInt (af a.t 0)) (iA ((M0 a).map (mD (toInt (af a.t 0)) (eI (af a.t 3))))))=false:=g
    have I:((bK a.e (eI (af a.t 2)).tm).n==nJ (toInt (af a.t 0)) (iA ((M0 a).map (mD (toInt (af a.t 0)) (eI (af a.t 3))))))=true:=I;rw[c,g,A,I];rfl
   ·have g:(!n9 (toInt (af a.t 0)) (iA ((M0 a).map (mD (toInt (af a.t 0)) (eI (af a.t 3))))))=false:=g
    have I:((bK a.e (eI (af a.t 2)).tm).n==nJ (toInt (af a.t 0)) (iA ((M0 a).map (mD (toInt (af a.t 0)) (eI (af a.t 3))))))=false:=I;rw[c,g,A,I];rfl
  all_goals
   have X:(toInt (af a.t 0)==3||(toInt (af a.t 0)==4||(toInt (af a.t 0)==5||toInt (af a.t 0)==6)))=true:=by simp_all
   have h7:toInt (af a.t 0)≠7:=by intro h;rw[h] at X;cases X
   rw[y,B,X,ao4,ao4,ao6] at c;have N:=N h7;have E:(a.out=bif hG (toInt (af a.t 0)) (bK a.e (eI (af a.t 2)).tm) (bK a.e (eI (af a.t 3)).tm) then uK a a.e else[])->ak (hG (toInt (af a.t 0)) (bK a.e (eI (af a.t 2)).tm) (bK a.e (eI (af a.t 3)).tm)) (∃m,m<r/\∃b:bp,([AV.ptr 0 0 [] 0,AV.int (IntKind.wrap .i64 ((a.i:Int)+1)),cL a.e],dt a.x a.L)=fX b/\(cz b/\b.x.od.length - b.i=m)/\ak b.out.isEmpty (K (AV.aJ []) (dt b.x b.L)) (K (AV.aJ []) (nR b.x (b.L++b.out)))) (K (.aJ []) (dt a.x a.L)):=
    fun h=>ad.2 ⟨fun q=>f _ (by rw[h,q];rfl),fun q=>none (by rw[h,q];rfl)⟩
   refine ad.2 ⟨fun J=>⟨⟨a.e,eI (af a.t 2)⟩,rfl,trivial,ad.2 ⟨fun A=>⟨⟨a.e,eI (af a.t 3)⟩,rfl,N,⟨a.e,(eI (af a.t 2)).s,bK a.e (eI (af a.t 3)).tm⟩,rfl,trivial,f _ (by rw[c,J,A];rfl)⟩,
    fun A=>ad.2 ⟨fun _=>⟨⟨a.e,eI (af a.t 3)⟩,rfl,trivial,ad.2 ⟨fun Y=>⟨⟨a.e,eI (af a.t 2)⟩,rfl,P,⟨a.e,(eI (af a.t 3)).s,bK a.e (eI (af a.t 2)).tm⟩,rfl,trivial,f _ (by rw[c,J,A,Y];rfl)⟩,
     fun Y=>⟨⟨a.e,eI (af a.t 2)⟩,rfl,P,⟨a.e,eI (af a.t 3)⟩,rfl,N,⟨toInt (af a.t 0),bK a.e (eI (af a.t 2)).tm,bK a.e (eI (af a.t 3)).tm⟩,rfl,trivial,E (by rw[c,J,A,Y];rfl)⟩⟩⟩,fun T=>absurd (J.symm.trans T) (by simp)⟩⟩⟩,
    fun J=>ad.2 ⟨fun T=>absurd (T.symm.trans J) (by simp),fun _=>⟨⟨a.e,eI (af a.t 2)⟩,rfl,P,⟨a.e,eI (af a.t 3)⟩,rfl,N,⟨toInt (af a.t 0),bK a.e (eI (af a.t 2)).tm,bK a.e (eI (af a.t 3)).tm⟩,rfl,trivial,E (by rw[c,J];rfl)⟩⟩⟩
theorem qGe κ: ∀b st K,aO fX cz S0 b st K->bZ (Pr κ) 98 b st K:=by
 rintro b st K ⟨a,d,e,c⟩;exact aE.pK _ _ (eGm _) (cGe _) _ _ _ K ⟨a,d,⟨e,rfl⟩,c⟩
noncomputable def BGe κ:=(CS κ).Xa aH (qGe _)
end Go.Proofs.YtioeffnadipbaaaGreatDoor
namespace Go.Proofs.YtioeffnadipbaaaGreatDoor
open Go Go.Dn Go.Rl Go.Proofs
def KX(v:eV):=bif v.y then v.n=0 else v.s=ByteArray.mk #[]
theorem VS{v}(h:KX v):Qv (e6 v):=⟨rfl,h⟩
def uP(e:dI):=∀x,x∈e->KX x.2
theorem IT: ∀{e s},uP e->KX (e.get s)
 |[],_,_=>rfl
 |(t,w)::e,s,h=>by
  rw[dI.get];cases decide (s=t) with
  |true=>exact h (t,w) (by simp)
  |false=>exact IT fun x a=>h x (by grind)
theorem vo: ∀{e s v},uP e->KX v->uP (e.put s v)
 |[],s,v,_,b,x,a=>by
  grind [dI.put]
 | (t,w)::e,s,v,h,b,x,a=>by
  rw[dI.put] at a;cases c:decide (s=t) with
  |true=>
   rw[c] at a;rcases List.mem_cons.1 a with rfl|a
   ·exact b
   ·exact h x (by grind)
  |false=>
   rw[c] at a;rcases List.mem_cons.1 a with rfl|a
   ·exact h _ (by simp)
   ·exact vo (fun y d=>h y (by simp[d])) b x a
theorem HY{e}(h:uP e): ∀t,KX (bK e t)
 | .mk a s n l=>by
  rw[bK];cases a==1 with
  |true=>exact IT h
  | false=>cases a==2 with
   |true=>rfl
   | false=>cases a==3 with
    |true=>rfl
    |false=>
     unfold YA;split<;>rfl
theorem Q0{a}(h:uy a) j:KX (EA (nth a j)):=by
 rcases Nat.lt_or_ge j _ with b|b
 ·rw[aV _ j b]
  exact(h _ (by simp)).2
 ·rw[fS _ j b];rfl
theorem r8{a}(c:uy a): ∀{l j g d},uP g->nQ a l j g=some d->uP d
 |[],_,g,d,b,h=>by
  grind [nQ]
 | t::k,j,g,d,b,h=>by
  rw[nQ] at h;cases i:toInt (af t 0)==4 with
  |true=>rw[i] at h;exact r8 c b h
  | false=>
   rw[i] at h;cases f:eO g (eI t) with
   |true=>rw[f] at h;exact r8 c (vo b (Q0 c j)) h
   |false=>
    rw[f] at h;cases e: !Fv _ _ with
    |true=>rw[e] at h;cases h
    |false=>rw[e] at h;exact r8 c b h
theorem PM{l a e g}(c: ∀r,r∈a->uy (ag r))(d:uP e)(h:g∈mX l a e):uP g:=by
 obtain⟨r,f,b⟩:=List.mem_filterMap.1 h
 grind [r8]
def NxE(x:va) k e a:=
 a∈mX (ag (af (af (nth x.r.bl k) 1) 1)) (x.at (toStr (af (af (nth x.r.bl k) 1) 0))) e\/a=e\/(∃s t,a=e.put s (bK e t))\/ ∃s n,a=e.put s ⟨false,n,ByteArray.mk #[]⟩
theorem Eu x k a e:
  toInt (af (nth x.r.bl k) 0)=1/\pQ x (k::a) e=(mX (ag (af (af (nth x.r.bl k) 1) 1)) (x.at (toStr (af (af (nth x.r.bl k) 1) 0))) e).flatMap (pQ x a)\/pQ x (k::a) e=[]\/ ∃b,NxE x k e b/\pQ x (k::a) e=pQ x a b:=by
 grind [NxE,pQ]
def Vo(x:va):=∀a r,r∈x.at a->uy (ag r)
theorem Vi{x}(c:Vo x){k e b}(a:uP e)(h:NxE x k e b):uP b:=by
 rcases h with h|rfl|⟨s,t,rfl⟩|⟨s,n,rfl⟩
 ·exact PM (c _) a h
 ·grind
 ·grind [vo,HY]
 ·exact vo a rfl
theorem IY{x k c e r}(h:r∈pQ x (k::c) e): ∃a,NxE x k e a/\r∈pQ x c a:=by
 rcases Eu x k _ e with⟨_,b⟩|b|⟨a,b,d⟩
 ·rw[b] at h
  obtain⟨g,d,f⟩:=List.mem_flatMap.1 h;exact⟨g, .inl d,f⟩
 ·grind
 grind
theorem so{x}(b:Vo x): ∀c {e},uP e->iE (pQ x c e)
 |[],e,d,r,a=>by
  rw[pQ,List.mem_singleton] at a;subst a;intro v g;obtain⟨t,_,rfl⟩:=List.mem_map.1 g
  grind [VS,HY]
 |k::c,e,d,r,a=>by
  obtain⟨i,h,f⟩:=IY a;exact so b _ (Vi b d h) r f
theorem A2{x}: ∀b {e r},r∈pQ x b e->r.length=x.r.hl.length
 |[],e,r,a=>by
  rw[pQ,List.mem_singleton] at a;subst a;exact List.length_map _
 |k::b,e,r,a=>by
  obtain⟨d,_,c⟩:=IY a;exact A2 _ c
def Bc(x:va)(a:List _):=(a.filter fun k=>toInt (af (nth x.r.bl k) 0)==1).length
theorem CR{α β:Type}{f:α->List β}{m}: ∀{l:List _},(∀a,a∈l->(f a).length<=m)->(l.flatMap f).length<=l.length*m
 |[],_=>by simp
 |a::l,h=>by
  have d:=h a (by simp);have e:=CR (l:=l) fun b c=>h b (by grind)
  rw[List.flatMap_cons,ap4,List.length_cons,Nat.succ_mul];omega
theorem B5{x N}(h: ∀f,(x.at f).length<=N)(d:1<=N): ∀a e,(pQ x a e).length<=N ^ Bc x a
 |[],e=>by rw[pQ];exact Nat.le_refl _
 | k::a,e=>by
  have c:Bc x a<=Bc x (k::a):=by
   unfold Bc;rw[List.filter_cons];split<;>simp
  have i:=Nat.pow_le_pow_right d c;rcases Eu x k a e with⟨b,l⟩|b|⟨m,_,b⟩
  ·rw[l]
   have j:=Nat.le_trans (wU (ag (af (af (nth x.r.bl k) 1) 1)) (x.at (toStr (af (af (nth x.r.bl k) 1) 0))) e) (h _);have c:Bc x (k::a)=Bc x a+1:=by
    unfold Bc
    grind
   rw[c,Nat.pow_succ,Nat.mul_comm];exact Nat.le_trans (CR fun g _=>B5 h d a g) (Nat.mul_le_mul_right _ j)
  ·rw[b];exact Nat.zero_le _
  ·rw[b];exact Nat.le_trans (B5 h d a m) i
end Go.Proofs.YtioeffnadipbaaaGreatDoor
namespace Go.Proofs.YtioeffnadipbaaaGreatDoor
open Go Go.Dn Go.Rl Go.Proofs
attribute [local irreducible] a9 vc
set_option maxRecDepth 20000
theorem Rg{E}(b:aE E){f:Nat}{a st K}(h:qA E f a st K):bZ E.P f a st K:=by
 refine⟨?_,fun C i e g c d=>by grind [nV]⟩;obtain⟨_,h⟩:=ai.1 h;simp[kx] at h;exact(b.call _ _ _ _ h).1
def EB.place(b:EB)(f:Nat)(l:List (Nat×Nat×TypeId)):EB:=
 ⟨b.E.aw f fun c s K=>qA _ f _ _ K,b.ok.fT fun _ _ _ a=>N7 (LF l (Rg b.ok a)),b.mono.aw fun _ _ _ _ d a=>xq b.mono d a⟩
noncomputable def BGp κ:=EB.owns (EB.place (BGe κ) 98 [(0,4,70)]) [50,46]
theorem yGv κ ds rs ins r K:(a9 (BGp κ).E 12 50 [eg ds rs,au r, .an 0 0 ins.length] [.row 51 ins] K)=(
 letI b:=Obj.row
 ∃(a:dk),([au r],[])=ZN a/\OkR a/\∃(a_1:bp),([AV.ptr 0 0 [] 0,AV.int 0,AV.eQ 9 72 [] []],[Obj.box 160 (AV.agg [eg ds rs,au r,AV.an 1
 0 (List.length (cO (aM a))),AV.an 2 0 ins.length,AV.an 3 0 0]),b 3 (ints (cO (aM a))),b 51 ins,b 70 []])=fX a_1/\cz
 a_1/\ak (List.isEmpty (bp.out a_1)) (∃(a:RL),([AV.ah 70 (List.take a_1.L.length (List.drop 0 (rws a_1.L)))],[])=Q9 a/\wA a/\K (AV.ah 70 (rws
 (eM a))) [b 51 a_1.x.ins]) (∃(a:RL),([AV.ah 70 (List.take (List.length (a_1.L++bp.out a_1)) (List.drop 0 (rws (a_1.L++bp.out a_1))))],[])=
 Q9 a/\wA a/\K (AV.ah 70 (rws (eM a))) [b 51 a_1.x.ins])):=by kernel_rfl
end Go.Proofs.YtioeffnadipbaaaGreatDoor
namespace Go.Proofs.YtioeffnadipbaaaGreatDoor
open Go Go.Dn Go.Rl Go.Proofs
theorem vd{ds a}(c:lk ds a)(h:(kt ds a).2=0){r}(b:r∈a):OkR (dg r):=by
 have d:=(qE.1 h).2.2.2 r b;refine⟨c.2.2 r b,?_,?_⟩
 ·grind [dg,ld,EE]
 grind [ld,EE]
theorem G2{a s n l}(h:a=1\/a=2\/a=3):bL (.mk a s n l)=true:=by
 have c: ∀b,(a==1||(a==2||(a==3||b)))=true:=fun b=>by grind
 match l with
 |[]=>grind [bL]
 |[_]=>grind [bL]
 |[_,_]=>exact c _
 |_::_::_::_=>grind [bL]
theorem kU: ∀h t,ar h t=true->t.op≠4->bL t=true
 |0,t,c,_=>by simp[ar] at c
 | h+1, .mk f s n l,c,i=>by
  rw[tH] at c;by_cases j:f=0
  ·grind
  rw[ao3 j,ao4] at c;cases d:mA f with
  | true=>
   rw[d,ao6] at c;simp only[ao0,an9,l4,List.all_eq_true,Bool.not_eq_true',Bool.or_eq_false_iff,ao1] at c;obtain⟨⟨_,k⟩,e⟩:=c;match l,k,e with
   |[a,b],_,e=>
    have g:=e a (by simp);have d:=e b (by simp);simp only[bL,kU h a g.2 g.1.2,kU h b d.2 d.1.2,Bool.and_true,Bool.or_true]
  |false=>
   rw[d,ao4,ao0] at c;have m:=c.1;have i:f≠4:=i
   grind [bare,G2,decide_eq_false]
theorem nc{a}(h:bm a=true):a.l.length<=8/\∀t,t∈a.l->t.op≠4->bL t=true:=by
 grind [bm,kU]
theorem HU{t}(h:VT t=true):bL t=true:=by
 obtain⟨a,s,n,l⟩:=t;simp[VT] at h;exact G2 (h.imp id .inl)
theorem Qg{t}(h:t.op=1):bL t=true:=by
 obtain⟨a,s,n,l⟩:=t;exact G2 (.inl h)
structure Yz(l:Lt):Prop where
 a:iq l.op=true->bm l.a=true
 x:(l.op==1)=false->(l.op==2)=false->bL l.x=true
 y:(l.op==1)=false->(l.op==2)=false->l.op≠7->bL l.y=true
theorem Vg{l}(h:jq l=true):Yz l:=by
 unfold jq at h;by_cases b:(decide (l.op=1)||decide (l.op=2))=true
 ·rw[b,ao6,ao0] at h
  refine⟨fun _=>h.1,fun e d=>?_,fun e d=>?_⟩
  all_goals
   simp only[ap2,an9] at b;rcases b with c|c<;>simp[c] at e d
 ·have b:(decide (l.op=1)||decide (l.op=2))=false:=by simpa using b
  rw[b,ao4] at h;by_cases a:(decide (l.op=3)||decide (l.op=4)||decide (l.op=5)||decide (l.op=6))=true
  ·rw[a,ao6] at h
   simp only[ao0,Bool.not_eq_true',ao1] at h;refine⟨fun g=>?_,fun _ _=>kU 20 _ h.1.2 h.1.1.1.2,fun _ _ _=>kU 20 _ h.2 h.1.1.2⟩;simp only[ap2,an9] at a;rcases a with((c|c)|c)|c<;>simp[iq,c] at g
  ·have a:(decide (l.op=3)||decide (l.op=4)||decide (l.op=5)||decide (l.op=6))=false:=by simpa using a
   rw[a,ao4] at h;by_cases c7:l.op=7
   ·rw[ao5 c7,ao6] at h
    simp only[ao0] at h;exact⟨fun _=>h.1.1,fun _ _=>HU h.1.2.1,fun _ _ f=>absurd c7 f⟩
   ·rw[ao3 c7,ao4] at h
    cases c8:(decide (l.op=8)||decide (l.op=9)||decide (l.op=10)) with
    |true=>
     rw[c8,ao6] at h;simp only[ao0,an9] at h;exact⟨fun _=>h.1.1.1,fun _ _=>HU h.1.1.2.1,fun _ _ _=>Qg h.1.1.2.2⟩
    |false=>rw[c8] at h;cases h
abbrev a8(a:List RL):List AV:=a.map fun L=> .ah 70 (rws L)
def FN ds i:=(ag (af (nth ds i) 2)).length
structure dC(ds:List AV)(all:List RL):Prop where
 len:all.length=ds.length
 v: ∀L,L∈all->iE L
 r: ∀L,L∈all->dN L=true
 w: ∀i r,r∈all.getD i []->r.length=FN ds i
theorem rr a i:ag (nth (a8 a) i)=rws (a.getD i []):=by
 grind [aV,ag,fS]
def E4(ds b:List AV)(r:dk)(a:List RL):va:=⟨ds,b,r,cO (aM r),a8 a⟩
theorem tv ds c r a b:(E4 ds c r a).at b=rws (a.getD (bw b ds).toNat []):=rr _ _
theorem uS{ds f r a}(h: ∀L,L∈a->iE L):Vo (E4 ds f r a):=by
 intro b x c;rw[tv] at c;obtain⟨L,e,rfl⟩:=List.mem_map.1 c;rcases Nat.lt_or_ge (bw b ds).toNat a.length with d|d
 ·refine h _ ?_ L e
  grind
 grind
theorem Nb{ds a}(h:known (cP ds) a=0):a.l.length=FN ds (bw a.rel ds).toNat:=by
 unfold known at h;cases e:lb a.rel (cP ds) with
 |none=>grind
 |some k=>
  obtain⟨_,b,d⟩:=o7 e;rw[ye e] at h;by_cases c:(l6 ds k).length=a.l.length
  ·rw[←c,b,l6,List.length_map];rfl
  grind
theorem Dw{a}(h:iq a=true):Rl.dx ⟨a,⟨ByteArray.empty,[]⟩, .mk 0 ByteArray.empty 0 [], .mk 0 ByteArray.empty 0 []⟩=true:=by
 grind [Rl.dx,iq]
theorem HH{ds c}(h:(kt ds c).2=0){r}(i:r∈c):known (cP ds) (aM (dg r)).head=0/\∀l,l∈(aM (dg r)).body->iq l.op=true->known (cP ds) l.a=0:=by
 obtain⟨g,_,j,_⟩:=qE.1 h;have b:jm (cP ds) (aM (dg r))=0:=by
  grind [TV,kl]
 unfold jm at b;cases e:decide (known (cP ds) (aM (dg r)).head=0) with
 |false=>grind
 |true=>
  rw[e] at b;exact⟨by simpa using e,fun l f d=>qU b l f (Dw d)⟩
theorem Mn{r k}(h:k<r.bl.length):cZ (nth r.bl k)∈(aM r).body:=List.mem_map_of_mem (by grind [aV])
theorem Pj{ds m}(I:lk ds m)(n:(kt ds m).2=0){r}(q:r∈m){b}(u:dC ds b)(P: ∀L,L∈b->L.length<=100000000):RA (E4 ds m (dg r) b):=by
 have d:=vd I n q;have F:=rD n q;have O:=HH n q;have H:=d.r;simp only[ba,ao0,an9,List.all_eq_true] at H;obtain⟨⟨⟨C,T⟩,K⟩,p⟩:=H;have hl:=tn d.f;have U:(aM (dg r)).body.length=(dg r).bl.length:=fY _;have i: ∀k,k∈cO (aM (dg r))->k<(dg r).bl.length:=fun k d=>by have:=rI d;omega
 refine⟨I.1,?_,i,?_,fun t s=>?_,fun k d=>?_⟩
 ·show(cO (aM (dg r))).length<=100000
  omega
 ·have:=(nc C).1
  have e:(aM (dg r)).head.l.length=(dg r).hl.length:=eE _;show(dg r).hl.length<=100000
  omega
 ·have j:cH t∈(aM (dg r)).head.l:=List.mem_map_of_mem s
  rw[iC];have D:=K _ j;simp only[sF,ao0,Bool.not_eq_true',ao1] at D;exact(nc C).2 _ j D.1.1
 ·have d:=i k d
  have j:=Mn d;have o:=Vg (p _ j);have h:nth (dg r).bl k∈ag (af r 1):=by rw[aV _ k d];exact List.getElem_mem _
  have E:iq (toInt (af (nth (dg r).bl k) 0))=true->dx (toInt (af (nth (dg r).bl k) 0))=true:=fun g=>by
   have:=Dw g
   simp only[Rl.dx,ap2,an9] at this;unfold dx;by_cases c:toInt (af (nth (dg r).bl k) 0)<3
   ·rw[ao5 c];rfl
   ·rw[ao3 c,ao4,an9];omega
  refine⟨fun g=>?_,fun g=>?_,fun z v=>by rw[iC];exact o.x z v,fun z v e7=>by rw[iC];exact o.y z v e7⟩
  ·have:=F.2 _ h (E g)
   refine⟨this.1,?_⟩;show _<((a8 b).length:Int)
   rw[List.length_map,u.len];exact this.2
  ·have A:=nc (o.a g)
   have B:=Nb (O.2 _ j g);have R:(cZ (nth (dg r).bl k)).a.l.length=(ag (af (af (nth (dg r).bl k) 1) 1)).length:=eE _;rw[tv];show Dv (ag (af (af (nth (dg r).bl k) 1) 1)) (rws (b.getD (bw (toStr (af (af (nth (dg r).bl k) 1) 0)) ds).toNat []))
   have J:=F.2 _ h (E g);have Q:(bw (toStr (af (af (nth (dg r).bl k) 1) 0)) ds).toNat<b.length:=by have:=u.len;omega
   refine⟨?_,by omega,fun t s p=>?_,fun x J=>?_⟩
   ·rw[dZ]
    refine P _ ?_;simp[List.getD_eq_getElem?_getD,Q]
   ·rw[iC]
    have e:=dc t;refine A.2 _ (List.mem_map_of_mem s) ?_;rw[e];exact p
   ·obtain⟨L,N,rfl⟩:=List.mem_map.1 J
    rw[←R,B];exact u.w _ L N
theorem sn A B:A.length<=(ew A B).length:=by
 match A,B with
 |[],B=>simp
 |a::c,[]=>
  have:=sn c []
  grind [Bz]
 |a::c,b::d=>
  have f:=sn c (b::d);have g:=sn c d;have e:=sn (a::c) d
  grind [AN]
termination_by A.length+B.length
def cw(a:List RL):=(a.map List.length).sum
theorem IE: ∀a i N,i<a.length->cw (a.set i N)+(a.getD i []).length=cw a+N.length
 |[],_,_,h=>absurd h (by simp)
 |L::a,0,N,_=>by grind [cw]
 |L::a,i+1,N,h=>by
  have:=IE a i N (by grind)
  simp[cw,List.sum_cons,List.getD_cons_succ] at this⊢;omega
theorem sk{L}: ∀{a},L∈a->L.length<=cw a
 |M::a,h=>by
  simp[cw];rcases List.mem_cons.1 h with rfl|h
  ·simp
  ·have:=sk h;grind [cw]
section
variable (ds rs:List AV)
def dG r a:=eM (pQ (E4 ds rs r a) (cO (aM r)) [])
def atR r:=(bw (dg r).rel ds).toNat
def iP r(a:List _):=a.set (atR ds r) (ew (a.getD (atR ds r) []) (dG ds rs (dg r) a))
def cu(g:List Int)(aQ:Nat):List AV->List RL->Bool->List RL×Bool
 |[],a,b=>(a,b)
 |r::xs,a,b=>bif decide (aQ<cw a) then(a,false)
  else bif !g.contains (bw (dg r).rel ds) then cu g aQ xs a b
  else cu g aQ xs (iP ds rs r a) (b||decide ((a.getD (atR ds r) []).length<(ew (a.getD (atR ds r) []) (dG ds rs (dg r) a)).length))
def ej(g:List Int)(aQ:Nat):Nat->List RL->List RL
 |0,a=>a
 |n+1,a=>bif (cu ds rs g aQ rs a false).2 then ej g aQ n (cu ds rs g aQ rs a false).1 else(cu ds rs g aQ rs a false).1
def fE aQ(b:List _) a:=b.foldl (fun a g=>ej ds rs g aQ 99 a) a
end
structure gN(ds rs:List AV):Prop where
 s:lk ds rs
 c:(kt ds rs).2=0
variable {ds rs:List AV}
theorem gN.at(h:gN ds rs){r}(a:r∈rs):(0<=bw (dg r).rel ds/\bw (dg r).rel ds<ds.length)/\atR ds r<ds.length:=by
 have:=(rD h.c a).1
 grind [dg,atR]
theorem I8:uP []:=fun _ hx=>nomatch hx
theorem uV(h:gN ds rs){r}(b:r∈rs){a}(j:dC ds a):iE (dG ds rs (dg r) a)/\dN (dG ds rs (dg r) a)=true/\∀x,x∈dG ds rs (dg r) a->x.length=FN ds (atR ds r):=by
 have d:iE (pQ (E4 ds rs (dg r) _) (cO (aM (dg r))) _):=so (uS j.v) _ I8;obtain⟨e,f,g⟩:=kW d;refine⟨g,e,fun x i=>?_⟩;rw[A2 _ ((f x).1 i)];have:=Nb (HH h.c b).1
 rw[show(aM _).head.l.length=(dg r).hl.length from eE _] at this;exact this
theorem mn{a:List RL}{i}(h:i<a.length):a.getD i []∈a:=by grind
theorem pJ(h:gN ds rs){r}(k:r∈rs){a}(c:dC ds a):dC ds (iP ds rs r a)/\cw a<=cw (iP ds rs r a)/\cw (iP ds rs r a)+(a.getD (atR ds r) []).length=cw a+(ew (a.getD (atR ds r) []) (dG ds rs (dg r) a)).length:=by
 obtain⟨g,n,l⟩:=uV h k c;have j:atR ds r<a.length:=by rw[c.len];exact(h.at k).2
 have f:=mn j;have m:=IE a (atR ds r) (ew (a.getD (atR ds r) []) (dG ds rs (dg r) a)) j;have o:=sn (a.getD (atR ds r) []) (dG ds rs (dg r) a);refine⟨⟨?_,?_,?_,?_⟩,?_,m⟩
 ·rw[iP,List.length_set];exact c.len
 ·intro L d
  rcases List.mem_or_eq_of_mem_set d with d|rfl
  ·exact c.v L d
  ·intro x b
   rcases(gy (c.v _ f) g).1 b with b|b
   ·exact c.v _ f x b
   ·exact g x b
 ·intro L d
  rcases List.mem_or_eq_of_mem_set d with d|rfl
  ·exact c.r L d
  ·exact ml (c.v _ f) g (c.r _ f) n
 ·intro i x b
  by_cases e:atR ds r=i
  ·subst e
   rw[iP,List.getD_eq_getElem?_getD,List.getElem?_set_self j] at b;rcases(gy (c.v _ f) g).1 b with b|b
   ·exact c.w _ x b
   ·exact l x b
  ·rw[iP,List.getD_eq_getElem?_getD,List.getElem?_set_ne e,←List.getD_eq_getElem?_getD] at b
   exact c.w i x b
 ·unfold iP;omega
theorem lL(h:gN ds rs) g aQ: ∀xs a m,(∀r,r∈xs->r∈rs)->dC ds a->
  dC ds (cu ds rs g aQ xs a m).1/\cw a<=cw (cu ds rs g aQ xs a m).1/\((cu ds rs g aQ xs a m).2=true->m=true\/cw a<cw (cu ds rs g aQ xs a m).1)/\
  (cw (cu ds rs g aQ xs a m).1<=aQ->cu ds rs g (aQ+1) xs a m=cu ds rs g aQ xs a m)
 |[],a,m,_,b=>⟨b,Nat.le_refl _,fun h=> .inl h,fun _=>rfl⟩
 | r::xs,a,m,d,b=>by
  rw[cu,cu];by_cases c:aQ<cw a
  ·grind
  ·rw[ao3 c,ao3 (show ¬ aQ+1<cw a by omega),ao4,ao4]
   cases f: !g.contains (bw (dg r).rel ds) with
   |true=>exact lL h g aQ xs a m (fun r e=>d r (by simp[e])) b
   |false=>
    obtain⟨s1,s2,i⟩:=pJ h (d r (by simp)) b;obtain⟨j,k,l,n⟩:=lL h g aQ xs (iP ds rs r a) (m||decide ((a.getD (atR ds r) []).length<(ew (a.getD (atR ds r) []) (dG ds rs (dg r) a)).length)) (fun r e=>d r (by simp[e])) s1
    grind
theorem q8(h:gN ds rs) g aQ: ∀n a,dC ds a->
  dC ds (ej ds rs g aQ n a)/\cw a<=cw (ej ds rs g aQ n a)/\(cw (ej ds rs g aQ n a)<=aQ->ej ds rs g (aQ+1) n a=ej ds rs g aQ n a)
 |0,a,b=>⟨b,Nat.le_refl _,fun _=>rfl⟩
 | n+1,a,b=>by
  obtain⟨c,e,f,i⟩:=lL h g aQ rs _ false (by simp) b;rw[ej,ej];cases j:(cu ds rs g _ rs a _).2 with
  |true=>
   obtain⟨k,l,d⟩:=q8 h g aQ n _ c
   grind
  |false=>
   grind
theorem Bi(h:gN ds rs) aQ: ∀b a,dC ds a->
  dC ds (fE ds rs aQ b a)/\cw a<=cw (fE ds rs aQ b a)/\(cw (fE ds rs aQ b a)<=aQ->fE ds rs (aQ+1) b a=fE ds rs aQ b a)
 |[],a,c=>⟨c,Nat.le_refl _,fun _=>rfl⟩
 |g::b,a,c=>by
  obtain⟨d,f,i⟩:=q8 h g aQ 99 _ c;obtain⟨j,k,e⟩:=Bi h aQ b _ d
  grind [fE]
end Go.Proofs.YtioeffnadipbaaaGreatDoor
namespace Go.Proofs.YtioeffnadipbaaaGreatDoor
open Go Go.Dn Go.Rl Go.Proofs
attribute [local irreducible] a9 vc
set_option maxRecDepth 20000
structure Lr where
 ds:List AV
 rs:List AV
 r:dk
 all:List RL
def Lr.V(a:Lr):=pQ (E4 a.ds a.rs a.r a.all) (cO (aM a.r)) []
def Jw(a:Lr):List AV×List Dn.Obj:=([eg a.ds a.rs,au a.r, .an 0 0 (a8 a.all).length],[.row 51 (a8 a.all)])
structure qK(a:Lr):Prop where
 o:OkR a.r
 x:RA (E4 a.ds a.rs a.r a.all)
 f:wA a.V
def TC(a:Lr):Out (AV×List Dn.Obj):= .one (.ah 70 (rws (dG a.ds a.rs a.r a.all)),[.row 51 (a8 a.all)])
theorem cGv κ:bg (BGp κ).E 12 50 (aO Jw qK TC):=by
 refine aU ?_;rintro⟨ds,c,r,a⟩ K d b;have g:=d.f
 replace b:K (.ah 70 (rws (eM (Lr.V ⟨ds,c,r,a⟩)))) [.row 51 (a8 a)]:=b
 refine Eq.mpr (yGv κ ds c (a8 a) r K) ⟨r,rfl,d.o,⟨E4 ds c r a,[],0,[]⟩,rfl,⟨d.x,Nat.zero_le _,?_⟩,ad.2 ⟨fun h=>⟨[],rfl,⟨Nat.zero_le _,fun r e=>(nomatch e),fun r e=>(nomatch e)⟩,?_⟩,fun h=>⟨_,?_,g,b⟩⟩⟩
 ·have:=g.n
  show 0+(Lr.V ⟨ds,c,r,a⟩).length<=100000000
  omega
 ·have h:(Lr.V ⟨ds,c,r,a⟩).isEmpty=true:=h
  rw[List.isEmpty_iff] at h;rw[h] at b;exact b
 ·rw[List.nil_append,ao9,←dZ,List.take_length];rfl
noncomputable def VE κ:=(BGp κ).call (cGv _)
def jy(xs:List _):=(xs.map fun x=>(ag x).length).sum
theorem DQ xs a:jy (xs++a)=jy xs+jy a:=by simp[jy]
theorem x4 a:jy (a8 a)=cw a:=by
 unfold jy cw a8;rw[List.map_map];congr 1
 exact List.map_congr_left fun L _=>dZ L
abbrev Ux xs(i:Nat):=sp 18 [(3, .int (jy (xs.take i))),(6, .ah 51 xs),(7, .int xs.length),(8, .int i)] []
theorem xTo κ xs i I N K:(vc (VE κ).E 12 47 none 0 (ae (Pr κ).toProgram 47 3) (Ux xs i) (bj (VE κ).E 47 3 0 I N K))=(
 letI a:=IntKind.wrap IntKind.i64
 letI b:=(↑i:Int)<(↑(xs.length):Int)
 ak (decide b) (aR (true&&decide b) (∃(e0:Nat),e0<N/\I e0 (sp 18 [(3,AV.int (a ((↑(jy (List.take i xs)):Int)+
 (↑(List.length (ag (nth xs (Int.toNat (↑i:Int))))):Int)))),(6,AV.ah 51 xs),(7,AV.int (↑(xs.length):Int)),(8,AV.int (a ((↑i:
 Int)+(1:Int))))] []))) (K (Exit.exit 0) (sp 18 [(3,AV.int (↑(jy (List.take i xs)):Int))] []))):=by kernel_rfl
abbrev ATo:=List AV×Nat
abbrev L8(x:ATo):S:=Ux x.1 x.2
def Md(x:ATo):=x.2<=x.1.length/\x.1.length<=100000/\jy x.1<=1000000000
def Zo(x:ATo):Out (Exit×S):= .one (.exit 0,sp 18 [(3, .int (jy x.1))] [])
theorem lTo κ:aX (VE κ).E 12 47 3 (aG 0 L8 Md Zo):=by
 refine aD (fun x=>x.1.length - x.2) ?_;rintro⟨xs,i⟩ K ⟨f,c,d⟩ b;simp only at f c d;rw[show(VE κ).E.P=Pr κ from rfl];refine Eq.mpr (xTo κ xs i _ _ K) ?_;simp only[Int.toNat_natCast];rw[ad,an9,ao1];refine⟨fun h=>?_,fun h=>?_⟩
 ·have a:i<xs.length:=by omega
  have j:jy (xs.take (i+1))=jy (xs.take i)+(ag (nth xs i)).length:=by
   rw[List.take_add_one,DQ,aV xs i a];simp[jy,a]
  have g:jy (xs.take (i+1))<=jy xs:=by
   have:=DQ (xs.take (i+1)) (xs.drop (i+1))
   rw[List.take_append_drop] at this;omega
  refine ai.2 ⟨by simp;omega,_,?_,⟨xs,i+1⟩,?_,⟨a,c,d⟩,rfl,b⟩
  ·simp only;omega
  ·simp only[L8,Ux]
   grind [az,jy,ag,nth]
 ·have e:xs.take i=xs:=List.take_of_length_le (by omega)
  simp only[e];exact b
noncomputable def U4 κ:=(VE κ).loop (lTo _)
theorem yTo κ xs K:(a9 (U4 κ).E 12 47 [.ah 51 xs] [] K)=(
 letI a:=Pg.toProgram (Env.P (EB.E (VE κ)))
 ae a 47 3=ae a 47 3/\∃(e0:ATo),sp 18 [(3,AV.int 0),(6,AV.ah 51 xs),(7,AV.int (↑(xs.length):Int)),(8,AV.int 0)] []=L8 e0/\Md e0/\K (AV.int
 (↑(jy e0.1):Int)) []):=by kernel_rfl
def gTo:List AV->Option (Bool×AV)
 |[.ah 51 xs]=>some (decide (xs.length<=100000)&&decide (jy xs<=1000000000), .int (jy xs))
 |_=>none
theorem pTo κ:cg (U4 κ).E 12 47 gTo:=by
 intro b x a;unfold gTo at a;split at a
 ·rename_i xs
  simp   at a;obtain⟨⟨d,c⟩,rfl⟩:=a;exact⟨_,rfl,rfl,Eq.mpr (yTo κ xs _) ⟨rfl,⟨xs,0⟩,rfl,⟨Nat.zero_le _,d,c⟩,rfl⟩⟩
 grind
noncomputable def UY κ:=EB.Kl ((U4 κ).pure (pTo _)) [47]
structure VX where
 A:List AV
 B:List AV
 xs:List AV
abbrev nS(A B:List AV):List Dn.Obj:=[.box 51 (.ah 70 A), .box 51 (.ah 70 B)]
abbrev Sa(x:VX):=sp 52 [(0, .cf 0),(1, .ptr 1 0 [] 0),(2, .ptr 2 0 [] 0)] (.ext (some x.xs)::nS x.A x.B)
theorem xBo(κ:Kp) x I N K:(vc (UY κ).E 12 82 none 3 (ae (Pr κ).toProgram 82 0) (Sa x) (bj (UY κ).E 82 0 3 I N K))=(
 letI a:=AV.ptr
 letI b:=AV.agg
 letI c:=AV.bool
 letI d:=Obj.ext
 letI e:=Exit.ret
 letI f:=AV.aJ
 letI g:=AV.cf
 letI j:=ag (nth x.A 0)
 letI h:=x.A.length
 letI m:=List.drop 1 (List.take (Int.toNat (↑h:Int)) x.A)
 letI s:=true&&decide ((1:Int)<=(↑h:Int))&&decide ((↑h:Int)<=(↑h:Int))
 letI r:=true&&decide ((0:Int)<(↑h:Int))
 letI i:=x.B.length
 letI n:=List.drop 1 (List.take (Int.toNat (↑i:Int)) x.B)
 letI u:=true&&decide ((1:Int)<=(↑i:Int))&&decide ((↑i:Int)<=(↑i:Int))
 letI t:=true&&decide ((0:Int)<(↑i:Int))
 letI k:=ag (nth x.B 0)
 letI l:=decide (bE j k<=(0:Int))
 letI o:=decide (bE j k>=(0:Int))
 letI p:=sp 52 [] (d none::nS m x.B)
 letI q:=sp 52 [] (d none::nS x.A n)
 letI v:=ak ((↑i:Int)==(0:Int)) (aR r (aR s (∃(e1:List AV),x.xs=f [AV.ah 72 j,b [c true,c false]]::e1/\(∃(e0:
  Nat),e0<N/\I e0 (sp 52 [(0,g 0),(1,a 1 0 [] 0),(2,a 2 0 [] 0)] (d (some e1)::nS m x.B)))/\K e p))) (ak ((↑h:Int)
  ==(0:Int)) (aR t (aR u (∃(e1:List AV),x.xs=f [AV.ah 72 k,b [c false,c true]]::e1/\(∃(e0:Nat),e0<N/\I e0 (sp 52
  [(0,g 0),(1,a 1 0 [] 0),(2,a 2 0 [] 0)] (d (some e1)::nS x.A n)))/\K e q))) (aR r (aR t (aR (decide (List.length j<=
  9223372036854775807)) (ak o (aR t (aR u (ak l (aR r (aR s (∃(e1:List AV),x.xs=f [AV.ah 72 j,b [c l,c o]]::e1/\(∃(e0:
  Nat),e0<N/\I e0 (sp 52 [(0,g 0),(1,a 1 0 [] 0),(2,a 2 0 [] 0)] (d (some e1)::nS m n)))/\K e (sp 52 [] (d none::
  nS m n))))) (∃(e1:List AV),x.xs=f [AV.ah 72 k,b [c l,c o]]::e1/\(∃(e0:Nat),e0<N/\I e0 (sp 52 [(0,g 0),(1,
  a 1 0 [] 0),(2,a 2 0 [] 0)] (d (some e1)::nS x.A n)))/\K e q)))) (ak l (aR r (aR s (∃(e1:List AV),x.xs=f [AV.ah 72
  j,b [c l,c o]]::e1/\(∃(e0:Nat),e0<N/\I e0 (sp 52 [(0,g 0),(1,a 1 0 [] 0),(2,a 2 0 [] 0)] (d (some e1)
  ::nS m x.B)))/\K e p))) (∃(e1:List AV),x.xs=f [AV.nil,b [c l,c o]]::e1/\(∃(e0:Nat),e0<N/\I e0 (sp 52 [(0,
  g 0),(1,a 1 0 [] 0),(2,a 2 0 [] 0)] (d (some e1)::nS x.A x.B)))/\K e (sp 52 [] (d none::nS x.A x.B)))))))))
 ak (decide ((↑h:Int)>(0:Int))) v (ak (decide ((↑i:Int)>(0:Int))) v (K (Exit.exit 0) (sp 52 [] (d (some x.xs)::nS x.A x.B))))):=by kernel_rfl
def Qe(l:List BI):List AV:=l.map fun x=> .aJ [.ah 72 x.1, .agg [.bool x.2.1, .bool x.2.2]]
def xC(x:VX):=x.xs=Qe (jW (dn x.A) (dn x.B))/\fC x.A=true/\fC x.B=true
def SJ(_:VX):Out (Exit×S):= .all (fun _:Bool×List _×List _=>True) fun y=> .ak y.1
 (.one (.exit 0,sp 52 [] (.ext (some [])::nS y.2.1 y.2.2)))
 (.one (.ret,sp 52 [] (.ext none::nS y.2.1 y.2.2)))
theorem LS p q:ak true p q=p:=rfl
theorem IU p q:ak false p q=q:=rfl
theorem OD(p:Prop):aR true p=p:=rfl
theorem px{a A}(h:fC (a::A)=true):fC A=true:=by
 grind [fC]
theorem Mw(a:AV) A:decide (((a::A).length:Int)>0)=true/\(((a::A).length:Int)==0)=false/\(true&&decide ((0:Int)<(a::A).length))=true/\(true&&decide (1<=((a::A).length:Int))&&decide ((a::A).length<=((a::A).length:Int)))=true:=by grind
theorem lBo κ:aX (UY κ).E 12 82 0 (aG 3 Sa xC SJ):=by
 refine aD (fun x=>x.A.length+x.B.length) ?_;rintro⟨A,B,xs⟩ K ⟨e,i,j⟩ l;simp only at e i j;rw[show(UY κ).E.P=Pr κ from rfl];refine Eq.mpr (xBo κ ⟨A,B,xs⟩ _ _ K) ?_;have d: ∀(h f:List AV) (v:AV),fC h=true->fC f=true->h.length+f.length<A.length+B.length->xs=v::Qe (jW (dn h) (dn f))->∃g,xs=v::g/\(∃m,m<A.length+B.length/\et Sa xC SJ (fun x=>x.A.length+x.B.length) K m (sp 52 [(0, .cf 0),(1, .ptr 1 0 [] 0),(2, .ptr 2 0 [] 0)] (.ext (some g)::nS h f)))/\K Exit.ret (sp 52 [] (.ext none::nS h f)):=
  fun h f v D y z C=>⟨_,C,⟨_,z,⟨h,f,_⟩,rfl,⟨rfl,D,y⟩,rfl,l⟩,l (false,h,f) trivial⟩
 simp only[Int.toNat_natCast,List.take_length];have e0:decide (((([]:List AV).length:Nat):Int)>0)=false:=rfl;have k:((((([]:List AV).length:Nat)):Int)==0)=true:=rfl;cases A with
 | nil=>
  cases B with
  |nil=>
   rw[show xs=[] from e];simp only[e0,k,IU];exact l (true,[],[]) trivial
  |cons b B=>
   obtain⟨o,q,n,p⟩:=Mw b B;simp only[e0,k,o,q,n,p,LS,IU,OD];exact d [] B _ i (px j) (by simp) (by rw[e];cases B<;>rfl)
 | cons a A=>
  obtain⟨s,r,t,u⟩:=Mw a A;cases B with
  |nil=>
   simp only[k,s,r,t,u,LS,IU,OD];exact d A [] _ (px i) j (by simp) (by rw[e];rfl)
  | cons b B=>
   obtain⟨o,q,n,p⟩:=Mw b B;simp only[s,r,t,u,o,q,n,p,Bool.and_self,LS,IU,OD];have F:=lV i 0;refine ai.2 ⟨by rw[an9];omega,?_⟩;have w:jW (dn (a::A)) (dn (b::B))=bif decide (bE (ag a) (ag b)<0) then(ag a,true,false)::jW (dn A) (dn (b::B)) else bif decide (bE (ag a) (ag b)=0) then(ag a,true,true)::jW (dn A) (dn B) else(ag b,false,true)::jW (dn (a::A)) (dn B):=rfl
   rw[w] at e;rw[show nth (a::A) 0=a from rfl,show nth (b::B) 0=b from rfl];rcases Int.lt_trichotomy (bE (ag a) (ag b)) 0 with c|c|c
   ·rw[ao5 c] at e
    rw[ao3 (show ¬ bE (ag a) (ag b)>=0 by omega),ao5 (show bE (ag a) (ag b)<=0 by omega)];exact d A (b::B) _ (px i) j (by simp) e
   ·rw[ao3 (show ¬ bE (ag a) (ag b)<0 by omega),ao5 c] at e
    rw[ao5 (show bE (ag a) (ag b)>=0 by omega),ao5 (show bE (ag a) (ag b)<=0 by omega)];exact d A B _ (px i) (px j) (by simp;omega) e
   ·rw[ao3 (show ¬ bE (ag a) (ag b)<0 by omega),ao3 (show ¬ bE (ag a) (ag b)=0 by omega)] at e
    rw[ao5 (show bE (ag a) (ag b)>=0 by omega),ao3 (show ¬ bE (ag a) (ag b)<=0 by omega)];exact d (a::A) B _ i (px j) (by simp) e
noncomputable def VY κ:=(UY κ).loop (lBo _)
theorem yBo κ(x:VX) K:(a9 (VY κ).E 12 82 [.cf 0, .ptr 1 0 [] 0, .ptr 2 0 [] 0] (.ext (some x.xs)::nS x.A x.B) K)=(
 letI a:=Pg.toProgram (Env.P (EB.E (UY κ)))
 ae a 82 0=ae a 82 0/\∃(e1:VX),sp 52 [(0,AV.cf 0),(1,AV.ptr 1 0 [] 0),(2,AV.ptr 2 0 [] 0)] (Obj.ext (some x.xs)::nS x.A x.B)=Sa e1/\xC e1/\∀
 (e0:Bool×List AV×List AV),True->ak e0.1 (K (AV.aJ []) (Obj.ext (some [])::nS e0.2.1 e0.2.2)) (K (AV.aJ []) (Obj.ext none::nS e0.2.1 e0.2.2))):=by kernel_rfl
def XU(x:VX):List AV×List Dn.Obj:=([.cf 0, .ptr 1 0 [] 0, .ptr 2 0 [] 0], .ext (some x.xs)::nS x.A x.B)
def Ti(_:VX):Out (AV×List Dn.Obj):= .all (fun st'=>rF st') fun st'=> .one (.aJ [],st')
theorem cBp κ:bg (VY κ).E 12 82 (aO XU xC Ti):=by
 refine aU ?_;intro x K c a;refine Eq.mpr (yBo _ x K) ⟨rfl,x,rfl,c,fun y _=>?_⟩;obtain⟨b,e,d⟩:=y;cases b
 ·exact a _ trivial
 ·exact a _ trivial
noncomputable def WV κ:=EB.inline ((VY κ).call (cBp _)) [38]
abbrev Ba:List AV:=[.ptr 1 0 [] 0, .ptr 2 0 [] 0]
noncomputable abbrev Qz(A B:List AV):Dn.Obj:= .loop (iM Tryz.prog 15 5 .ready none (ic (bM 27) [(0, .ah 70 A),(1, .ah 70 B),(4, .nil),(5, .int 0),(6, .ptr 0 0 [] 0),(8, .ah 70 A),(9, .bool (dN (dn A))),(10, .bool !dN (dn A)),(11, .bool false),(12, .ah 70 B),(13, .bool (dN (dn B))),(14, .bool !dN (dn B)),(15, .bool false),(16, .ah 70 A),(17, .ah 70 B),(18, .bn 82 Ba)]))
noncomputable abbrev tt A B:=[.box 51 .nil, .box 51 (.ah 70 A), .box 51 (.ah 70 B),Qz A B]
noncomputable abbrev GF A B W:=[.box 51 (.an 4 0 W.length), .dead, .dead,Qz A B, .row 70 (rws W)]
theorem sUn κ A B Q:(tidy (Pr κ).toProgram 4 (dA (tt A B) (b6 (tt A B) Ba)) Q)=(
 Q [Obj.box 51 (AV.an 4 0 0),Obj.dead,Obj.dead,Qz A B,Obj.row 70 []]):=by kernel_rfl
theorem rUn κ A B t W p q Q(K2:List Dn.Obj->Prop):(gp (vc (WV κ).E 12) 3 [.ah 72 t, .agg [.bool p, .bool q]] (GF A B W) (fun r st''=>match r with| .lit (.bool true)=>tidy (Pr κ).toProgram 4 st'' Q| .lit (.bool false)=>K2 st''|_=>False))=(
 ∃(a:List AV),([AV.ah 72 t],[])=QC a/\a.length<=100000000/\aR (decide ((W.length+1+1)*25<=70368744177664)) (Q [Obj.box 51 (AV.an 4 0
 (W.length+1)),Obj.dead,Obj.dead,Qz A B,Obj.row 70 (List.take W.length (rws W)++[AV.ah 72 a])])):=by kernel_rfl
theorem oUn A B:mL (tt A B) Ba=true:=by kernel_rfl
theorem kUn A B xs:(AV.cf 0::fP (iU (b6 (tt A B) Ba)) Ba,Obj.ext (some xs)::gx (iU (b6 (tt A B) Ba)) (gu (tt A B) (b6 (tt A B) Ba)))=([.cf 0, .ptr 1 0 [] 0, .ptr 2 0 [] 0], .ext (some xs)::nS A B):=by kernel_rfl
structure Wj(A B:List AV):Prop where
 a:fC A=true
 b:fC B=true
 n:(jW (dn A) (dn B)).length<=100000000
 s: ∀x,x∈jW (dn A) (dn B)->x.1.length<=100000000
noncomputable def ZY:eK:=fun a st K=>∃A B,(a,st)=(Ba,tt A B)/\Wj A B/\K (GF A B (ew (dn A) (dn B)))
theorem J2:ZY.gn:=by
 rintro a st K f d ⟨A,B,c,e,b⟩;exact⟨A,B,c,e,d _ b⟩
theorem V0 κ a st K(h:aO XU xC Ti a st K):(WV κ).E.call 82 a st K:=h
theorem gUn κ:jk (WV κ).E 12 82 ZY:=by
 rintro k st K ⟨A,B,w,m,v⟩;obtain⟨rfl,rfl⟩:=Prod.mk.inj (show(k,st)=(Ba,tt A B) from w);refine⟨Qe (jW (dn A) (dn B)),fun g st'=>∃d c:List BI,g=Qe c/\st'=GF A B (d.map (·.1))/\d++c=jW (dn A) (dn B),⟨oUn A B,?_,?_,?_,?_⟩⟩
 ·refine V0 κ _ _ _ ⟨⟨A,B,Qe (jW (dn A) (dn B))⟩,?_,⟨rfl,m.a,m.b⟩,fun st' h=>h⟩
  rw[kUn];rfl
 ·rw[show(WV κ).E.P=Pr κ from rfl,show(tt A B).length=4 from rfl,sUn]
  exact⟨[],_,rfl,rfl,List.nil_append _⟩
 ·rintro C u st' ⟨d,c,o,rfl,i⟩
  cases c with
  |nil=>cases o
  | cons x c=>
   obtain⟨t,p,q⟩:=x;obtain⟨z,rfl⟩:=List.cons.inj o;obtain rfl:=AV.aJ.inj z;rw[show(WV κ).E.P=Pr κ from rfl,show(tt A B).length=4 from rfl,show(4:Nat) - 1=3 from rfl];have r:=m.n;rw[←i] at r;simp only[ap4,List.length_cons] at r;have y:t.length<=100000000:=m.s (t,p,q) (by rw[←i];simp);have f: ∃l j:List BI,Qe c=Qe j/\GF A B (d.map (·.1)++[t])=GF A B (l.map (·.1))/\l++j=jW (dn A) (dn B):=
    ⟨d++[(t,p,q)],c,rfl,by rw[List.map_append];rfl,by rw[←i];simp⟩
   refine Eq.mpr (rUn κ A B t (d.map (·.1)) p q (fun st'=>∃l j:List BI,Qe c=Qe j/\st'=GF A B (l.map (·.1))/\l++j=jW (dn A) (dn B)) K) ⟨t,rfl,y,ai.2 ⟨?_,?_⟩⟩
   ·rw[an9,List.length_map];omega
   ·have e:List.take (d.map (·.1)).length (rws (d.map (·.1)))++[AV.ah 72 t]=rws (d.map (·.1)++[t]):=by
     rw[←vr,←dZ (d.map (·.1)),List.take_length]
    rw[e];simp only[GF,ap4,List.length_singleton] at f;exact f
 ·rintro st' ⟨d,c,o,rfl,i⟩
  obtain rfl:c=[]:=by cases c with|nil=>rfl|cons _ _=>cases o
  rw[List.append_nil] at i;rw[i];exact v
noncomputable def Uq κ:=(WV _).range 15 5 J2 (gUn κ) fun f=>iV f (82::N3)
theorem yUn κ A B K:(a9 (Uq κ).E 12 15 [.ah 70 A, .ah 70 B] [] K)=(
 letI a:=K (AV.aJ [AV.nil,AV.int 80]) []
 aR (fC A) (ak (!dN (dn A)) a (aR (fC B) (ak (!dN (dn B)) a (∃(e1:List AV),∃(e0:List AV),([AV.ptr 1 0 [] 0,AV.ptr 2 0 [] 0],tt A B)=([AV.ptr 1 0 []
 0,AV.ptr 2 0 [] 0],tt e1 e0)/\Wj e1 e0/\K (AV.aJ [AV.an 0 0 (List.length (ew (dn e1) (dn e0))),AV.int 0]) [Obj.row 70 (rws (ew (dn e1) (dn e0)))]))))):=by kernel_rfl
abbrev Xe:=List AV×List AV
def Qt(x:Xe):List AV×List Dn.Obj:=([.ah 70 x.1, .ah 70 x.2],[])
structure wu(x:Xe):Prop where
 f:Wj x.1 x.2
 a:dN (dn x.1)=true
 b:dN (dn x.2)=true
def ZB(x:Xe):Out (AV×List Dn.Obj):= .one (.aJ [.an 0 0 (ew (dn x.1) (dn x.2)).length, .int 0],[.row 70 (rws (ew (dn x.1) (dn x.2)))])
theorem cUn κ:bg (Uq κ).E 12 15 (aO Qt wu ZB):=by
 refine aU ?_;rintro⟨A,B⟩ K ⟨c,e,f⟩ d;refine Eq.mpr (yUn _ A B K) (ai.2 ⟨c.a,?_⟩);rw[e];refine ai.2 ⟨c.b,?_⟩;rw[f];exact⟨A,B,rfl,c,d⟩
noncomputable def BUn κ:=((Uq κ).call (cUn _)).calm [15,50]
end Go.Proofs.YtioeffnadipbaaaGreatDoor
