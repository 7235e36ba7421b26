import Derived.Test.YtioeffnadipbaaaGreatDoorDePD
import Derived.Test.YtioeffnadipbaaaGreatDoorDeP8
import Derived.Test.YtioeffnadipbaaaGreatDoorDePC
namespace Go.Proofs.YtioeffnadipbaaaGreatDoor
open Go Go.Dn Go.Rl Go.Proofs
attribute [local irreducible] a7 vc
set_option maxRecDepth 20000
theorem bp.Xl(a:bp) hi:a.t=nth a.x.r.bl a.x.od[a.i]:=by
 grind [xU]
theorem bp.Wd(a:bp)(hi:a.i<a.x.od.length):a.out=bif toInt (af a.t 0)==1 then a.all
  else bif toInt (af a.t 0)==2 then(bif (M0 a).isEmpty then uT a a.e else[])
  else bif toInt (af a.t 0)==3||(toInt (af a.t 0)==4||(toInt (af a.t 0)==5||toInt (af a.t 0)==6)) then
   (bif toInt (af a.t 0)==3&&eO a.e (eE (af a.t 2)) then uT a (a.e.put (eE (af a.t 2)).s (bK a.e (eE (af a.t 3)).tm))
    else bif toInt (af a.t 0)==3&&eO a.e (eE (af a.t 3)) then uT a (a.e.put (eE (af a.t 3)).s (bK a.e (eE (af a.t 2)).tm))
    else bif ic (toInt (af a.t 0)) (bK a.e (eE (af a.t 2)).tm) (bK a.e (eE (af a.t 3)).tm) then uT a a.e else[])
  else
   (bif !oS (toInt (af a.t 0)) (iA ((M0 a).map (mr (toInt (af a.t 0)) (eE (af a.t 3))))) then[]
    else bif eO a.e (eE (af a.t 2)) then uT a (a.e.put (eE (af a.t 2)).s ⟨false,nU (toInt (af a.t 0)) (iA ((M0 a).map (mr (toInt (af a.t 0)) (eE (af a.t 3))))),ByteArray.mk #[]⟩)
    else bif (bK a.e (eE (af a.t 2)).tm).n==nU (toInt (af a.t 0)) (iA ((M0 a).map (mr (toInt (af a.t 0)) (eE (af a.t 3))))) then uT a a.e else[]):=by
 have ht:=a.Xl hi;unfold bp.out bp.all M0 uT bp.l bp.rel
 grind [List.drop_eq_getElem_cons,tR]
theorem cGe κ r:bg (EGm κ r) 12 98 (VB r):=by
 refine aQ ?_;rintro a K ⟨hs,hr⟩ ho
 replace ho:aq a.out.isEmpty (K (.aJ []) (dr a.x a.L)) (K (.aJ []) (n8 a.x (a.L++a.out))):=ho
 refine Eq.mpr (yGo κ r a K) ?_;have hn:=hs.x.n;have hn2:=hs.n;have hle:=hs.i;refine ae.2 ⟨fun e0=>?_,fun e0=>?_⟩
 ·have e0:(a.i:Int)=a.x.od.length:=by simpa using e0
  have hout:a.out=[ji a.x.r.hl a.e]:=by
   unfold bp.out;rw[ao0 (by omega)];rfl
  refine⟨rfl,⟨a.x,a.L,a.e,0⟩,rfl,⟨Nat.zero_le _,hs.x.h,hs.x.hv⟩,ai.2 ⟨?_,?_⟩⟩
  ·rw[hout] at hn2
   simp only[List.length_singleton] at hn2;rw[an2];simp only;omega
  ·rw[hout] at ho
   have hx:List.take a.L.length (rws a.L)++[AV.ah 72 (List.take (ji a.x.r.hl a.e).length (List.drop 0 (ji a.x.r.hl a.e)))]=rws (a.L++[ji a.x.r.hl a.e]):=by
    rw[ao2,List.take_length,←vl,←dU a.L,List.take_length]
   show K (.aJ []) [_,_,_,_, .row 70 (List.take a.L.length (rws a.L)++[AV.ah 72 (List.take (ji a.x.r.hl a.e).length (List.drop 0 (ji a.x.r.hl a.e)))])]
   rw[hx];have hl:(a.L++[ji a.x.r.hl a.e]).length=a.L.length+1:=by simp
   rw[←hl];exact ho
 ·have e0: ¬ (a.i:Int)=a.x.od.length:=by simpa using e0
  have hi:a.i<a.x.od.length:=by omega
  have hw:=az (n:=(a.i:Int)+1) (by omega) (by omega);have hm:a.x.od[a.i]∈a.x.od:=List.getElem_mem _;have hout:=a.Wd hi;have hk:toInt a.k=(a.x.od[a.i]:Int):=by
   have h:=xU a.x.od a.i hi;simp only[bp.k,bp.j,Nat.zero_add,Int.toNat_natCast,h]
  have hT:Yq a.x a.t:=by rw[a.Xl hi];exact hs.x.t _ hm
  have hb:=hs.x.o _ hm;have next: ∀e',a.out=uT a e'->∃m,m<r/\∃b:bp,([AV.ptr 0 0 [] 0,AV.int (IntKind.wrap .i64 ((a.i:Int)+1)),cK e'],dr a.x a.L)=gk b/\(cy b/\b.x.od.length - b.i=m)/\aq b.out.isEmpty (K (AV.aJ []) (dr b.x b.L)) (K (AV.aJ []) (n8 b.x (b.L++b.out))):=fun e' he=>by
   refine⟨a.x.od.length - (a.i+1),by omega,⟨a.x,a.L,a.i+1,e'⟩,by rw[hw];rfl,⟨⟨hs.x,hi,?_⟩,rfl⟩,?_⟩
   ·show a.L.length+(uT a e').length<=100000000
    rw[←he];exact hn2
   ·show aq (uT a e').isEmpty (K (AV.aJ []) (dr a.x a.L)) (K (AV.aJ []) (n8 a.x (a.L++uT a e')))
    rw[←he];exact ho
  have none:a.out=[]->K (.aJ []) (dr a.x a.L):=fun h=>by rw[h] at ho;exact ho
  refine ai.2 ⟨by simp;omega,ai.2 ⟨by rw[hk];simp;omega,?_⟩⟩;refine ae.2 ⟨fun e1=>?p1,fun e1=>ae.2 ⟨fun e2=>?p2,fun e2=>?_⟩⟩
  case p1=>
   have ha:lD (toInt (af a.t 0))=true:=by unfold lD;rw[e1];rfl
   rw[e1,an9] at hout;have hf:=hT.at0 ha;refine⟨⟨⟨a.x,a.L,a.rel,a.l⟩,rfl,⟨hs.x.d,hf.1,hf.2⟩⟩,⟨rfl,rfl,rfl,rfl,rfl,trivial⟩,a,by kernel_rfl,⟨hs.x,hi,hr,hT.at1 ha,by rw[hout] at hn2;exact hn2⟩,?_⟩;rw[hout] at ho;exact ho
  case p2=>
   have ha:lD (toInt (af a.t 0))=true:=by unfold lD;rw[e1,e2];rfl
   rw[e1,e2,an7,an9] at hout;have hf:=hT.at0 ha;exact⟨⟨⟨a.x,a.L,a.rel,a.l⟩,rfl,⟨hs.x.d,hf.1,hf.2⟩⟩,⟨rfl,rfl,rfl,rfl,rfl,trivial⟩,a,by kernel_rfl,hT.at1 ha,ae.2 ⟨fun hM=>next _ (by rw[hout,hM];rfl),fun hM=>none (by rw[hout,hM];rfl)⟩⟩
  have hu:=hT.u e1 e2;have hv:=hT.v e1 e2;refine ae.2 ⟨fun e3=>?p3,fun e3=>ae.2 ⟨fun e4=>?p4,fun e4=>ae.2 ⟨fun e5=>?p5,fun e5=>ae.2 ⟨fun e6=>?p6,fun e6=>?p7⟩⟩⟩⟩
  case p7=>
   rw[e1,e2,e3,e4,e5,e6] at hout;simp only[an7,Bool.or_false] at hout;have ha:lD (toInt (af a.t 0))=true:=by unfold lD;rw[e1,e2,e3,e4,e5,e6];rfl
   have hf:=hT.at0 ha;refine⟨⟨a.x,a.L,toInt (af a.t 0),a.rel,a.l,eE (af a.t 2),eE (af a.t 3),a.e⟩,rfl,⟨hs.x.d,hf.1,hf.2,⟨hT.at1 ha,hv⟩⟩,?_⟩;refine ae.2 ⟨fun hb=>none ?_,fun hb=>⟨⟨a.e,eE (af a.t 2)⟩,rfl,trivial,ae.2 ⟨fun fu=>⟨⟨a.e,(eE (af a.t 2)).s,⟨false,_,ByteArray.mk #[]⟩⟩,rfl,trivial,next _ ?_⟩,fun fu=>⟨⟨a.e,eE (af a.t 2)⟩,rfl,hu,ae.2 ⟨fun hq=>next _ ?_,fun hq=>none ?_⟩⟩⟩⟩⟩
   ·have hb:(!oS (toInt (af a.t 0)) (iA ((M0 a).map (mr (toInt (af a.t 0)) (eE (af a.t 3))))))=true:=hb
    rw[hout,hb];rfl
   ·have hb:(!oS (toInt (af a.t 0)) (iA ((M0 a).map (mr (toInt (af a.t 0)) (eE (af a.t 3))))))=false:=hb
    rw[hout,hb,fu];rfl
   ·have hb:(!oS (toInt (af a.t 0)) (iA ((M0 a).map (mr (toInt (af a.t 0)) (eE (af a.t 3))))))=false:=hb
    have hq:((bK a.e (eE (af a.t 2)).tm).n==nU (toInt (af a.t 0)) (iA ((M0 a).map (mr (toInt (af a.t 0)) (eE (af a.t 3))))))=true:=hq;rw[hout,hb,fu,hq];rfl
   ·have hb:(!oS (toInt (af a.t 0)) (iA ((M0 a).map (mr (toInt (af a.t 0)) (eE (af a.t 3))))))=false:=hb
    have hq:((bK a.e (eE (af a.t 2)).tm).n==nU (toInt (af a.t 0)) (iA ((M0 a).map (mr (toInt (af a.t 0)) (eE (af a.t 3))))))=false:=hq;rw[hout,hb,fu,hq];rfl
  all_goals
   have hc:(toInt (af a.t 0)==3||(toInt (af a.t 0)==4||(toInt (af a.t 0)==5||toInt (af a.t 0)==6)))=true:=by simp_all
   have h7:toInt (af a.t 0)≠7:=by intro h;rw[h] at hc;cases hc
   rw[e1,e2,hc,an7,an7,an9] at hout;have hv:=hv h7;have held:(a.out=bif ic (toInt (af a.t 0)) (bK a.e (eE (af a.t 2)).tm) (bK a.e (eE (af a.t 3)).tm) then uT a a.e else[])->aq (ic (toInt (af a.t 0)) (bK a.e (eE (af a.t 2)).tm) (bK a.e (eE (af a.t 3)).tm)) (∃m,m<r/\∃b:bp,([AV.ptr 0 0 [] 0,AV.int (IntKind.wrap .i64 ((a.i:Int)+1)),cK a.e],dr a.x a.L)=gk b/\(cy b/\b.x.od.length - b.i=m)/\aq b.out.isEmpty (K (AV.aJ []) (dr b.x b.L)) (K (AV.aJ []) (n8 b.x (b.L++b.out)))) (K (.aJ []) (dr a.x a.L)):=
    fun h=>ae.2 ⟨fun q=>next _ (by rw[h,q];rfl),fun q=>none (by rw[h,q];rfl)⟩
   refine ae.2 ⟨fun f3=>⟨⟨a.e,eE (af a.t 2)⟩,rfl,trivial,ae.2 ⟨fun fu=>⟨⟨a.e,eE (af a.t 3)⟩,rfl,hv,⟨a.e,(eE (af a.t 2)).s,bK a.e (eE (af a.t 3)).tm⟩,rfl,trivial,next _ (by rw[hout,f3,fu];rfl)⟩,
    fun fu=>ae.2 ⟨fun _=>⟨⟨a.e,eE (af a.t 3)⟩,rfl,trivial,ae.2 ⟨fun fv=>⟨⟨a.e,eE (af a.t 2)⟩,rfl,hu,⟨a.e,(eE (af a.t 3)).s,bK a.e (eE (af a.t 2)).tm⟩,rfl,trivial,next _ (by rw[hout,f3,fu,fv];rfl)⟩,
     fun fv=>⟨⟨a.e,eE (af a.t 2)⟩,rfl,hu,⟨a.e,eE (af a.t 3)⟩,rfl,hv,⟨toInt (af a.t 0),bK a.e (eE (af a.t 2)).tm,bK a.e (eE (af a.t 3)).tm⟩,rfl,trivial,held (by rw[hout,f3,fu,fv];rfl)⟩⟩⟩,fun g3=>absurd (f3.symm.trans g3) (by simp)⟩⟩⟩,
    fun f3=>ae.2 ⟨fun g3=>absurd (g3.symm.trans f3) (by simp),fun _=>⟨⟨a.e,eE (af a.t 2)⟩,rfl,hu,⟨a.e,eE (af a.t 3)⟩,rfl,hv,⟨toInt (af a.t 0),bK a.e (eE (af a.t 2)).tm,bK a.e (eE (af a.t 3)).tm⟩,rfl,trivial,held (by rw[hout,f3];rfl)⟩⟩⟩
theorem qGe κ: ∀args st K,aO gk cy Tq args st K->b6 (Pr κ) 98 args st K:=by
 rintro args st K ⟨a,h1,h2,h3⟩;exact aE.pJ _ _ (eGm _) (cGe _) _ _ _ K ⟨a,h1,⟨h2,rfl⟩,h3⟩
noncomputable def BGe κ:=(CB κ).Xa aH (qGe _)
end Go.Proofs.YtioeffnadipbaaaGreatDoor
namespace Go.Proofs.YtioeffnadipbaaaGreatDoor
open Go Go.Dn Go.Rl Go.Proofs
def Jo(v:eI):=bif v.y then v.n=0 else v.s=ByteArray.mk #[]
theorem VS{v}(h:Jo v):Sy (eZ v):=⟨rfl,h⟩
def uU(e:dF):=∀x,x∈e->Jo x.2
theorem HD: ∀{e s},uU e->Jo (e.get s)
 |[],_,_=>rfl
 |(t,w)::e,s,h=>by
  rw[dF.get];cases decide (s=t) with
  |true=>exact h (t,w) (by simp)
  |false=>exact HD fun x hx=>h x (by grind)
theorem vg: ∀{e s v},uU e->Jo v->uU (e.put s v)
 |[],s,v,_,hv,x,hx=>by
  grind [dF.put]
 | (t,w)::e,s,v,h,hv,x,hx=>by
  rw[dF.put] at hx;cases hs:decide (s=t) with
  |true=>
   rw[hs] at hx;rcases List.mem_cons.1 hx with rfl|hx
   ·exact hv
   ·exact h x (by grind)
  |false=>
   rw[hs] at hx;rcases List.mem_cons.1 hx with rfl|hx
   ·exact h _ (by simp)
   ·exact vg (fun y hy=>h y (by simp[hy])) hv x hx
theorem H7{e}(h:uU e): ∀t,Jo (bK e t)
 | .mk op s n l=>by
  rw[bK];cases op==1 with
  |true=>exact HD h
  | false=>cases op==2 with
   |true=>rfl
   | false=>cases op==3 with
    |true=>rfl
    |false=>
     unfold Z1;split<;>rfl
theorem Sq{row}(h:u9 row) j:Jo (Ey (nth row j)):=by
 rcases Nat.lt_or_ge j _ with hj|hj
 ·rw[aX _ j hj]
  exact(h _ (by simp)).2
 ·rw[fT _ j hj];rfl
theorem su{row}(hr:u9 row): ∀{l j g g'},uU g->n9 row l j g=some g'->uU g'
 |[],_,g,g',hg,h=>by
  grind [n9]
 | t::ts,j,g,g',hg,h=>by
  rw[n9] at h;cases h4:toInt (af t 0)==4 with
  |true=>rw[h4] at h;exact su hr hg h
  | false=>
   rw[h4] at h;cases hf:eO g (eE t) with
   |true=>rw[hf] at h;exact su hr (vg hg (Sq hr j)) h
   |false=>
    rw[hf] at h;cases hs: !FY _ _ with
    |true=>rw[hs] at h;cases h
    |false=>rw[hs] at h;exact su hr hg h
theorem OH{l rows e g}(hr: ∀r,r∈rows->u9 (ag r))(he:uU e)(h:g∈nf l rows e):uU g:=by
 obtain⟨r,h1,h2⟩:=List.mem_filterMap.1 h
 grind [su]
def NxE(x:xI) k e e':=
 e'∈nf (ag (af (af (nth x.r.bl k) 1) 1)) (x.at (toStr (af (af (nth x.r.bl k) 1) 0))) e\/e'=e\/(∃s t,e'=e.put s (bK e t))\/ ∃s n,e'=e.put s ⟨false,n,ByteArray.mk #[]⟩
theorem C7 x k ks e:
  toInt (af (nth x.r.bl k) 0)=1/\tR x (k::ks) e=(nf (ag (af (af (nth x.r.bl k) 1) 1)) (x.at (toStr (af (af (nth x.r.bl k) 1) 0))) e).flatMap (tR x ks)\/tR x (k::ks) e=[]\/ ∃e',NxE x k e e'/\tR x (k::ks) e=tR x ks e':=by
 grind [NxE,tR]
def WL(x:xI):=∀rel r,r∈x.at rel->u9 (ag r)
theorem WA{x}(hx:WL x){k e e'}(he:uU e)(h:NxE x k e e'):uU e':=by
 rcases h with h|rfl|⟨s,t,rfl⟩|⟨s,n,rfl⟩
 ·exact OH (hx _) he h
 ·grind
 ·grind [vg,H7]
 ·exact vg he rfl
theorem Il{x k ks e r}(h:r∈tR x (k::ks) e): ∃e',NxE x k e e'/\r∈tR x ks e':=by
 rcases C7 x k _ e with⟨_,h1⟩|h1|⟨e',h1,h2⟩
 ·rw[h1] at h
  obtain⟨g,h2,h3⟩:=List.mem_flatMap.1 h;exact⟨g, .inl h2,h3⟩
 ·grind
 grind
theorem B1{x}(hx:WL x): ∀ks {e},uU e->jU (tR x ks e)
 |[],e,he,r,hr=>by
  rw[tR,List.mem_singleton] at hr;subst hr;intro v hv;obtain⟨t,_,rfl⟩:=List.mem_map.1 hv
  grind [VS,H7]
 |k::ks,e,he,r,hr=>by
  obtain⟨e',h1,h2⟩:=Il hr;exact B1 hx _ (WA hx he h1) r h2
theorem Bm{x}: ∀ks {e r},r∈tR x ks e->r.length=x.r.hl.length
 |[],e,r,hr=>by
  rw[tR,List.mem_singleton] at hr;subst hr;exact List.length_map _
 |k::ks,e,r,hr=>by
  obtain⟨e',_,h2⟩:=Il hr;exact Bm _ h2
def BO(x:xI)(ks:List _):=(ks.filter fun k=>toInt (af (nth x.r.bl k) 0)==1).length
theorem Dq{α β:Type}{f:α->List β}{m}: ∀{l:List _},(∀a,a∈l->(f a).length<=m)->(l.flatMap f).length<=l.length*m
 |[],_=>by simp
 |a::l,h=>by
  have h1:=h a (by simp);have h2:=Dq (l:=l) fun b hb=>h b (by grind)
  rw[List.flatMap_cons,ao7,List.length_cons,Nat.succ_mul];omega
theorem Bk{x N}(hN: ∀rel,(x.at rel).length<=N)(h1:1<=N): ∀ks e,(tR x ks e).length<=N ^ BO x ks
 |[],e=>by rw[tR];exact Nat.le_refl _
 | k::ks,e=>by
  have hc:BO x ks<=BO x (k::ks):=by
   unfold BO;rw[List.filter_cons];split<;>simp
  have hm:=Nat.pow_le_pow_right h1 hc;rcases C7 x k ks e with⟨h2,h3⟩|h2|⟨e',_,h2⟩
  ·rw[h3]
   have hl:=Nat.le_trans (wM (ag (af (af (nth x.r.bl k) 1) 1)) (x.at (toStr (af (af (nth x.r.bl k) 1) 0))) e) (hN _);have hc:BO x (k::ks)=BO x ks+1:=by
    unfold BO
    grind
   rw[hc,Nat.pow_succ,Nat.mul_comm];exact Nat.le_trans (Dq fun g _=>Bk hN h1 ks g) (Nat.mul_le_mul_right _ hl)
  ·rw[h2];exact Nat.zero_le _
  ·rw[h2];exact Nat.le_trans (Bk hN h1 ks e') hm
end Go.Proofs.YtioeffnadipbaaaGreatDoor
namespace Go.Proofs.YtioeffnadipbaaaGreatDoor
open Go Go.Dn Go.Rl Go.Proofs
attribute [local irreducible] a7 vc
set_option maxRecDepth 20000
theorem Su{E}(hE:aE E){f:Nat}{args st K}(h:qL E f args st K):b6 E.P f args st K:=by
 refine⟨?_,fun C vs hP hI hst hm=>by grind [pB]⟩;obtain⟨_,h⟩:=ai.1 h;simp[kz] at h;exact(hE.call _ _ _ _ h).1
def EB.place(b:EB)(f:Nat)(l:List (Nat×Nat×TypeId)):EB:=
 ⟨b.E.aw f fun _args _s K=>qL _ f _ _ K,b.ok.fV fun _ _ _ hh=>LN (Pn l (Su b.ok hh)),b.mono.aw fun _ _ _ _ hK hh=>xF b.mono hK hh⟩
noncomputable def BGp κ:=EB.owns (EB.place (BGe κ) 98 [(0,4,70)]) [50,46]
theorem yGv κ ds rs ins r K:(a7 (BGp κ).E 12 50 [fq ds rs,au r, .ak 0 0 ins.length] [.row 51 ins] K)=(
 letI b:=Obj.row
 ∃(a:dh),([au r],[])=Xk a/\OkR a/\∃(a_1:bp),([AV.ptr 0 0 [] 0,AV.int 0,AV.eP 9 72 [] []],[Obj.box 160 (AV.agg [fq ds rs,au r,AV.ak 1
 0 (List.length (cW (aM a))),AV.ak 2 0 ins.length,AV.ak 3 0 0]),b 3 (ints (cW (aM a))),b 51 ins,b 70 []])=gk a_1/\cy
 a_1/\aq (List.isEmpty (bp.out a_1)) (∃(a:RL),([AV.ah 70 (List.take a_1.L.length (List.drop 0 (rws a_1.L)))],[])=QX a/\xe a/\K (AV.ah 70 (rws
 (eT a))) [b 51 a_1.x.ins]) (∃(a:RL),([AV.ah 70 (List.take (List.length (a_1.L++bp.out a_1)) (List.drop 0 (rws (a_1.L++bp.out a_1))))],[])=
 QX a/\xe a/\K (AV.ah 70 (rws (eT a))) [b 51 a_1.x.ins])):=by kernel_rfl
end Go.Proofs.YtioeffnadipbaaaGreatDoor
namespace Go.Proofs.YtioeffnadipbaaaGreatDoor
open Go Go.Dn Go.Rl Go.Proofs
theorem BT{ds rs}(hs:nW ds rs)(h:(mi ds rs).2=0){r}(hr:r∈rs):OkR (ea r):=by
 have h4:=(sZ.1 h).2.2.2 r hr;refine⟨hs.2.2 r hr,?_,?_⟩
 ·grind [ea,kU,G2]
 grind [kU,G2]
theorem ER{op s n l}(h:op=1\/op=2\/op=3):bL (.mk op s n l)=true:=by
 have key: ∀b,(op==1||(op==2||(op==3||b)))=true:=fun b=>by grind
 match l with
 |[]=>grind [bL]
 |[_]=>grind [bL]
 |[_,_]=>exact key _
 |_::_::_::_=>grind [bL]
theorem k8: ∀h t,ar h t=true->t.op≠4->bL t=true
 |0,t,hr,_=>by simp[ar] at hr
 | h+1, .mk op s n l,hr,h4=>by
  rw[tJ] at hr;by_cases h0:op=0
  ·grind
  rw[an6 h0,an7] at hr;cases h2:mI op with
  | true=>
   rw[h2,an9] at hr;simp only[an3,an2,lB,List.all_eq_true,Bool.not_eq_true',Bool.or_eq_false_iff,an4] at hr;obtain⟨⟨_,hl⟩,ha⟩:=hr;match l,hl,ha with
   |[a,b],_,ha=>
    have h1:=ha a (by simp);have h2:=ha b (by simp);simp only[bL,k8 h a h1.2 h1.1.2,k8 h b h2.2 h2.1.2,Bool.and_true,Bool.or_true]
  |false=>
   rw[h2,an7,an3] at hr;have hb:=hr.1;have h4:op≠4:=h4
   grind [bare,ER,decide_eq_false]
theorem nC{a}(h:bk a=true):a.l.length<=8/\∀t,t∈a.l->t.op≠4->bL t=true:=by
 grind [bk,k8]
theorem Jb{t}(h:Vn t=true):bL t=true:=by
 obtain⟨op,s,n,l⟩:=t;simp[Vn] at h;exact ER (h.imp id .inl)
theorem PY{t}(h:t.op=1):bL t=true:=by
 obtain⟨op,s,n,l⟩:=t;exact ER (.inl h)
structure ab3(l:Lt):Prop where
 a:lD l.op=true->bk l.a=true
 x:(l.op==1)=false->(l.op==2)=false->bL l.x=true
 y:(l.op==1)=false->(l.op==2)=false->l.op≠7->bL l.y=true
theorem VK{l}(h:j6 l=true):ab3 l:=by
 unfold j6 at h;by_cases c1:(decide (l.op=1)||decide (l.op=2))=true
 ·rw[c1,an9,an3] at h
  refine⟨fun _=>h.1,fun h1 h2=>?_,fun h1 h2=>?_⟩
  all_goals
   simp only[ao5,an2] at c1;rcases c1 with c|c<;>simp[c] at h1 h2
 ·have c1:(decide (l.op=1)||decide (l.op=2))=false:=by simpa using c1
  rw[c1,an7] at h;by_cases c3:(decide (l.op=3)||decide (l.op=4)||decide (l.op=5)||decide (l.op=6))=true
  ·rw[c3,an9] at h
   simp only[an3,Bool.not_eq_true',an4] at h;refine⟨fun hA=>?_,fun _ _=>k8 20 _ h.1.2 h.1.1.1.2,fun _ _ _=>k8 20 _ h.2 h.1.1.2⟩;simp only[ao5,an2] at c3;rcases c3 with((c|c)|c)|c<;>simp[lD,c] at hA
  ·have c3:(decide (l.op=3)||decide (l.op=4)||decide (l.op=5)||decide (l.op=6))=false:=by simpa using c3
   rw[c3,an7] at h;by_cases c7:l.op=7
   ·rw[an8 c7,an9] at h
    simp only[an3] at h;exact⟨fun _=>h.1.1,fun _ _=>Jb h.1.2.1,fun _ _ h7=>absurd c7 h7⟩
   ·rw[an6 c7,an7] at h
    cases c8:(decide (l.op=8)||decide (l.op=9)||decide (l.op=10)) with
    |true=>
     rw[c8,an9] at h;simp only[an3,an2] at h;exact⟨fun _=>h.1.1.1,fun _ _=>Jb h.1.1.2.1,fun _ _ _=>PY h.1.1.2.2⟩
    |false=>rw[c8] at h;cases h
abbrev a8(all:List RL):List AV:=all.map fun L=> .ah 70 (rws L)
def EC ds i:=(ag (af (nth ds i) 2)).length
structure jB(ds:List AV)(all:List RL):Prop where
 len:all.length=ds.length
 v: ∀L,L∈all->jU L
 r: ∀L,L∈all->ec L=true
 w: ∀i r,r∈all.getD i []->r.length=EC ds i
theorem se all i:ag (nth (a8 all) i)=rws (all.getD i []):=by
 grind [aX,ag,fT]
def Pm(ds rs:List AV)(r:dh)(all:List RL):xI:=⟨ds,rs,r,cW (aM r),a8 all⟩
theorem Gv ds rs r all rel:(Pm ds rs r all).at rel=rws (all.getD (bH rel ds).toNat []):=se _ _
theorem HC{ds rs r all}(h: ∀L,L∈all->jU L):WL (Pm ds rs r all):=by
 intro rel x hx;rw[Gv] at hx;obtain⟨L,h1,rfl⟩:=List.mem_map.1 hx;rcases Nat.lt_or_ge (bH rel ds).toNat all.length with hi|hi
 ·refine h _ ?_ L h1
  grind
 grind
theorem Na{ds a}(h:known (cM ds) a=0):a.l.length=EC ds (bH a.rel ds).toNat:=by
 unfold known at h;cases e:kQ a.rel (cM ds) with
 |none=>grind
 |some k=>
  obtain⟨_,h2,h3⟩:=px e;rw[wR e] at h;by_cases c:(mf ds k).length=a.l.length
  ·rw[←c,h2,mf,List.length_map];rfl
  grind
theorem CR{op}(h:lD op=true):Rl.dJ ⟨op,⟨ByteArray.empty,[]⟩, .mk 0 ByteArray.empty 0 [], .mk 0 ByteArray.empty 0 []⟩=true:=by
 grind [Rl.dJ,lD]
theorem Ih{ds rs}(h:(mi ds rs).2=0){r}(hr:r∈rs):known (cM ds) (aM (ea r)).head=0/\∀l,l∈(aM (ea r)).body->lD l.op=true->known (cM ds) l.a=0:=by
 obtain⟨h1,_,h2,_⟩:=sZ.1 h;have hk:jn (cM ds) (aM (ea r))=0:=by
  grind [SX,km]
 unfold jn at hk;cases e:decide (known (cM ds) (aM (ea r)).head=0) with
 |false=>grind
 |true=>
  rw[e] at hk;exact⟨by simpa using e,fun l hl ha=>qJ hk l hl (CR ha)⟩
theorem Oh{r k}(h:k<r.bl.length):cX (nth r.bl k)∈(aM r).body:=List.mem_map_of_mem (by grind [aX])
theorem MA{ds rs}(hs:nW ds rs)(hc:(mi ds rs).2=0){r}(hr:r∈rs){all}(hA:jB ds all)(hn: ∀L,L∈all->L.length<=100000000):Sp (Pm ds rs (ea r) all):=by
 have hk:=BT hs hc hr;have hf:=sJ hc hr;have hw:=Ih hc hr;have hR:=hk.r;simp only[a9,an3,an2,List.all_eq_true] at hR;obtain⟨⟨⟨h1,h2⟩,h3⟩,h4⟩:=hR;have hl:=tn hk.f;have hb:(aM (ea r)).body.length=(ea r).bl.length:=gM _;have hlt: ∀k,k∈cW (aM (ea r))->k<(ea r).bl.length:=fun k hk=>by have:=xv hk;omega
 refine⟨hs.1,?_,hlt,?_,fun t ht=>?_,fun k hk=>?_⟩
 ·show(cW (aM (ea r))).length<=100000
  omega
 ·have:=(nC h1).1
  have e:(aM (ea r)).head.l.length=(ea r).hl.length:=er _;show(ea r).hl.length<=100000
  omega
 ·have hm:cE t∈(aM (ea r)).head.l:=List.mem_map_of_mem ht
  rw[iI];have h5:=h3 _ hm;simp only[tC,an3,Bool.not_eq_true',an4] at h5;exact(nC h1).2 _ hm h5.1.1
 ·have hk:=hlt k hk
  have hm:=Oh hk;have hF:=VK (h4 _ hm);have hbl:nth (ea r).bl k∈ag (af r 1):=by rw[aX _ k hk];exact List.getElem_mem _
  have hH:lD (toInt (af (nth (ea r).bl k) 0))=true->dJ (toInt (af (nth (ea r).bl k) 0))=true:=fun ha=>by
   have:=CR ha
   simp only[Rl.dJ,ao5,an2] at this;unfold dJ;by_cases c:toInt (af (nth (ea r).bl k) 0)<3
   ·rw[an8 c];rfl
   ·rw[an6 c,an7,an2];omega
  refine⟨fun ha=>?_,fun ha=>?_,fun e1 e2=>by rw[iI];exact hF.x e1 e2,fun e1 e2 e7=>by rw[iI];exact hF.y e1 e2 e7⟩
  ·have:=hf.2 _ hbl (hH ha)
   refine⟨this.1,?_⟩;show _<((a8 all).length:Int)
   rw[List.length_map,hA.len];exact this.2
  ·have hrA:=nC (hF.a ha)
   have hkn:=Na (hw.2 _ hm ha);have el:(cX (nth (ea r).bl k)).a.l.length=(ag (af (af (nth (ea r).bl k) 1) 1)).length:=er _;rw[Gv];show Ei (ag (af (af (nth (ea r).bl k) 1) 1)) (rws (all.getD (bH (toStr (af (af (nth (ea r).bl k) 1) 0)) ds).toNat []))
   have hx:=hf.2 _ hbl (hH ha);have hi:(bH (toStr (af (af (nth (ea r).bl k) 1) 0)) ds).toNat<all.length:=by have:=hA.len;omega
   refine⟨?_,by omega,fun t ht h4=>?_,fun x hx=>?_⟩
   ·rw[dU]
    refine hn _ ?_;simp[List.getD_eq_getElem?_getD,hi]
   ·rw[iI]
    have e:=da t;refine hrA.2 _ (List.mem_map_of_mem ht) ?_;rw[e];exact h4
   ·obtain⟨L,h6,rfl⟩:=List.mem_map.1 hx
    rw[←el,hkn];exact hA.w _ L h6
theorem sC A B:A.length<=(eF A B).length:=by
 match A,B with
 |[],B=>simp
 |a::cs,[]=>
  have:=sC cs []
  grind [AM]
 |a::cs,b::bs=>
  have h1:=sC cs (b::bs);have h2:=sC cs bs;have h3:=sC (a::cs) bs
  grind [BU]
termination_by A.length+B.length
def dd(all:List RL):=(all.map List.length).sum
theorem I3: ∀all i N,i<all.length->dd (all.set i N)+(all.getD i []).length=dd all+N.length
 |[],_,_,h=>absurd h (by simp)
 |L::all,0,N,_=>by grind [dd]
 |L::all,i+1,N,h=>by
  have:=I3 all i N (by grind)
  simp[dd,List.sum_cons] at this⊢;omega
theorem rR{L}: ∀{all},L∈all->L.length<=dd all
 |M::all,h=>by
  simp[dd];rcases List.mem_cons.1 h with rfl|h
  ·simp
  ·have:=rR h;grind [dd]
section
variable (ds rs:List AV)
def fE r all:=eT (tR (Pm ds rs r all) (cW (aM r)) [])
def atR r:=(bH (ea r).rel ds).toNat
def mD r(all:List _):=all.set (atR ds r) (eF (all.getD (atR ds r) []) (fE ds rs (ea r) all))
def dB(g:List Int)(br:Nat):List AV->List RL->Bool->List RL×Bool
 |[],all,more=>(all,more)
 |r::xs,all,more=>bif decide (br<dd all) then(all,false)
  else bif !g.contains (bH (ea r).rel ds) then dB g br xs all more
  else dB g br xs (mD ds rs r all) (more||decide ((all.getD (atR ds r) []).length<(eF (all.getD (atR ds r) []) (fE ds rs (ea r) all)).length))
def jX(g:List Int)(br:Nat):Nat->List RL->List RL
 |0,all=>all
 |n+1,all=>bif (dB ds rs g br rs all false).2 then jX g br n (dB ds rs g br rs all false).1 else(dB ds rs g br rs all false).1
def jA br(gs:List _) all:=gs.foldl (fun all g=>jX ds rs g br 99 all) all
end
structure nM(ds rs:List AV):Prop where
 s:nW ds rs
 c:(mi ds rs).2=0
variable {ds rs:List AV}
theorem nM.at(h:nM ds rs){r}(hr:r∈rs):(0<=bH (ea r).rel ds/\bH (ea r).rel ds<ds.length)/\atR ds r<ds.length:=by
 have:=(sJ h.c hr).1
 grind [ea,atR]
theorem SO:uU []:=fun _ hx=>nomatch hx
theorem IE(h:nM ds rs){r}(hr:r∈rs){all}(hA:jB ds all):jU (fE ds rs (ea r) all)/\ec (fE ds rs (ea r) all)=true/\∀x,x∈fE ds rs (ea r) all->x.length=EC ds (atR ds r):=by
 have hn:jU (tR (Pm ds rs (ea r) _) (cW (aM (ea r))) _):=B1 (HC hA.v) _ SO;obtain⟨h1,h2,h3⟩:=mY hn;refine⟨h3,h1,fun x hx=>?_⟩;rw[Bm _ ((h2 x).1 hx)];have:=Na (Ih h.c hr).1
 rw[show(aM _).head.l.length=(ea r).hl.length from er _] at this;exact this
theorem rX{all:List RL}{i}(h:i<all.length):all.getD i []∈all:=by grind
theorem vf(h:nM ds rs){r}(hr:r∈rs){all}(hA:jB ds all):jB ds (mD ds rs r all)/\dd all<=dd (mD ds rs r all)/\dd (mD ds rs r all)+(all.getD (atR ds r) []).length=dd all+(eF (all.getD (atR ds r) []) (fE ds rs (ea r) all)).length:=by
 obtain⟨g1,g2,g3⟩:=IE h hr hA;have hi:atR ds r<all.length:=by rw[hA.len];exact(h.at hr).2
 have hm:=rX hi;have ht:=I3 all (atR ds r) (eF (all.getD (atR ds r) []) (fE ds rs (ea r) all)) hi;have hu:=sC (all.getD (atR ds r) []) (fE ds rs (ea r) all);refine⟨⟨?_,?_,?_,?_⟩,?_,ht⟩
 ·rw[mD,List.length_set];exact hA.len
 ·intro L hL
  rcases List.mem_or_eq_of_mem_set hL with hL|rfl
  ·exact hA.v L hL
  ·intro x hx
   rcases(jq (hA.v _ hm) g1).1 hx with hx|hx
   ·exact hA.v _ hm x hx
   ·exact g1 x hx
 ·intro L hL
  rcases List.mem_or_eq_of_mem_set hL with hL|rfl
  ·exact hA.r L hL
  ·exact oi (hA.v _ hm) g1 (hA.r _ hm) g2
 ·intro i x hx
  by_cases e:atR ds r=i
  ·subst e
   rw[mD,List.getD_eq_getElem?_getD,List.getElem?_set_self hi] at hx;rcases(jq (hA.v _ hm) g1).1 hx with hx|hx
   ·exact hA.w _ x hx
   ·exact g3 x hx
  ·rw[mD,List.getD_eq_getElem?_getD,List.getElem?_set_ne e,←List.getD_eq_getElem?_getD] at hx
   exact hA.w i x hx
 ·unfold mD;omega
theorem ry(h:nM ds rs) g br: ∀xs all m,(∀r,r∈xs->r∈rs)->jB ds all->
  jB ds (dB ds rs g br xs all m).1/\dd all<=dd (dB ds rs g br xs all m).1/\((dB ds rs g br xs all m).2=true->m=true\/dd all<dd (dB ds rs g br xs all m).1)/\
  (dd (dB ds rs g br xs all m).1<=br->dB ds rs g (br+1) xs all m=dB ds rs g br xs all m)
 |[],all,m,_,hA=>⟨hA,Nat.le_refl _,fun h=> .inl h,fun _=>rfl⟩
 | r::xs,all,m,hx,hA=>by
  rw[dB,dB];by_cases c:br<dd all
  ·grind
  ·rw[an6 c,an6 (show ¬ br+1<dd all by omega),an7,an7]
   cases hg: !g.contains (bH (ea r).rel ds) with
   |true=>exact ry h g br xs all m (fun r hr=>hx r (by simp[hr])) hA
   |false=>
    obtain⟨s1,s2,s3⟩:=vf h (hx r (by simp)) hA;obtain⟨t1,t2,t3,t4⟩:=ry h g br xs (mD ds rs r all) (m||decide ((all.getD (atR ds r) []).length<(eF (all.getD (atR ds r) []) (fE ds rs (ea r) all)).length)) (fun r hr=>hx r (by simp[hr])) s1
    grind
theorem IV(h:nM ds rs) g br: ∀n all,jB ds all->
  jB ds (jX ds rs g br n all)/\dd all<=dd (jX ds rs g br n all)/\(dd (jX ds rs g br n all)<=br->jX ds rs g (br+1) n all=jX ds rs g br n all)
 |0,all,hA=>⟨hA,Nat.le_refl _,fun _=>rfl⟩
 | n+1,all,hA=>by
  obtain⟨t1,t2,t3,t4⟩:=ry h g br rs _ false (by simp) hA;rw[jX,jX];cases hm:(dB ds rs g _ rs all _).2 with
  |true=>
   obtain⟨u1,u2,u3⟩:=IV h g br n _ t1
   grind
  |false=>
   grind
theorem HL(h:nM ds rs) br: ∀gs all,jB ds all->
  jB ds (jA ds rs br gs all)/\dd all<=dd (jA ds rs br gs all)/\(dd (jA ds rs br gs all)<=br->jA ds rs (br+1) gs all=jA ds rs br gs all)
 |[],all,hA=>⟨hA,Nat.le_refl _,fun _=>rfl⟩
 |g::gs,all,hA=>by
  obtain⟨t1,t2,t3⟩:=IV h g br 99 _ hA;obtain⟨u1,u2,u3⟩:=HL h br gs _ t1
  grind [jA]
end Go.Proofs.YtioeffnadipbaaaGreatDoor
namespace Go.Proofs.YtioeffnadipbaaaGreatDoor
open Go Go.Dn Go.Rl Go.Proofs
attribute [local irreducible] a7 vc
set_option maxRecDepth 20000
structure Lj where
 ds:List AV
 rs:List AV
 r:dh
 all:List RL
def Lj.V(a:Lj):=tR (Pm a.ds a.rs a.r a.all) (cW (aM a.r)) []
def KD(a:Lj):List AV×List Dn.Obj:=([fq a.ds a.rs,au a.r, .ak 0 0 (a8 a.all).length],[.row 51 (a8 a.all)])
structure qM(a:Lj):Prop where
 o:OkR a.r
 x:Sp (Pm a.ds a.rs a.r a.all)
 f:xe a.V
def SR(a:Lj):Out (AV×List Dn.Obj):= .one (.ah 70 (rws (fE a.ds a.rs a.r a.all)),[.row 51 (a8 a.all)])
theorem cGv κ:bg (BGp κ).E 12 50 (aO KD qM SR):=by
 refine aQ ?_;rintro⟨ds,rs,r,all⟩ K hs ho;have hf:=hs.f
 replace ho:K (.ah 70 (rws (eT (Lj.V ⟨ds,rs,r,all⟩)))) [.row 51 (a8 all)]:=ho
 refine Eq.mpr (yGv κ ds rs (a8 all) r K) ⟨r,rfl,hs.o,⟨Pm ds rs r all,[],0,[]⟩,rfl,⟨hs.x,Nat.zero_le _,?_⟩,ae.2 ⟨fun h=>⟨[],rfl,⟨Nat.zero_le _,fun r hr=>(nomatch hr),fun r hr=>(nomatch hr)⟩,?_⟩,fun h=>⟨_,?_,hf,ho⟩⟩⟩
 ·have:=hf.n
  show 0+(Lj.V ⟨ds,rs,r,all⟩).length<=100000000
  omega
 ·have h:(Lj.V ⟨ds,rs,r,all⟩).isEmpty=true:=h
  rw[List.isEmpty_iff] at h;rw[h] at ho;exact ho
 ·rw[List.nil_append,ao2,←dU,List.take_length];rfl
noncomputable def V2 κ:=(BGp κ).call (cGv _)
def gQ(xs:List _):=(xs.map fun x=>(ag x).length).sum
theorem sG xs ys:gQ (xs++ys)=gQ xs+gQ ys:=by simp[gQ]
theorem ou all:gQ (a8 all)=dd all:=by
 unfold gQ dd a8;rw[List.map_map];congr 1
 exact List.map_congr_left fun L _=>dU L
abbrev Wp xs(i:Nat):=sp 18 [(3, .int (gQ (xs.take i))),(6, .ah 51 xs),(7, .int xs.length),(8, .int i)] []
theorem xTo κ xs i I N K:(vc (V2 κ).E 12 47 none 0 (ad (Pr κ).toProgram 47 3) (Wp xs i) (bh (V2 κ).E 47 3 0 I N K))=(
 letI a:=IntKind.wrap IntKind.i64
 letI b:=(↑i:Int)<(↑(xs.length):Int)
 aq (decide b) (aW (true&&decide b) (∃(e0:Nat),e0<N/\I e0 (sp 18 [(3,AV.int (a ((↑(gQ (List.take i xs)):Int)+
 (↑(List.length (ag (nth xs (Int.toNat (↑i:Int))))):Int)))),(6,AV.ah 51 xs),(7,AV.int (↑(xs.length):Int)),(8,AV.int (a ((↑i:
 Int)+(1:Int))))] []))) (K (Exit.exit 0) (sp 18 [(3,AV.int (↑(gQ (List.take i xs)):Int))] []))):=by kernel_rfl
abbrev ATo:=List AV×Nat
abbrev O3(x:ATo):S:=Wp x.1 x.2
def Oi(x:ATo):=x.2<=x.1.length/\x.1.length<=100000/\gQ x.1<=1000000000
def XU(x:ATo):Out (Exit×S):= .one (.exit 0,sp 18 [(3, .int (gQ x.1))] [])
theorem lTo κ:aR (V2 κ).E 12 47 3 (aG 0 O3 Oi XU):=by
 refine aD (fun x=>x.1.length - x.2) ?_;rintro⟨xs,i⟩ K ⟨h1,h2,h3⟩ ho;simp only at h1 h2 h3;rw[show(V2 κ).E.P=Pr κ from rfl];refine Eq.mpr (xTo κ xs i _ _ K) ?_;simp only[Int.toNat_natCast];rw[ae,an2,an4];refine⟨fun h=>?_,fun h=>?_⟩
 ·have hi:i<xs.length:=by omega
  have hs:gQ (xs.take (i+1))=gQ (xs.take i)+(ag (nth xs i)).length:=by
   rw[List.take_add_one,sG,aX xs i hi];simp[gQ,hi]
  have hle:gQ (xs.take (i+1))<=gQ xs:=by
   have:=sG (xs.take (i+1)) (xs.drop (i+1))
   rw[List.take_append_drop] at this;omega
  refine ai.2 ⟨by simp;omega,_,?_,⟨xs,i+1⟩,?_,⟨hi,h2,h3⟩,rfl,ho⟩
  ·simp only;omega
  ·simp only[O3,Wp]
   grind [az,gQ,ag,nth]
 ·have ht:xs.take i=xs:=List.take_of_length_le (by omega)
  simp only[ht];exact ho
noncomputable def Us κ:=(V2 κ).loop (lTo _)
theorem yTo κ xs K:(a7 (Us κ).E 12 47 [.ah 51 xs] [] K)=(
 letI a:=Pg.toProgram (Env.P (EB.E (V2 κ)))
 ad a 47 3=ad a 47 3/\∃(e0:ATo),sp 18 [(3,AV.int 0),(6,AV.ah 51 xs),(7,AV.int (↑(xs.length):Int)),(8,AV.int 0)] []=O3 e0/\Oi e0/\K (AV.int
 (↑(gQ e0.1):Int)) []):=by kernel_rfl
def gTo:List AV->Option (Bool×AV)
 |[.ah 51 xs]=>some (decide (xs.length<=100000)&&decide (gQ xs<=1000000000), .int (gQ xs))
 |_=>none
theorem pTo κ:cj (Us κ).E 12 47 gTo:=by
 intro args x hh;unfold gTo at hh;split at hh
 ·rename_i xs
  simp   at hh;obtain⟨⟨h1,h2⟩,rfl⟩:=hh;exact⟨_,rfl,rfl,Eq.mpr (yTo κ xs _) ⟨rfl,⟨xs,0⟩,rfl,⟨Nat.zero_le _,h1,h2⟩,rfl⟩⟩
 grind
noncomputable def V0 κ:=EB.JB ((Us κ).pure (pTo _)) [47]
structure Uk where
 A:List AV
 B:List AV
 xs:List AV
abbrev og(A B:List AV):List Dn.Obj:=[.box 51 (.ah 70 A), .box 51 (.ah 70 B)]
abbrev RE(x:Uk):=sp 52 [(0, .cf 0),(1, .ptr 1 0 [] 0),(2, .ptr 2 0 [] 0)] (.ext (some x.xs)::og x.A x.B)
theorem xBo(κ:Kp) x I N K:(vc (V0 κ).E 12 82 none 3 (ad (Pr κ).toProgram 82 0) (RE x) (bh (V0 κ).E 82 0 3 I N K))=(
 letI a:=AV.ptr
 letI b:=AV.agg
 letI c:=AV.bool
 letI d:=Obj.ext
 letI e:=Exit.ret
 letI f:=AV.aJ
 letI g:=AV.cf
 letI j:=ag (nth x.A 0)
 letI h:=x.A.length
 letI m:=List.drop 1 (List.take (Int.toNat (↑h:Int)) x.A)
 letI s:=true&&decide ((1:Int)<=(↑h:Int))&&decide ((↑h:Int)<=(↑h:Int))
 letI r:=true&&decide ((0:Int)<(↑h:Int))
 letI i:=x.B.length
 letI n:=List.drop 1 (List.take (Int.toNat (↑i:Int)) x.B)
 letI u:=true&&decide ((1:Int)<=(↑i:Int))&&decide ((↑i:Int)<=(↑i:Int))
 letI t:=true&&decide ((0:Int)<(↑i:Int))
 letI k:=ag (nth x.B 0)
 letI l:=decide (bC j k<=(0:Int))
 letI o:=decide (bC j k>=(0:Int))
 letI p:=sp 52 [] (d none::og m x.B)
 letI q:=sp 52 [] (d none::og x.A n)
 letI v:=aq ((↑i:Int)==(0:Int)) (aW r (aW s (∃(e1:List AV),x.xs=f [AV.ah 72 j,b [c true,c false]]::e1/\(∃(e0:
  Nat),e0<N/\I e0 (sp 52 [(0,g 0),(1,a 1 0 [] 0),(2,a 2 0 [] 0)] (d (some e1)::og m x.B)))/\K e p))) (aq ((↑h:Int)
  ==(0:Int)) (aW t (aW u (∃(e1:List AV),x.xs=f [AV.ah 72 k,b [c false,c true]]::e1/\(∃(e0:Nat),e0<N/\I e0 (sp 52
  [(0,g 0),(1,a 1 0 [] 0),(2,a 2 0 [] 0)] (d (some e1)::og x.A n)))/\K e q))) (aW r (aW t (aW (decide (List.length j<=
  9223372036854775807)) (aq o (aW t (aW u (aq l (aW r (aW s (∃(e1:List AV),x.xs=f [AV.ah 72 j,b [c l,c o]]::e1/\(∃(e0:
  Nat),e0<N/\I e0 (sp 52 [(0,g 0),(1,a 1 0 [] 0),(2,a 2 0 [] 0)] (d (some e1)::og m n)))/\K e (sp 52 [] (d none::
  og m n))))) (∃(e1:List AV),x.xs=f [AV.ah 72 k,b [c l,c o]]::e1/\(∃(e0:Nat),e0<N/\I e0 (sp 52 [(0,g 0),(1,
  a 1 0 [] 0),(2,a 2 0 [] 0)] (d (some e1)::og x.A n)))/\K e q)))) (aq l (aW r (aW s (∃(e1:List AV),x.xs=f [AV.ah 72
  j,b [c l,c o]]::e1/\(∃(e0:Nat),e0<N/\I e0 (sp 52 [(0,g 0),(1,a 1 0 [] 0),(2,a 2 0 [] 0)] (d (some e1)
  ::og m x.B)))/\K e p))) (∃(e1:List AV),x.xs=f [AV.nil,b [c l,c o]]::e1/\(∃(e0:Nat),e0<N/\I e0 (sp 52 [(0,
  g 0),(1,a 1 0 [] 0),(2,a 2 0 [] 0)] (d (some e1)::og x.A x.B)))/\K e (sp 52 [] (d none::og x.A x.B)))))))))
 aq (decide ((↑h:Int)>(0:Int))) v (aq (decide ((↑i:Int)>(0:Int))) v (K (Exit.exit 0) (sp 52 [] (d (some x.xs)::og x.A x.B))))):=by kernel_rfl
def Qs(l:List BI):List AV:=l.map fun x=> .aJ [.ah 72 x.1, .agg [.bool x.2.1, .bool x.2.2]]
def wZ(x:Uk):=x.xs=Qs (jP (dm x.A) (dm x.B))/\fD x.A=true/\fD x.B=true
def TP(_:Uk):Out (Exit×S):= .all (fun _:Bool×List _×List _=>True) fun y=> .aq y.1
 (.one (.exit 0,sp 52 [] (.ext (some [])::og y.2.1 y.2.2)))
 (.one (.ret,sp 52 [] (.ext none::og y.2.1 y.2.2)))
theorem O4 p q:aq true p q=p:=rfl
theorem Hh p q:aq false p q=q:=rfl
theorem Mh(p:Prop):aW true p=p:=rfl
theorem pV{a A}(h:fD (a::A)=true):fD A=true:=by
 grind [fD]
theorem Ov(a:AV) A:decide (((a::A).length:Int)>0)=true/\(((a::A).length:Int)==0)=false/\(true&&decide ((0:Int)<(a::A).length))=true/\(true&&decide (1<=((a::A).length:Int))&&decide ((a::A).length<=((a::A).length:Int)))=true:=by grind
theorem lBo κ:aR (V0 κ).E 12 82 0 (aG 3 RE wZ TP):=by
 refine aD (fun x=>x.A.length+x.B.length) ?_;rintro⟨A,B,xs⟩ K ⟨h1,h2,h3⟩ ho;simp only at h1 h2 h3;rw[show(V0 κ).E.P=Pr κ from rfl];refine Eq.mpr (xBo κ ⟨A,B,xs⟩ _ _ K) ?_;have next: ∀(A' B':List AV) (v:AV),fD A'=true->fD B'=true->A'.length+B'.length<A.length+B.length->xs=v::Qs (jP (dm A') (dm B'))->∃rest,xs=v::rest/\(∃m,m<A.length+B.length/\ei RE wZ TP (fun x=>x.A.length+x.B.length) K m (sp 52 [(0, .cf 0),(1, .ptr 1 0 [] 0),(2, .ptr 2 0 [] 0)] (.ext (some rest)::og A' B')))/\K Exit.ret (sp 52 [] (.ext none::og A' B')):=
  fun A' B' v f1 f2 hl hx=>⟨_,hx,⟨_,hl,⟨A',B',_⟩,rfl,⟨rfl,f1,f2⟩,rfl,ho⟩,ho (false,A',B') trivial⟩
 simp only[Int.toNat_natCast,List.take_length];have e0:decide (((([]:List AV).length:Nat):Int)>0)=false:=rfl;have e1:((((([]:List AV).length:Nat)):Int)==0)=true:=rfl;cases A with
 | nil=>
  cases B with
  |nil=>
   rw[show xs=[] from h1];simp only[e0,e1,Hh];exact ho (true,[],[]) trivial
  |cons b B=>
   obtain⟨b1,b2,b3,b4⟩:=Ov b B;simp only[e0,e1,b1,b2,b4,O4,Hh,Mh];exact next [] B _ h2 (pV h3) (by simp) (by rw[h1];cases B<;>rfl)
 | cons a A=>
  obtain⟨a1,a2,a3,a4⟩:=Ov a A;cases B with
  |nil=>
   simp only[e1,a1,a2,a4,O4,Hh,Mh];exact next A [] _ (pV h2) h3 (by simp) (by rw[h1];rfl)
  | cons b B=>
   obtain⟨b1,b2,b3,b4⟩:=Ov b B;simp only[a1,a2,a4,b1,b2,b4,Bool.and_self,O4,Hh,Mh];have ha:=lS h2 0;refine ai.2 ⟨by rw[an2];omega,?_⟩;have hb:jP (dm (a::A)) (dm (b::B))=bif decide (bC (ag a) (ag b)<0) then(ag a,true,false)::jP (dm A) (dm (b::B)) else bif decide (bC (ag a) (ag b)=0) then(ag a,true,true)::jP (dm A) (dm B) else(ag b,false,true)::jP (dm (a::A)) (dm B):=rfl
   rw[hb] at h1;rw[show nth (a::A) 0=a from rfl,show nth (b::B) 0=b from rfl];rcases Int.lt_trichotomy (bC (ag a) (ag b)) 0 with c|c|c
   ·rw[an8 c] at h1
    rw[an6 (show ¬ bC (ag a) (ag b)>=0 by omega),an8 (show bC (ag a) (ag b)<=0 by omega)];exact next A (b::B) _ (pV h2) h3 (by simp) h1
   ·rw[an6 (show ¬ bC (ag a) (ag b)<0 by omega),an8 c] at h1
    rw[an8 (show bC (ag a) (ag b)>=0 by omega),an8 (show bC (ag a) (ag b)<=0 by omega)];exact next A B _ (pV h2) (pV h3) (by simp;omega) h1
   ·rw[an6 (show ¬ bC (ag a) (ag b)<0 by omega),an6 (show ¬ bC (ag a) (ag b)=0 by omega)] at h1
    rw[an8 (show bC (ag a) (ag b)>=0 by omega),an6 (show ¬ bC (ag a) (ag b)<=0 by omega)];exact next (a::A) B _ h2 (pV h3) (by simp) h1
noncomputable def V9 κ:=(V0 κ).loop (lBo _)
theorem yBo κ(x:Uk) K:(a7 (V9 κ).E 12 82 [.cf 0, .ptr 1 0 [] 0, .ptr 2 0 [] 0] (.ext (some x.xs)::og x.A x.B) K)=(
 letI a:=Pg.toProgram (Env.P (EB.E (V0 κ)))
 ad a 82 0=ad a 82 0/\∃(e1:Uk),sp 52 [(0,AV.cf 0),(1,AV.ptr 1 0 [] 0),(2,AV.ptr 2 0 [] 0)] (Obj.ext (some x.xs)::og x.A x.B)=RE e1/\wZ e1/\∀
 (e0:Bool×List AV×List AV),True->aq e0.1 (K (AV.aJ []) (Obj.ext (some [])::og e0.2.1 e0.2.2)) (K (AV.aJ []) (Obj.ext none::og e0.2.1 e0.2.2))):=by kernel_rfl
def ZV(x:Uk):List AV×List Dn.Obj:=([.cf 0, .ptr 1 0 [] 0, .ptr 2 0 [] 0], .ext (some x.xs)::og x.A x.B)
def SK(_:Uk):Out (AV×List Dn.Obj):= .all (fun st'=>sv st') fun st'=> .one (.aJ [],st')
theorem cBp κ:bg (V9 κ).E 12 82 (aO ZV wZ SK):=by
 refine aQ ?_;intro x K h1 ho;refine Eq.mpr (yBo _ x K) ⟨rfl,x,rfl,h1,fun y _=>?_⟩;obtain⟨b,A',B'⟩:=y;cases b
 ·exact ho _ trivial
 ·exact ho _ trivial
noncomputable def W5 κ:=EB.inline ((V9 κ).call (cBp _)) [38]
abbrev B9:List AV:=[.ptr 1 0 [] 0, .ptr 2 0 [] 0]
noncomputable abbrev St(A B:List AV):Dn.Obj:= .loop (iO Tryz.prog 15 5 .ready none (ik (bO 27) [(0, .ah 70 A),(1, .ah 70 B),(4, .nil),(5, .int 0),(6, .ptr 0 0 [] 0),(8, .ah 70 A),(9, .bool (ec (dm A))),(10, .bool !ec (dm A)),(11, .bool false),(12, .ah 70 B),(13, .bool (ec (dm B))),(14, .bool !ec (dm B)),(15, .bool false),(16, .ah 70 A),(17, .ah 70 B),(18, .bm 82 B9)]))
noncomputable abbrev ue A B:=[.box 51 .nil, .box 51 (.ah 70 A), .box 51 (.ah 70 B),St A B]
noncomputable abbrev FV A B W:=[.box 51 (.ak 4 0 W.length), .dead, .dead,St A B, .row 70 (rws W)]
theorem sUn κ A B Q:(tidy (Pr κ).toProgram 4 (dy (ue A B) (b8 (ue A B) B9)) Q)=(
 Q [Obj.box 51 (AV.ak 4 0 0),Obj.dead,Obj.dead,St A B,Obj.row 70 []]):=by kernel_rfl
theorem rUn κ A B t W p q Q(K2:List Dn.Obj->Prop):(gu (vc (W5 κ).E 12) 3 [.ah 72 t, .agg [.bool p, .bool q]] (FV A B W) (fun r st''=>match r with| .lit (.bool true)=>tidy (Pr κ).toProgram 4 st'' Q| .lit (.bool false)=>K2 st''|_=>False))=(
 ∃(a:List AV),([AV.ah 72 t],[])=Q9 a/\a.length<=100000000/\aW (decide ((W.length+1+1)*25<=70368744177664)) (Q [Obj.box 51 (AV.ak 4 0
 (W.length+1)),Obj.dead,Obj.dead,St A B,Obj.row 70 (List.take W.length (rws W)++[AV.ah 72 a])])):=by kernel_rfl
theorem oUn A B:my (ue A B) B9=true:=by kernel_rfl
theorem kUn A B xs:(AV.cf 0::fP (iW (b8 (ue A B) B9)) B9,Obj.ext (some xs)::gx (iW (b8 (ue A B) B9)) (gz (ue A B) (b8 (ue A B) B9)))=([.cf 0, .ptr 1 0 [] 0, .ptr 2 0 [] 0], .ext (some xs)::og A B):=by kernel_rfl
structure UF(A B:List AV):Prop where
 a:fD A=true
 b:fD B=true
 n:(jP (dm A) (dm B)).length<=100000000
 s: ∀x,x∈jP (dm A) (dm B)->x.1.length<=100000000
noncomputable def aa8:eH:=fun caps st K=>∃A B,(caps,st)=(B9,ue A B)/\UF A B/\K (FV A B (eF (dm A) (dm B)))
theorem Kh:aa8.gw:=by
 rintro caps st K K' hK ⟨A,B,h1,h2,h3⟩;exact⟨A,B,h1,h2,hK _ h3⟩
theorem Vd κ args st K(h:aO ZV wZ SK args st K):(W5 κ).E.call 82 args st K:=h
theorem gUn κ:jb (W5 κ).E 12 82 aa8:=by
 rintro caps st K ⟨A,B,h1,hf,h5⟩;obtain⟨rfl,rfl⟩:=Prod.mk.inj (show(caps,st)=(B9,ue A B) from h1);refine⟨Qs (jP (dm A) (dm B)),fun items st'=>∃E1 E2:List BI,items=Qs E2/\st'=FV A B (E1.map (·.1))/\E1++E2=jP (dm A) (dm B),⟨oUn A B,?_,?_,?_,?_⟩⟩
 ·refine Vd κ _ _ _ ⟨⟨A,B,Qs (jP (dm A) (dm B))⟩,?_,⟨rfl,hf.a,hf.b⟩,fun st' h=>h⟩
  rw[kUn];rfl
 ·rw[show(W5 κ).E.P=Pr κ from rfl,show(ue A B).length=4 from rfl,sUn]
  exact⟨[],_,rfl,rfl,List.nil_append _⟩
 ·rintro us rest st' ⟨E1,E2,e1,rfl,e3⟩
  cases E2 with
  |nil=>cases e1
  | cons x E2=>
   obtain⟨t,p,q⟩:=x;obtain⟨hu,rfl⟩:=List.cons.inj e1;obtain rfl:=AV.aJ.inj hu;rw[show(W5 κ).E.P=Pr κ from rfl,show(ue A B).length=4 from rfl,show(4:Nat) - 1=3 from rfl];have hn:=hf.n;rw[←e3] at hn;simp only[ao7,List.length_cons] at hn;have ht:t.length<=100000000:=hf.s (t,p,q) (by rw[←e3];simp);have next: ∃F1 F2:List BI,Qs E2=Qs F2/\FV A B (E1.map (·.1)++[t])=FV A B (F1.map (·.1))/\F1++F2=jP (dm A) (dm B):=
    ⟨E1++[(t,p,q)],E2,rfl,by rw[List.map_append];rfl,by rw[←e3];simp⟩
   refine Eq.mpr (rUn κ A B t (E1.map (·.1)) p q (fun st'=>∃F1 F2:List BI,Qs E2=Qs F2/\st'=FV A B (F1.map (·.1))/\F1++F2=jP (dm A) (dm B)) K) ⟨t,rfl,ht,ai.2 ⟨?_,?_⟩⟩
   ·rw[an2,List.length_map];omega
   ·have e:List.take (E1.map (·.1)).length (rws (E1.map (·.1)))++[AV.ah 72 t]=rws (E1.map (·.1)++[t]):=by
     rw[←vl,←dU (E1.map (·.1)),List.take_length]
    rw[e];simp only[FV,ao7,List.length_singleton] at next;exact next
 ·rintro st' ⟨E1,E2,e1,rfl,e3⟩
  obtain rfl:E2=[]:=by cases E2 with|nil=>rfl|cons _ _=>cases e1
  rw[List.append_nil] at e3;rw[e3];exact h5
noncomputable def Vc κ:=(W5 _).range 15 5 Kh (gUn κ) fun f=>iS f (82::LI)
theorem yUn κ A B K:(a7 (Vc κ).E 12 15 [.ah 70 A, .ah 70 B] [] K)=(
 letI a:=K (AV.aJ [AV.nil,AV.int 80]) []
 aW (fD A) (aq (!ec (dm A)) a (aW (fD B) (aq (!ec (dm B)) a (∃(e1:List AV),∃(e0:List AV),([AV.ptr 1 0 [] 0,AV.ptr 2 0 [] 0],ue A B)=([AV.ptr 1 0 []
 0,AV.ptr 2 0 [] 0],ue e1 e0)/\UF e1 e0/\K (AV.aJ [AV.ak 0 0 (List.length (eF (dm e1) (dm e0))),AV.int 0]) [Obj.row 70 (rws (eF (dm e1) (dm e0)))]))))):=by kernel_rfl
abbrev WN:=List AV×List AV
def QD(x:WN):List AV×List Dn.Obj:=([.ah 70 x.1, .ah 70 x.2],[])
structure wh(x:WN):Prop where
 f:UF x.1 x.2
 a:ec (dm x.1)=true
 b:ec (dm x.2)=true
def Zf(x:WN):Out (AV×List Dn.Obj):= .one (.aJ [.ak 0 0 (eF (dm x.1) (dm x.2)).length, .int 0],[.row 70 (rws (eF (dm x.1) (dm x.2)))])
theorem cUn κ:bg (Vc κ).E 12 15 (aO QD wh Zf):=by
 refine aQ ?_;rintro⟨A,B⟩ K ⟨hf,h1,h2⟩ ho;refine Eq.mpr (yUn _ A B K) (ai.2 ⟨hf.a,?_⟩);rw[h1];refine ai.2 ⟨hf.b,?_⟩;rw[h2];exact⟨A,B,rfl,hf,ho⟩
noncomputable def BUn κ:=((Vc κ).call (cUn _)).calm [15,50]
end Go.Proofs.YtioeffnadipbaaaGreatDoor
