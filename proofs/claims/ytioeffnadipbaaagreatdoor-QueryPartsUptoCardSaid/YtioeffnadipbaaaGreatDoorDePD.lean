import Derived.Test.YtioeffnadipbaaaGreatDoorDePC
import Derived.Test.YtioeffnadipbaaaGreatDoorDePB
namespace Go.Proofs.YtioeffnadipbaaaGreatDoor
open Go Go.Dn Go.Rl Go.Proofs
def cu(e:cI)(ts:List AV):List AV:=ts.map fun t=>gz (cX e (dM t).tm)
def gp(row:List AV):List AV->List AV->cI->cI
 |n::ns,c::cs,f=>gp row ns cs (f.put (toStr n) (uv (nth row (toInt c).toNat)))
 |_,_,f=>f
def qh(f:cI)(row:List AV):List AV->List AV->Bool
 |n::ns,c::cs=>bif !lx (f.get (toStr n)) (nth row (toInt c).toNat) then false else qh f row ns cs
 |_,_=>true
def By(d:AV)(e:cI)(row:List AV):Option cI:=
 bif qh (gp row (aa (af d 6)) (aa (af d 5)) e) row (aa (af d 8)) (aa (af d 7)) then some (gp row (aa (af d 6)) (aa (af d 5)) e) else none
def ug(d:AV)(rows:List AV)(e:cI):List cI:=(k9 (dS rows) (aa (af d 3)) (cu e (aa (af d 4)))).filterMap (By d e)
def yX(na:Int)(y:AT)(f:cI):Int:=bif na != 7 then(cX f y.tm).n else 1
def Cz(na:Int)(V:List AV):Int:=bif na==7||na==8 then Ku 0 V else bif (V.length:Int)==0 then 0 else bif na==9 then JB (toInt (nth V 0)) (V.drop 1) else Jz (toInt (nth V 0)) (V.drop 1)
def GN(na:Int)(V:List AV):Bool:=(na==7||na==8)|| !((V.length:Int)==0)
def kX(q:QD)(ins del:List AV):List Nat->cI->RL
 |[],e=>[RS q.out e]
 | i::is,e=>
  let d:=nth q.steps i
  let M:=ug d (eS q ins del i) e
  let V:=iA (M.map (yX (toInt (af d 1)) (dM (af d 11))))
  bif toInt (af d 0)==1 then M.flatMap (kX q ins del is)
  else bif toInt (af d 0)==2 then(bif M.isEmpty then kX q ins del is e else[])
  else bif toInt (af d 0)==4 then kX q ins del is (e.put (toStr (af d 9)) (cX e (dM (af d 10)).tm))
  else bif toInt (af d 0)==3 then(bif qs (toInt (af d 1)) (cX e (dM (af d 10)).tm) (cX e (dM (af d 11)).tm) then kX q ins del is e else[])
  else bif GN (toInt (af d 1)) V then
   (bif decide (toStr (af d 9)=ByteArray.mk #[]) then(bif (cX e (dM (af d 10)).tm).n==Cz (toInt (af d 1)) V then kX q ins del is e else[])
    else kX q ins del is (e.put (toStr (af d 9)) ⟨false,Cz (toInt (af d 1)) V,ByteArray.mk #[]⟩))
  else[]
theorem nj{b:Bool}{p q p1 q1 p2 q2:RL}{r:List AV}(h1:r∈p↔r∈p1\/r∈p2)(h2:r∈q↔r∈q1\/r∈q2):(r∈bif b then p else q)↔(r∈bif b then p1 else q1)\/r∈bif b then p2 else q2:=by
 cases b
 ·exact h2
 ·exact h1
theorem A9{r:List AV}:r∈([]:RL)↔r∈([]:RL)\/r∈([]:RL):=by simp
theorem wE{q q':QD}{ins d d':List AV}(ho:q.out=q'.out)(hs:q.steps=q'.steps): ∀(is:List Nat) (e:cI),(∀i,i∈is->eS q ins d i=eS q' ins d' i)->kX q ins d is e=kX q' ins d' is e
 |[],e,_=>by rw[kX,kX,ho]
 |i::is,e,h=>by
  have ih:kX q ins d is=kX q' ins d' is:=funext fun e=>wE ho hs is e fun k hk=>h k (by simp[hk])
  rw[kX,kX,ih,hs,h i (by simp)]
theorem Dt{q:QD}{ins d d':List AV}{i:Nat}(h:(i:Int)≠q.delta):eS q ins d i=eS q ins d' i:=by
 unfold eS;rw[show((i:Int)==q.delta)=false by simpa using h];rfl
theorem OE(d:AV)(A B:List AV)(e:cI):ug d (A++B) e=ug d A e++ug d B e:=by
 simp only[ug,dS,k9,List.map_append,List.filter_append,List.filterMap_append]
theorem y3{q:QD}{ins A B:List AV}{j:Nat}(hj:q.delta=j)(h1:toInt (af (nth q.steps j) 0)=1): ∀(is:List Nat) (e:cI) (r:List AV),is.Nodup->(r∈kX q ins (A++B) is e↔r∈kX q ins A is e\/r∈kX q ins B is e)\/ ¬ j∈is
 |[],e,r,_=> .inr (by simp)
 | i::is,e,r,hn=>by
  obtain⟨n1,n2⟩:=List.nodup_cons.1 hn;by_cases e1:i=j
  ·subst e1
   have off: ∀d d',kX q ins d is=kX q ins d' is:=fun d d'=>funext fun e=>wE rfl rfl is e fun k hk=>Dt fun c=>n1 (by
    have:k=i:=by omega
    subst this;exact hk)
   refine .inl ?_;rw[kX,kX,kX];have rw1: ∀d,eS q ins d i=d:=fun d=>by unfold eS;rw[hj];simp
   simp only[rw1,h1,off (A++B) [],off A [],off B []];show r∈List.flatMap _ _↔r∈List.flatMap _ _\/r∈List.flatMap _ _
   rw[OE,List.flatMap_append,List.mem_append]
  ·have ho: ∀d,eS q ins d i=eS q ins [] i:=fun d=>Dt (by rw[hj];omega)
   by_cases hm:j∈is
   ·have ih: ∀e,r∈kX q ins (A++B) is e↔r∈kX q ins A is e\/r∈kX q ins B is e:=fun e=>(y3 hj h1 is e r n2).resolve_right (fun c=>c hm)
    refine .inl ?_;rw[kX,kX,kX];simp only[ho (A++B),ho A,ho B];refine nj ?_ (nj (nj (ih _) A9) (nj (ih _) (nj (nj (ih _) A9) (nj (nj (nj (ih _) A9) (ih _)) A9))));simp only[List.mem_flatMap];exact⟨fun⟨g,h2,h3⟩=>((ih g).1 h3).imp (fun h=>⟨g,h2,h⟩) fun h=>⟨g,h2,h⟩,fun h=>h.elim (fun⟨g,h2,h3⟩=>⟨g,h2,(ih g).2 (.inl h3)⟩) fun⟨g,h2,h3⟩=>⟨g,h2,(ih g).2 (.inr h3)⟩⟩
   ·exact .inr (by rw[ap0];exact fun h=>h.elim (fun h=>e1 h.symm) hm)
def ZU(e e':cI):Prop:=e'=e\/(∃s t,e'=e.put s (cX e t))\/ ∃s n,e'=e.put s ⟨false,n,ByteArray.mk #[]⟩
theorem CC(q:QD)(ins del:List AV)(i:Nat)(is:List Nat)(e:cI):
  (toInt (af (nth q.steps i) 0)=1/\kX q ins del (i::is) e=(ug (nth q.steps i) (eS q ins del i) e).flatMap (kX q ins del is))\/kX q ins del (i::is) e=[]\/ ∃e',ZU e e'/\kX q ins del (i::is) e=kX q ins del is e':=by
 unfold ZU;rw[kX];generalize nth q.steps i=d
 cases h1:toInt (af d 0)==1 with
 |true=>exact .inl ⟨by simpa using h1,rfl⟩
 | false=>
  refine .inr ?_;cases toInt (af d 0)==2 with
  |true=>
   cases(ug d (eS q ins del i) e).isEmpty with
   |true=>exact .inr ⟨e, .inl rfl,rfl⟩
   |false=>exact .inl rfl
  | false=>cases toInt (af d 0)==4 with
   |true=>exact .inr ⟨_, .inr (.inl ⟨_,_,rfl⟩),rfl⟩
   | false=>cases toInt (af d 0)==3 with
    |true=>
     cases qs (toInt (af d 1)) (cX e (dM (af d 10)).tm) (cX e (dM (af d 11)).tm) with
     |true=>exact .inr ⟨e, .inl rfl,rfl⟩
     |false=>exact .inl rfl
    | false=>
     generalize iA (List.map (yX (toInt (af d 1)) (dM (af d 11))) (ug d (eS q ins del i) e))=V
     cases GN (toInt (af d 1)) V with
     |false=>exact .inl rfl
     | true=>cases decide (toStr (af d 9)=ByteArray.mk #[]) with
      |false=>exact .inr ⟨_, .inr (.inr ⟨_,_,rfl⟩),rfl⟩
      |true=>cases(cX e (dM (af d 10)).tm).n==Cz (toInt (af d 1)) V with
       |true=>exact .inr ⟨e, .inl rfl,rfl⟩
       |false=>exact .inl rfl
theorem Qt{e e':cI}(he:xg e)(h:ZU e e'):xg e':=by
 rcases h with rfl|⟨s,t,rfl⟩|⟨s,n,rfl⟩
 ·exact he
 ·exact vu he (Is he t)
 ·exact vu he rfl
theorem Ci{row:List AV}(hr:Bd row): ∀(ns cs:List AV) {f:cI},xg f->xg (gp row ns cs f)
 |[],_,_,h=>by unfold gp;exact h
 |_::_,[],_,h=>by unfold gp;exact h
 |n::ns,c::cs,f,h=>by
  rw[gp];exact Ci hr ns cs (vu h (Qr hr _))
def Xz(q:QD)(ins del:List AV):Prop:=∀i,iL (dS (eS q ins del i))
theorem OG{d:AV}{rows:List AV}{e g:cI}(hr:iL (dS rows))(he:xg e)(h:g∈ug d rows e):xg g:=by
 obtain⟨row,h1,h2⟩:=List.mem_filterMap.1 h;have h3:=hr row (List.mem_filter.1 h1).1;unfold By at h2;cases h4:qh (gp row (aa (af d 6)) (aa (af d 5)) e) row (aa (af d 8)) (aa (af d 7)) with
 |false=>rw[h4] at h2;cases h2
 |true=>
  rw[h4] at h2;cases h2;exact Ci h3 _ _ he
theorem GX{q:QD}{ins del:List AV}{i:Nat}{is:List Nat}{e:cI}{r:List AV}(h:r∈kX q ins del (i::is) e): ∃e',(e'∈ug (nth q.steps i) (eS q ins del i) e\/ZU e e')/\r∈kX q ins del is e':=by
 rcases CC q ins del i is e with⟨_,h1⟩|h1|⟨e',h1,h2⟩
 ·rw[h1] at h
  obtain⟨g,h2,h3⟩:=List.mem_flatMap.1 h;exact⟨g, .inl h2,h3⟩
 ·rw[h1] at h;cases h
 ·rw[h2] at h;exact⟨e', .inr h1,h⟩
theorem GY{q:QD}{ins del:List AV}(hx:Xz q ins del): ∀(is:List Nat) {e:cI},xg e->iL (kX q ins del is e)
 |[],e,he,r,hr=>by
  rw[kX,List.mem_singleton] at hr;subst hr;intro v hv;obtain⟨t,_,rfl⟩:=List.mem_map.1 hv;exact Ug (Is he _)
 |i::is,e,he,r,hr=>by
  obtain⟨e',h1,h2⟩:=GX hr;exact GY hx is (h1.elim (OG (hx i) he) (Qt he)) r h2
theorem GZ{q:QD}{ins del:List AV}: ∀(is:List Nat) {e:cI} {r:List AV},r∈kX q ins del is e->r.length=q.out.length
 |[],e,r,hr=>by
  rw[kX,List.mem_singleton] at hr;subst hr;exact List.length_map _
 |i::is,e,r,hr=>by
  obtain⟨e',_,h2⟩:=GX hr;exact GZ is h2
theorem OF(d:AV)(rows:List AV)(e:cI):(ug d rows e).length<=rows.length:=by
 refine Nat.le_trans (List.length_filterMap_le _ _) (Nat.le_trans (List.length_filter_le _ _) ?_);rw[kB];exact Nat.le_refl _
def mC(q:QD)(is:List Nat):Nat:=(is.filter fun i=>toInt (af (nth q.steps i) 0)==1).length
theorem AH{q:QD}{ins del:List AV}{N:Nat}(hN: ∀i,(eS q ins del i).length<=N)(h1:1<=N): ∀(is:List Nat) (e:cI),(kX q ins del is e).length<=N ^ mC q is
 |[],e=>by rw[kX];exact Nat.le_refl _
 | i::is,e=>by
  have hp:1<=N ^ mC q is:=Nat.one_le_pow _ _ h1;have hc:mC q is<=mC q (i::is):=by
   unfold mC;rw[List.filter_cons];split<;>simp
  have hm:N ^ mC q is<=N ^ mC q (i::is):=Nat.pow_le_pow_right h1 hc;rcases CC q ins del i is e with⟨h2,h3⟩|h2|⟨e',_,h2⟩
  ·rw[h3]
   have hl:=Nat.le_trans (OF (nth q.steps i) (eS q ins del i) e) (hN i);have hc:mC q (i::is)=mC q is+1:=by
    unfold mC;rw[List.filter_cons,if_pos (by simpa using h2)];simp
   rw[hc,Nat.pow_succ,Nat.mul_comm];exact Nat.le_trans (Cx fun g _=>AH hN h1 is g) (Nat.mul_le_mul_right _ hl)
  ·rw[h2];exact Nat.zero_le _
  ·rw[h2];exact Nat.le_trans (AH hN h1 is e') hm
end Go.Proofs.YtioeffnadipbaaaGreatDoor
namespace Go.Proofs.YtioeffnadipbaaaGreatDoor
open Go Go.Dn Go.Rl Go.Proofs
attribute [local irreducible] a8 vc
set_option maxRecDepth 20000
def QR:cO:=fun args st K=>match args,st with
 |[.ad 70 xs, .ad 3 cs, .ad 72 vs],[]=>aG (eE xs&&(decide (cs.length<=100000000)&&decide (vs.length<=100000000))) (K (.ad 70 (rws (k9 (dS xs) cs vs))) [])
 |_,_=>False
theorem zQ:QR.gA:=fun args st K K' hK h=>by
 unfold QR at h⊢;split at h
 ·exact cj (fun h=>hK _ _ h) h
 ·exact h.elim
theorem Se(κ:Kp): ∀args st K,QR args st K->bt (Pr κ) 123 args st K:=fun args st K h=>by
 refine cZ (VU κ).ok (VU κ).mono (cMx κ args st K ?_);unfold QR at h;split at h
 ·rename_i xs cs vs
  obtain⟨h1,h2⟩:=ai.1 h;simp only[an3,an2] at h1;exact⟨⟨xs,cs,vs⟩,rfl,⟨h1.1,h1.2.1,h1.2.2⟩,h2⟩
 ·exact h.elim
def yk:AV->fI
 | .agg [.lit (.bool y), .lit (.int _ n), .lit (.string s)]=>⟨y,n,s⟩
 |_=>⟨false,0,ByteArray.mk #[]⟩
def ZX:List Value->List AV->cI
 | .string k::ks,v::vs=>(k,yk v)::ZX ks vs
 |_,_=>[]
def QU:cO:=fun args st K=>match args,st with
 |[.eO 9 72 ks vs, .lit (.string s),v],[]=>(AV.eO 9 72 ks vs=et (ZX ks vs)/\v=gz (yk v))/\K (et ((ZX ks vs).put s (yk v))) []
 |_,_=>False
theorem Kh:QU.gA:=fun args st K K' hK h=>by
 unfold QU at h⊢;split at h
 ·exact⟨h.1,hK _ _ h.2⟩
 ·exact h.elim
theorem Yw(κ:Kp): ∀args st K,QU args st K->bt (Pr κ) 76 args st K:=fun args st K h=>by
 refine cZ (IB κ).ok (IB κ).mono (cWi κ args st K ?_);unfold QU at h;split at h
 ·rename_i ks vs s v
  obtain⟨⟨h1,h2⟩,h3⟩:=h;refine⟨⟨ZX ks vs,s,yk v⟩,?_,trivial,h3⟩;rw[DR,←h1,←h2]
 ·exact h.elim
def QS:cO:=fun args st K=>match args,st with
 |[.ad 70 xs],[]=>(xs=rws (dS xs)/\kq (dS xs))/\K (.ad 70 (rws (ie (dS xs)))) []
 |_,_=>False
theorem Kf:QS.gA:=fun args st K K' hK h=>by
 unfold QS at h⊢;split at h
 ·exact⟨h.1,hK _ _ h.2⟩
 ·exact h.elim
theorem Yu(κ:Kp): ∀args st K,QS args st K->bt (Pr κ) 36 args st K:=fun args st K h=>by
 refine cZ (VW κ).ok (VW κ).mono (cSo κ args st K ?_);unfold QS at h;split at h
 ·rename_i xs
  exact⟨dS xs,by rw[vd,←h.1.1],h.1.2,h.2⟩
 ·exact h.elim
def QN:cO:=fun args st K=>match args,st with
 |[.agg [.ad 43 ds, .ad 48 rs]],[]=>j2 ds rs/\K (.aK [.int (jy ds rs).1, .int (jy ds rs).2]) []
 |_,_=>False
theorem J7:QN.gA:=fun args st K K' hK h=>by
 unfold QN at h⊢;split at h
 ·exact⟨h.1,hK _ _ h.2⟩
 ·exact h.elim
theorem Yl(κ:Kp): ∀args st K,QN args st K->bt (Pr κ) 31 args st K:=fun args st K h=>by
 refine cZ (eC3 κ) (mC3 κ) (cCs κ args st K ?_);unfold QN at h;split at h
 ·rename_i ds rs
  exact⟨(ds,rs),rfl,h.1,h.2⟩
 ·exact h.elim
def QQ:cO:=fun args st K=>match args,st with
 |[.agg [.ad 43 ds, .ad 48 rs], .agg [.lit (.int .i64 r), .ad 40 ss, .ad 38 os, .lit (.int .i64 d)]],[]=>(pj ⟨ds,rs,⟨r,ss,os,d⟩,0⟩/\∃y,y∈rs/\qK ds ⟨r,ss,os,d⟩ y)/\K (.bool true) []
 |_,_=>False
theorem J9:QQ.gA:=fun args st K K' hK h=>by
 unfold QQ at h⊢;split at h
 ·exact⟨h.1,hK _ _ h.2⟩
 ·exact h.elim
theorem Yo(κ:Kp): ∀args st K,QQ args st K->bt (Pr κ) 33 args st K:=fun args st K h=>by
 refine cZ (VQ κ).ok (VQ κ).mono (cKm κ args st K ?_);unfold QQ at h;split at h
 ·rename_i ds rs r ss os d
  exact⟨⟨ds,rs,⟨r,ss,os,d⟩⟩,rfl,h.1.1,fun b hb=>by
   obtain rfl:=hb h.1.2;exact h.2⟩
 ·exact h.elim
def unF:List Nat:=[35,122]
noncomputable def BU0(κ:Kp):EB:=EB.inline ((((((IB κ).Ee zQ (Se κ)).Ee Kh (Yw κ)).Ee Kf (Yu κ)).Ee J7 (Yl κ)).Ee J9 (Yo κ)) [35,74,75,73,124,77]
noncomputable def BU(κ:Kp):EB:=((((BU0 κ).nT (fun f=>ic f unF) 12 9).nT (fun f=>ic f unF) 12 9).nT (fun f=>ic f unF) 12 9)
abbrev bx:ByteArray:=ByteArray.mk #[120]
abbrev b0:ByteArray:=ByteArray.mk #[]
def tVr:AV:= .agg [.int 1, .lit (.string bx), .int 0, .ad 38 []]
def tIx:AV:= .agg [.int 2, .lit (.string b0), .int 1, .ad 38 []]
def dE:AV:= .agg [.lit (.string (ByteArray.mk #[101])), .ad 9 [.lit (.string (ByteArray.mk #[97])), .lit (.string (ByteArray.mk #[98])), .lit (.string (ByteArray.mk #[99]))], .ad 3 [.int 1, .int 1, .int 1], .bool false, .bool false, .int 0]
def dP:AV:= .agg [.lit (.string (ByteArray.mk #[112])), .ad 9 [.lit (.string (ByteArray.mk #[97]))], .ad 3 [.int 1], .bool false, .bool false, .int 0]
def tz:AV:= .agg [.int 0, .lit (.string b0), .int 0, .ad 38 []]
def tVn:AV:= .agg [.int 1, .lit (.string bx), .int 0, .nil]
def tIn:AV:= .agg [.int 2, .lit (.string b0), .int 1, .nil]
def tzn:AV:= .agg [.int 0, .lit (.string b0), .int 0, .nil]
def r1:AV:= .agg [.agg [.lit (.string (ByteArray.mk #[112])), .ad 38 [tVn]], .ad 80 [.agg [.int 1, .agg [.lit (.string (ByteArray.mk #[101])), .ad 38 [tVn,tIn,tVn]],tzn,tzn]], .int 0]
def ss1:List AV:=[.agg [.int 1, .int 0, .int 0, .ad 3 [.int 1], .ad 38 [tIx], .ad 3 [.int 0], .ad 9 [.lit (.string bx)], .ad 3 [.int 2], .ad 9 [.lit (.string bx)], .lit (.string b0),tz,tz]]
abbrev q1:AV:= .agg [.int 1, .ad 40 ss1, .ad 38 [tVr], .int (-1)]
abbrev nv(n:Int):AV:= .agg [.bool false, .int n, .lit (.string b0)]
abbrev WT:AV:= .ad 51 [.ad 70 [.ad 72 [nv 2,nv 1,nv 2], .ad 72 [nv 2,nv 1,nv 3]], .nil]
abbrev aGo:List AV:=[.ptr 0 0 [] 0, .int 0, .eO 9 72 [] []]
abbrev sGo:List Dn.Obj:=[.box 88 (.agg [q1,WT, .ad 70 [], .nil]), .dead]
abbrev oGo:List Dn.Obj:=[.box 88 (.agg [q1,WT, .ad 70 [], .ax 2 0 1]), .dead, .row 70 [.ad 72 [nv 2]]]
theorem am2(κ:Kp)(K:AV->List Dn.Obj->Prop):(a8 (BU κ).E 12 35 aGo sGo K)=(
 letI a:=AV.int
 letI b:=AV.agg
 letI c:=AV.bool
 letI d:=AV.str
 letI e:=Obj.box
 letI f:=AV.ad
 letI g:=b [a 1,a 0,a 0,f 3 [a 1],f 38 [b [a 2,d b0,a 1,f 38 []]],f 3 [a 0],f 9
  [d bx],f 3 [a 2],f 9 [d bx],d b0,b [a 0,d b0,a 0,f 38 []],b [a 0,d b0,a 0,
  f 38 []]]
 letI k:=b [b [a 1,f 40 [b [a 1,a 0,a 0,f 3 [a 1],f 38 [b [a 2,d b0,a 1,f
  38 []]],f 3 [a 0],f 9 [d bx],f 3 [a 2],f 9 [d bx],d b0,b [a 0,d b0,a 0,f 38 []],
  b [a 0,d b0,a 0,f 38 []]]],f 38 [b [a 1,d bx,a 0,f 38 []]],a (-1)],f 51 [f 70 [f
  72 [b [c false,a 2,d b0],b [c false,a 1,d b0],b [c false,a 2,d b0]],f 72 [b
  [c false,a 2,d b0],b [c false,a 1,d b0],b [c false,a 3,d b0]]],AV.nil],f 70 [],AV.nil]
 letI h:=yk (b [c false,a 2,d b0])
 letI l:=AV.eO 9 72 [] []=AV.eO 9 72 [] []/\b [c false,a 2,d b0]=b [c false,a (fI.n h),d (fI.s h)]
 letI i:=AV.ptr 0 0 [] 0
 letI m:=AV.bp 74 [AV.ptr 2 0 [] 0,AV.ptr 3 0 [] 0]
 letI j:=(e 88 k=e 88 k/\e 86 i=e 86 i/\e 3 (a 0)=e 3 (a 0)/\e 40 g=e 40 g/\
  e 131 m=e 131 m/\e 86 i=e 86 i/\e 3 (a 0)=e 3 (a 0)/\e 91 (AV.eO 9 72 [] [])=e 91
  (AV.eO 9 72 [] [])/\e 40 g=e 40 g/\True)/\l/\l/\K (AV.aK []) [e 88 (b [b [a 1,f 40 [b [a 1,a 0,
  a 0,f 3 [a 1],f 38 [b [a 2,d b0,a 1,f 38 []]],f 3 [a 0],f 9 [d bx],f 3 [a 2],f
  9 [d bx],d b0,b [a 0,d b0,a 0,f 38 []],b [a 0,d b0,a 0,f 38 []]]],f 38 [b [a
  1,d bx,a 0,f 38 []]],a (-1)],f 51 [f 70 [f 72 [b [c false,a 2,d b0],b [c false,a 1,
  d b0],b [c false,a 2,d b0]],f 72 [b [c false,a 2,d b0],b [c false,a 1,d b0],
  b [c false,a 3,d b0]]],AV.nil],f 70 [],AV.ax 2 0 1]),Obj.dead,Obj.row 70 [f 72 [b [c false,a (fI.n h),
  d (fI.s h)]]]]
 j/\j/\j):=by kernel_rfl
theorem af4(κ:Kp){K:AV->List Dn.Obj->Prop}(h:K (.aK []) oGo):a8 (BU κ).E 12 35 aGo sGo K:=by
 refine Eq.mpr (am2 κ K) ?_
 repeat' (first|exact h|exact trivial|exact rfl|refine And.intro ?_ ?_)
def Yx:cO:=fun args st K=>(args=aGo/\st=sGo)/\K (.aK []) oGo
theorem J8:Yx.gA:=fun _ _ _ _ hK h=>⟨h.1,hK _ _ h.2⟩
theorem Yn(κ:Kp): ∀args st K,Yx args st K->bt (Pr κ) 35 args st K:=fun args st K h=>by
 obtain⟨⟨rfl,rfl⟩,h⟩:=h;exact cZ (BU κ).ok (BU κ).mono (af4 κ h)
noncomputable def BV(κ:Kp):EB:=((BU0 κ).CV [35]).frozen J8 (Yn κ)
theorem yRu(κ:Kp)(K:AV->List Dn.Obj->Prop):(a8 (BV κ).E 12 14 [lj [dE,dP] [r1],q1,WT, .ad 70 []] [] K)=(
 letI a:=AV.int
 letI b:=AV.agg
 letI c:=AV.bool
 letI d:=AV.str
 letI e:=AV.ad
 letI f:=AV.nil
 letI g:=b [b [a 1,e 40 [b [a 1,a 0,a 0,e 3 [a 1],e 38 [b [a 2,d b0,a 1,e
  38 []]],e 3 [a 0],e 9 [d bx],e 3 [a 2],e 9 [d bx],d b0,b [a 0,d b0,a 0,e 38 []],
  b [a 0,d b0,a 0,e 38 []]]],e 38 [b [a 1,d bx,a 0,e 38 []]],a (-1)],e 51 [e 70 [e
  72 [b [c false,a 2,d b0],b [c false,a 1,d b0],b [c false,a 2,d b0]],e 72 [b
  [c false,a 2,d b0],b [c false,a 1,d b0],b [c false,a 3,d b0]]],f],e 70 [],f]
 (2<=9223372036854775807/\1<=9223372036854775807/\∀(e0:AV),List.Mem e0 [b [b [d {data:= #[OfNat.ofNat 112]},e 38 [b [a 1,d bx,a 0,f]]],e 80 [b [a 1,b [d {data:= #[OfNat.ofNat 101]},e 38 [b [a 1,d bx,a 0,f],b [a 2,d b0,a 1,f],b [a 1,d bx,a 0,f]]],b [a 0,d b0,a 0,f],b [a 0,d b0,a 0,f]]],a 0]]->aM (ae (bk 38 (dt.hl (cG e0)) (dt.bl (cG e0))))<=100000/\List.length (dt.bl (cG e0))<=100000)/\((2<=9223372036854775807/\1<=100000/\∀(e0:AV),List.Mem e0 [b [b [d {data:= #[OfNat.ofNat 112]},e 38 [b [a 1,d bx,a 0,f]]],e 80 [b [a 1,b [d {data:= #[OfNat.ofNat 101]},e 38 [b [a 1,d bx,a 0,f],b [a 2,d b0,a 1,f],b [a 1,d bx,a 0,f]]],b [a 0,d b0,a 0,f],b [a 0,d b0,a 0,f]]],a 0]]->Li (cG e0))/\∃(e0:AV),List.Mem e0 [b [b [d {data:= #[OfNat.ofNat 112]},e 38 [b [a 1,d bx,a 0,f]]],e 80 [b [a 1,b [d {data:= #[OfNat.ofNat 101]},e 38 [b [a 1,d bx,a 0,f],b [a 2,d b0,a 1,f],b [a 1,d bx,a 0,f]]],b [a 0,d b0,a 0,f],b [a 0,d b0,a 0,f]]],a 0]]/\QD.rel (bB [b [d {data:= #[OfNat.ofNat 101]},e 9 [d {data:= #[OfNat.ofNat 97]},d {data:= #[OfNat.ofNat 98]},d {data:= #[OfNat.ofNat 99]}],e 3 [a 1,a 1,a 1],c false,c false,a 0],b [d {data:= #[OfNat.ofNat 112]},e 9 [d {data:= #[OfNat.ofNat 97]}],e 3 [a 1],c false,c false,a 0]] (cG e0))=(1:Int)/\ae (QD.out (bB [b [d {data:= #[OfNat.ofNat 101]},e 9 [d {data:= #[OfNat.ofNat 97]},d {data:= #[OfNat.ofNat 98]},d {data:= #[OfNat.ofNat 99]}],e 3 [a 1,a 1,a 1],c false,c false,a 0],b [d {data:= #[OfNat.ofNat 112]},e 9 [d {data:= #[OfNat.ofNat 97]}],e 3 [a 1],c false,c false,a 0]] (cG e0)))=[bX (b [a 1,d bx,a 0,e 38 []])]/\List.map sJ (QD.steps (bB [b [d {data:= #[OfNat.ofNat 101]},e 9 [d {data:= #[OfNat.ofNat 97]},d {data:= #[OfNat.ofNat 98]},d {data:= #[OfNat.ofNat 99]}],e 3 [a 1,a 1,a 1],c false,c false,a 0],b [d {data:= #[OfNat.ofNat 112]},e 9 [d {data:= #[OfNat.ofNat 97]}],e 3 [a 1],c false,c false,a 0]] (cG e0)))=[sJ (b [a 1,a 0,a 0,e 3 [a 1],e 38 [b [a 2,d b0,a 1,e 38 []]],e 3 [a 0],e 9 [d bx],e 3 [a 2],e 9 [d bx],d b0,b [a 0,d b0,a 0,e 38 []],b [a 0,d b0,a 0,e 38 []]])])/\([AV.ptr 0 0 [] 0,a 0,AV.eO 9 72 [] []]=[AV.ptr 0 0 [] 0,a 0,AV.eO 9 72 [] []]/\[Obj.box 88 g,Obj.dead]=[Obj.box 88 g,Obj.dead])/\([e 72 [b [c false,a 2,d b0]]]=[e 72 [b [c false,a 2,d b0]]]/\kq [[b [c false,a 2,d b0]]])/\K (AV.aK [e 70 [e 72 [b [c false,a 2,d b0]]],a 0]) []):=by kernel_rfl
theorem XC:Li (cG r1):=⟨⟨of_decide_eq_true (by kernel_rfl),of_decide_eq_true (by kernel_rfl)⟩,by kernel_rfl,by kernel_rfl⟩
theorem ae8:kq [[nv 2]]:=⟨by decide,fun r hr=>by obtain rfl:=List.mem_singleton.1 hr;decide,fun r hr v hv=>by obtain rfl:=List.mem_singleton.1 hr;obtain rfl:=List.mem_singleton.1 hv;exact⟨rfl,rfl⟩⟩
theorem Yk(κ:Kp){K:AV->List Dn.Obj->Prop}(h:K (.aK [.ad 70 [.ad 72 [nv 2]], .int 0]) []):a8 (BV κ).E 12 14 [lj [dE,dP] [r1],q1,WT, .ad 70 []] [] K:=by
 refine Eq.mpr (yRu κ K) ⟨⟨by omega,by omega,fun x hx=>?_⟩,⟨⟨by omega,by omega,fun r hr=>?_⟩,r1,List.mem_singleton.2 rfl,?_,?_,?_⟩,?_⟩
 ·obtain rfl:=List.mem_singleton.1 hx
  exact⟨of_decide_eq_true (by kernel_rfl),of_decide_eq_true (by kernel_rfl)⟩
 ·obtain rfl:=List.mem_singleton.1 hr
  exact XC
 ·kernel_rfl
 ·kernel_rfl
 ·kernel_rfl
 ·repeat' (first|exact h|exact trivial|exact rfl|refine And.intro ?_ ?_)
  exact ae8
theorem yHq(κ:Kp)(op:Int)(x y:fI)(K:AV->List Dn.Obj->Prop):(a8 (O5 κ).E 12 77 [.int op,gz x,gz y] [] K)=(
 letI a:=AV.bool
 an (op==(3:Int)) (K (a (bC [gz x] [gz y]==(0:Int))) []) (an (op==(4:Int)) (K (a (bC [gz x] [gz y] != (0:Int))) []) (an (op==(5:
 Int)) (K (a (decide (bC [gz x] [gz y]<(0:Int)))) []) (K (a (decide (bC [gz x] [gz y]<=(0:Int)))) [])))):=by kernel_rfl
theorem cHq(κ:Kp):bq (O5 κ).E 12 77 (aX YZ (fun _=>True) XL):=by
 refine a7 ?_;rintro⟨op,x,y⟩ K _ ho
 replace ho:K (.bool (qs op x y)) []:=ho
 refine Eq.mpr (yHq κ op x y K) ?_;unfold qs at ho;refine ag.2 ⟨fun h=>?_,fun h=>ag.2 ⟨fun h2=>?_,fun h2=>ag.2 ⟨fun h3=>?_,fun h3=>?_⟩⟩⟩
 ·rw[h] at ho;exact ho
 ·rw[h,h2] at ho;exact ho
 ·rw[h,h2,h3] at ho;exact ho
 ·rw[h,h2,h3] at ho;exact ho
def pe(ss ins del:List AV)(d:Int)(i:Nat):List AV:=bif (i:Int)==d then del else aa (nth ins (toInt (af (nth ss i) 2)).toNat)
def N4:cO:=fun args st K=>(∃a,(args,st)=x6 a/\rp a)/\(match args with
 |[_, .lit (.int _ i)]=>aa6 st 0 fun b=>(match b with
  | .agg [.agg [_, .ad _ ss,_, .lit (.int _ d)], .ad _ ins, .ad _ del,_]=>K (.ad 70 (pe ss ins del d i.toNat)) st
  |_=>False)
 |_=>False)
theorem Gd:N4.gA:=fun args st K K' hK h=>by
 obtain⟨⟨a,h1,h2⟩,h3⟩:=h;obtain⟨rfl,rfl⟩:=Prod.mk.inj (show(args,st)=((x6 a).1,(x6 a).2) from h1);exact⟨⟨a,rfl,h2⟩,hK _ _ h3⟩
theorem Uz(args:List AV)(st:List Dn.Obj)(K:AV->List Dn.Obj->Prop)(h:N4 args st K):aX x6 rp Nd args st K:=by
 obtain⟨⟨a,h1,h2⟩,h3⟩:=h;obtain⟨rfl,rfl⟩:=Prod.mk.inj (show(args,st)=((x6 a).1,(x6 a).2) from h1);exact⟨a,rfl,h2,h3⟩
noncomputable def BHq(κ:Kp):EB:=((O5 κ).call (cHq κ)).calm [77]
theorem TJ(κ:Kp)(args:List AV)(st:List Dn.Obj)(K:AV->List Dn.Obj->Prop)(h:N4 args st K):(BHq κ).E.call 124 args st K:=show aX x6 rp Nd args st K from Uz args st K h
noncomputable def gf(κ:Kp):EB:=EB.inline ((EB.aj4 (BHq κ) Gd (TJ κ)).Ee zQ (Se κ)) [75,74,122]
abbrev fv(x:AV):AV:= .agg [.int (toInt (af x 0)), .int (toInt (af x 1)), .int (toInt (af x 2)), .ad 3 (aa (af x 3)), .ad 38 (aa (af x 4)), .ad 3 (aa (af x 5)), .ad 9 (aa (af x 6)), .ad 3 (aa (af x 7)), .ad 9 (aa (af x 8)), .lit (.string (toStr (af x 9))),Im (af x 10),Im (af x 11)]
structure bc where
 q:QD
 ins:List AV
 del:List AV
 L:RL
 i:Nat
 e:cI
abbrev bc.d(a:bc):AV:=nth a.q.steps (Int.toNat (a.i:Int))
structure fT where
 a:bc
 V:List AV
 s:Int
 N:RL
 rs:List AV
 j:Nat
 row:List AV
 f:cI
 k:Nat
noncomputable abbrev Jv(a:bc):Dn.Obj:= .loop (iE Tryz.prog 78 5 .ready none (ig (bL 57) [(0, .ptr 0 0 [] 0),(1, .int a.i),(2,et a.e),(6, .int 0),(7, .bool false),(8, .ptr 2 0 [] 0),(9, .ptr 3 0 [] 0),(10, .ptr 4 0 [] 0),(13, .ptr 0 0 [] 0),(14, .ptr 0 0 [] 0),(15, .ptr 0 0 [0] 0),(16, .ptr 0 0 [0,1] 1),(17, .ad 40 a.q.steps),(18, .int a.i),(19, .jA 40 a.d),(20,fv a.d),(21, .ptr 0 0 [] 0),(22, .int a.i),(23,et a.e),(24, .bp 122 [.ptr 5 0 [] 0, .ptr 6 0 [] 0, .ptr 7 0 [] 0])]))
noncomputable abbrev AD(a:bc)(V:List AV)(s:Int)(T:List Dn.Obj):List Dn.Obj:= .box 88 (Nr a.q a.ins a.del (.ax 1 0 a.L.length)):: .row 70 (rws a.L):: .box 40 (fv a.d):: .box 194 (.ax 9 0 V.length):: .box 2 (.int s):: .box 86 (.ptr 0 0 [] 0):: .box 3 (.int a.i):: .box 91 (et a.e)::Jv a:: .row 2 V:: .box 40 (fv a.d)::T
abbrev goR(a:bc)(x:List (Nat×AV)):List AV:=ig (bL 144) ([(0, .ptr 0 0 [] 0),(1, .int a.i),(2,et a.e),(3, .ptr 2 0 [] 0),(4, .ptr 3 0 [] 0),(9, .ptr 4 0 [] 0),(10, .ptr 5 0 [] 0),(14, .int a.i),(15, .ptr 0 0 [] 0),(16, .ptr 0 0 [] 0),(17, .ptr 0 0 [0] 0),(18, .ptr 0 0 [0,1] 1),(19, .ad 40 a.q.steps),(20, .int a.q.steps.length),(21, .bool false),(49, .ptr 0 0 [] 0),(50, .ptr 0 0 [] 0),(51, .ptr 0 0 [0] 0),(52, .ptr 0 0 [0,1] 1),(53, .ad 40 a.q.steps),(54, .int a.i),(55, .jA 40 a.d),(56,fv a.d),(57, .bp 74 [.ptr 2 0 [] 0, .ptr 3 0 [] 0]),(58, .ptr 4 0 [0] 0),(59, .int (toInt (af a.d 0)))]++x)
abbrev WJ:AV:= .bp 122 [.ptr 6 0 [] 0, .ptr 7 0 [] 0, .ptr 8 0 [] 0]
noncomputable abbrev fD(a:bc):Dn.Obj:= .loop (iE Tryz.prog 35 19 .ready none (goR a [(96, .bool true),(97, .bool (toInt (af a.d 0)==1)),(98, .ptr 0 0 [] 0),(99, .int a.i),(100,et a.e),(101,WJ)]))
abbrev ky(a:bc)(s:LoopState)(p:Option Code):Dn.Obj:= .loop {state:=s,pending:=p,fn:=35,bz:=goR a [(96, .bool false),(97, .bool (toInt (af a.d 0)==1)),(106, .bool true),(107, .bool (toInt (af a.d 0)==2)),(108, .ptr 0 0 [] 0),(109, .int a.i),(110,et a.e),(111,WJ)],params:= #[112],assign:= .skip,body:= .block 7 .ret}
abbrev Ed(a:bc)(lp:Dn.Obj)(T:List Dn.Obj):List Dn.Obj:= .box 86 (.ptr 0 0 [] 0):: .box 3 (.int a.i):: .box 40 (fv a.d):: .box 131 (.bp 74 [.ptr 2 0 [] 0, .ptr 3 0 [] 0]):: .box 86 (.ptr 0 0 [] 0):: .box 3 (.int a.i):: .box 91 (et a.e)::lp::T
abbrev m9(a:bc)(lp:Dn.Obj)(T:List Dn.Obj):List Dn.Obj:= .box 88 (Nr a.q a.ins a.del (.ax 1 0 a.L.length)):: .row 70 (rws a.L)::Ed a lp (.box 40 (fv a.d)::T)
abbrev GW(a:bc)(N:RL)(lp:Dn.Obj)(T:List Dn.Obj):List Dn.Obj:= .box 88 (Nr a.q a.ins a.del (.ax 10 0 N.length)):: .dead::Ed a lp (.row 70 (rws N):: .box 40 (fv a.d)::T)
theorem vH(e:cI){ts:List AV}{k:Nat}(hk:k<ts.length):cu e (ts.take (k+1))=cu e (ts.take k)++[gz (cX e (dM (nth ts k)).tm)]:=by
 rw[List.take_add_one,cu,cu,List.map_append,aJ _ k hk];simp[hk]
theorem vh(row:List AV)(f:cI){ns cs:List AV}{k:Nat}(hk:k<ns.length)(hc:k<cs.length):gp row (ns.drop k) (cs.drop k) f=gp row (ns.drop (k+1)) (cs.drop (k+1)) (f.put (toStr (nth ns k)) (uv (nth row (toInt (nth cs k)).toNat))):=by
 rw[ao3 hk,ao3 hc,gp,aJ _ k hk,aJ _ k hc]
theorem Az(row:List AV)(f:cI){ns cs:List AV}{k:Nat}(hk:k<ns.length)(hc:k<cs.length):qh f row (ns.drop k) (cs.drop k)=bif !lx (f.get (toStr (nth ns k))) (nth row (toInt (nth cs k)).toNat) then false else qh f row (ns.drop (k+1)) (cs.drop (k+1)):=by
 rw[ao3 hk,ao3 hc,qh,aJ _ k hk,aJ _ k hc]
theorem rO(row:List AV)(f:cI){ns cs:List AV}{k:Nat}(hk:ns.length<=k):gp row (ns.drop k) cs f=f:=by
 rw[ao0 hk];unfold gp;rfl
theorem vk(row:List AV)(f:cI){ns cs:List AV}{k:Nat}(hk:ns.length<=k):qh f row (ns.drop k) cs=true:=by
 rw[ao0 hk];unfold qh;rfl
structure B8(ns cs row:List AV):Prop where
 l:ns.length<=cs.length
 n:ns.length<=100000
 w: ∀c,c∈cs->0<=toInt c/\toInt c<row.length
theorem B8.at{ns cs row:List AV}(h:B8 ns cs row){k:Nat}(hk:k<ns.length):(true&&decide ((k:Int)<(cs.length:Int)))=true/\(decide (0<=toInt (nth cs k))&&decide (toInt (nth cs k)<(row.length:Int)))=true:=by
 have hc:k<cs.length:=Nat.lt_of_lt_of_le hk h.l;have hw:=h.w (nth cs k) (by rw[aJ _ k hc];exact List.getElem_mem _);exact⟨by rw[ao7,an2];omega,by rw[an3,an2,an2];exact hw⟩
def ua(x:fT):Prop:=x.k<=(aa (af x.a.d 4)).length/\(aa (af x.a.d 4)).length<=100000/\∀t,t∈aa (af x.a.d 4)->b7 (dM t).tm=true
def pk(x:fT):Prop:=x.k<=(aa (af x.a.d 6)).length/\B8 (aa (af x.a.d 6)) (aa (af x.a.d 5)) x.row
def pn(x:fT):Prop:=x.k<=(aa (af x.a.d 8)).length/\B8 (aa (af x.a.d 8)) (aa (af x.a.d 7)) x.row
noncomputable abbrev U2(x:fT)(W:List AV):S:=sp 97 [(0, .bJ 8),(1, .ptr 5 0 [] 0),(2, .ptr 6 0 [] 0),(3, .ptr 7 0 [] 0),(5, .ptr 10 0 [] 0),(6, .ax 11 0 W.length),(25, .ad 38 (aa (af x.a.d 4))),(26, .int (aa (af x.a.d 4)).length),(27, .int x.k)] (AD x.a x.V x.s [.row 72 W])
theorem xVt(κ:Kp)(x:fT)(W:List AV)(I:Nat->S->Prop)(n:Nat)(K:Exit->S->Prop):(vc (gf κ).E 12 122 none 9 (ah (Pr κ).toProgram 122 3) (U2 x W) (bh (gf κ).E 122 3 9 I n K))=(
 letI a:=AV.ptr
 letI b:=aa (af (bc.d x.a) 4)
 letI c:=(↑(x.k):Int)<(↑(List.length b):Int)
 an (decide c) (aG (true&&decide c) (∃(e1:uX),([et x.a.e,Im (nth b (Int.toNat (↑(x.k):Int)))],[])=kE e1/\b7 (AT.tm e1.t)=true/\aG (decide
 ((W.length+1+1)*33<=70368744177664)) (∃(e0:Nat),e0<n/\I e0 (sp 97 [(0,AV.bJ 8),(1,a 5 0 [] 0),(2,a 6 0 [] 0),(3,a 7 0 [] 0),
 (5,a 10 0 [] 0),(6,AV.ax 11 0 (W.length+1)),(25,AV.ad 38 b),(26,AV.int (↑(List.length b):Int)),(27,AV.int (IntKind.wrap IntKind.i64 ((↑(x.k)
 :Int)+(1:Int))))] (AD x.a x.V x.s [Obj.row 72 (List.take W.length W++[gz (cX e1.e (AT.tm e1.t))])]))))) (K (Exit.exit 0) (sp 97 [(0,AV.bJ 8),(1,a
 5 0 [] 0),(2,a 6 0 [] 0),(3,a 7 0 [] 0),(5,a 10 0 [] 0),(6,AV.ax 11 0 W.length)] (AD x.a x.V x.s [Obj.row 72 W])))):=by kernel_rfl
noncomputable abbrev U8(x:fT):S:=U2 x (cu x.a.e ((aa (af x.a.d 4)).take x.k))
noncomputable def Yh(x:fT):Out (Exit×S):= .one (.exit 0,sp 97 [(0, .bJ 8),(1, .ptr 5 0 [] 0),(2, .ptr 6 0 [] 0),(3, .ptr 7 0 [] 0),(5, .ptr 10 0 [] 0),(6, .ax 11 0 (cu x.a.e (aa (af x.a.d 4))).length)] (AD x.a x.V x.s [.row 72 (cu x.a.e (aa (af x.a.d 4)))]))
theorem lVt(κ:Kp):aP (gf κ).E 12 122 3 (aI 9 U8 ua Yh):=by
 refine aD (fun x=>(aa (af x.a.d 4)).length - x.k) ?_;rintro⟨a,V,s,N,rs,j,row,f,k⟩ K ⟨h1,h2,h3⟩ ho;simp only at h1 h2 h3;rw[show(gf κ).E.P=Pr κ from rfl];refine Eq.mpr (xVt κ ⟨a,V,s,N,rs,j,row,f,k⟩ _ _ _ K) ?_;simp only[Int.toNat_natCast];rw[ag,an2,an4];refine⟨fun h=>?_,fun h=>?_⟩
 ·have hk:k<(aa (af a.d 4)).length:=by omega
  have hm:nth (aa (af a.d 4)) k∈aa (af a.d 4):=by rw[aJ _ k hk];exact List.getElem_mem _
  have hl:(cu a.e ((aa (af a.d 4)).take k)).length<=100000:=by rw[cu,List.length_map,List.length_take];omega
  refine ai.2 ⟨by simp;omega,⟨a.e,dM (nth (aa (af a.d 4)) k)⟩,rfl,h3 _ hm,ai.2 ⟨by rw[an2];omega,_,?_,⟨a,V,s,N,rs,j,row,f,k+1⟩,?_,⟨hk,h2,h3⟩,rfl,ho⟩⟩
  ·simp only;omega
  ·simp only[U8,U2,vH _ hk,List.take_length,ao6,List.length_singleton]
   rw[ay (n:=(k:Int)+1) (by omega) (by omega)];rfl
 ·have ht:(aa (af a.d 4)).take k=aa (af a.d 4):=List.take_of_length_le (by omega)
  simp only[ht];exact ho
noncomputable abbrev Ov(x:fT)(W:List AV):S:=sp 97 [(0, .bJ 9),(1, .ptr 6 0 [] 0),(2, .ptr 7 0 [] 0),(3, .ptr 8 0 [] 0),(5, .ptr 10 0 [] 0),(6, .ax 11 0 W.length),(25, .ad 38 (aa (af x.a.d 4))),(26, .int (aa (af x.a.d 4)).length),(27, .int x.k)] (m9 x.a (fD x.a) [.row 72 W])
theorem ak9(κ:Kp)(x:fT)(W:List AV)(I:Nat->S->Prop)(n:Nat)(K:Exit->S->Prop):(vc (gf κ).E 12 122 none 10 (ah (Pr κ).toProgram 122 3) (Ov x W) (bh (gf κ).E 122 3 10 I n K))=(
 letI a:=AV.ptr
 letI b:=aa (af (bc.d x.a) 4)
 letI c:=(↑(x.k):Int)<(↑(List.length b):Int)
 an (decide c) (aG (true&&decide c) (∃(e1:uX),([et x.a.e,Im (nth b (Int.toNat (↑(x.k):Int)))],[])=kE e1/\b7 (AT.tm e1.t)=true/\aG (decide
 ((W.length+1+1)*33<=70368744177664)) (∃(e0:Nat),e0<n/\I e0 (sp 97 [(0,AV.bJ 9),(1,a 6 0 [] 0),(2,a 7 0 [] 0),(3,a 8 0 [] 0),
 (5,a 10 0 [] 0),(6,AV.ax 11 0 (W.length+1)),(25,AV.ad 38 b),(26,AV.int (↑(List.length b):Int)),(27,AV.int (IntKind.wrap IntKind.i64 ((↑(x.k)
 :Int)+(1:Int))))] (m9 x.a (fD x.a) [Obj.row 72 (List.take W.length W++[gz (cX e1.e (AT.tm e1.t))])]))))) (K (Exit.exit 0) (sp 97 [(0,AV.bJ 9),(1,
 a 6 0 [] 0),(2,a 7 0 [] 0),(3,a 8 0 [] 0),(5,a 10 0 [] 0),(6,AV.ax 11 0 W.length)] (m9 x.a (fD x.a) [Obj.row 72 W])))):=by kernel_rfl
noncomputable abbrev OB(x:fT):S:=Ov x (cu x.a.e ((aa (af x.a.d 4)).take x.k))
noncomputable def Ur(x:fT):Out (Exit×S):= .one (.exit 0,sp 97 [(0, .bJ 9),(1, .ptr 6 0 [] 0),(2, .ptr 7 0 [] 0),(3, .ptr 8 0 [] 0),(5, .ptr 10 0 [] 0),(6, .ax 11 0 (cu x.a.e (aa (af x.a.d 4))).length)] (m9 x.a (fD x.a) [.row 72 (cu x.a.e (aa (af x.a.d 4)))]))
theorem ah1(κ:Kp):aP (gf κ).E 12 122 3 (aI 10 OB ua Ur):=by
 refine aD (fun x=>(aa (af x.a.d 4)).length - x.k) ?_;rintro⟨a,V,s,N,rs,j,row,f,k⟩ K ⟨h1,h2,h3⟩ ho;simp only at h1 h2 h3;rw[show(gf κ).E.P=Pr κ from rfl];refine Eq.mpr (ak9 κ ⟨a,V,s,N,rs,j,row,f,k⟩ _ _ _ K) ?_;simp only[Int.toNat_natCast];rw[ag,an2,an4];refine⟨fun h=>?_,fun h=>?_⟩
 ·have hk:k<(aa (af a.d 4)).length:=by omega
  have hm:nth (aa (af a.d 4)) k∈aa (af a.d 4):=by rw[aJ _ k hk];exact List.getElem_mem _
  have hl:(cu a.e ((aa (af a.d 4)).take k)).length<=100000:=by rw[cu,List.length_map,List.length_take];omega
  refine ai.2 ⟨by simp;omega,⟨a.e,dM (nth (aa (af a.d 4)) k)⟩,rfl,h3 _ hm,ai.2 ⟨by rw[an2];omega,_,?_,⟨a,V,s,N,rs,j,row,f,k+1⟩,?_,⟨hk,h2,h3⟩,rfl,ho⟩⟩
  ·simp only;omega
  ·simp only[OB,Ov,vH _ hk,List.take_length,ao6,List.length_singleton]
   rw[ay (n:=(k:Int)+1) (by omega) (by omega)];rfl
 ·have ht:(aa (af a.d 4)).take k=aa (af a.d 4):=List.take_of_length_le (by omega)
  simp only[ht];exact ho
noncomputable abbrev Ow(x:fT)(W:List AV):S:=sp 97 [(0, .bJ 9),(1, .ptr 6 0 [] 0),(2, .ptr 7 0 [] 0),(3, .ptr 8 0 [] 0),(5, .ptr 10 0 [] 0),(6, .ax 11 0 W.length),(25, .ad 38 (aa (af x.a.d 4))),(26, .int (aa (af x.a.d 4)).length),(27, .int x.k)] (m9 x.a (ky x.a .ready none) [.row 72 W])
theorem al4(κ:Kp)(x:fT)(W:List AV)(I:Nat->S->Prop)(n:Nat)(K:Exit->S->Prop):(vc (gf κ).E 12 122 none 10 (ah (Pr κ).toProgram 122 3) (Ow x W) (bh (gf κ).E 122 3 10 I n K))=(
 letI a:=AV.ptr
 letI b:=aa (af (bc.d x.a) 4)
 letI c:=(↑(x.k):Int)<(↑(List.length b):Int)
 letI d:=ky x.a LoopState.ready none
 an (decide c) (aG (true&&decide c) (∃(e1:uX),([et x.a.e,Im (nth b (Int.toNat (↑(x.k):Int)))],[])=kE e1/\b7 (AT.tm e1.t)=true/\aG (decide
 ((W.length+1+1)*33<=70368744177664)) (∃(e0:Nat),e0<n/\I e0 (sp 97 [(0,AV.bJ 9),(1,a 6 0 [] 0),(2,a 7 0 [] 0),(3,a 8 0 [] 0),
 (5,a 10 0 [] 0),(6,AV.ax 11 0 (W.length+1)),(25,AV.ad 38 b),(26,AV.int (↑(List.length b):Int)),(27,AV.int (IntKind.wrap IntKind.i64 ((↑(x.k)
 :Int)+(1:Int))))] (m9 x.a d [Obj.row 72 (List.take W.length W++[gz (cX e1.e (AT.tm e1.t))])]))))) (K (Exit.exit 0) (sp 97 [(0,AV.bJ 9),(1,a 6 0
 [] 0),(2,a 7 0 [] 0),(3,a 8 0 [] 0),(5,a 10 0 [] 0),(6,AV.ax 11 0 W.length)] (m9 x.a d [Obj.row 72 W])))):=by kernel_rfl
noncomputable abbrev OC(x:fT):S:=Ow x (cu x.a.e ((aa (af x.a.d 4)).take x.k))
noncomputable def Us(x:fT):Out (Exit×S):= .one (.exit 0,sp 97 [(0, .bJ 9),(1, .ptr 6 0 [] 0),(2, .ptr 7 0 [] 0),(3, .ptr 8 0 [] 0),(5, .ptr 10 0 [] 0),(6, .ax 11 0 (cu x.a.e (aa (af x.a.d 4))).length)] (m9 x.a (ky x.a .ready none) [.row 72 (cu x.a.e (aa (af x.a.d 4)))]))
theorem ah6(κ:Kp):aP (gf κ).E 12 122 3 (aI 10 OC ua Us):=by
 refine aD (fun x=>(aa (af x.a.d 4)).length - x.k) ?_;rintro⟨a,V,s,N,rs,j,row,f,k⟩ K ⟨h1,h2,h3⟩ ho;simp only at h1 h2 h3;rw[show(gf κ).E.P=Pr κ from rfl];refine Eq.mpr (al4 κ ⟨a,V,s,N,rs,j,row,f,k⟩ _ _ _ K) ?_;simp only[Int.toNat_natCast];rw[ag,an2,an4];refine⟨fun h=>?_,fun h=>?_⟩
 ·have hk:k<(aa (af a.d 4)).length:=by omega
  have hm:nth (aa (af a.d 4)) k∈aa (af a.d 4):=by rw[aJ _ k hk];exact List.getElem_mem _
  have hl:(cu a.e ((aa (af a.d 4)).take k)).length<=100000:=by rw[cu,List.length_map,List.length_take];omega
  refine ai.2 ⟨by simp;omega,⟨a.e,dM (nth (aa (af a.d 4)) k)⟩,rfl,h3 _ hm,ai.2 ⟨by rw[an2];omega,_,?_,⟨a,V,s,N,rs,j,row,f,k+1⟩,?_,⟨hk,h2,h3⟩,rfl,ho⟩⟩
  ·simp only;omega
  ·simp only[OC,Ow,vH _ hk,List.take_length,ao6,List.length_singleton]
   rw[ay (n:=(k:Int)+1) (by omega) (by omega)];rfl
 ·have ht:(aa (af a.d 4)).take k=aa (af a.d 4):=List.take_of_length_le (by omega)
  simp only[ht];exact ho
noncomputable abbrev Rg(x:fT):S:=sp 97 [(0, .bJ 8),(3, .ptr 7 0 [] 0),(5, .ptr 10 0 [] 0),(10, .ad 72 x.row),(11,et x.f),(44, .ad 70 x.rs),(45, .int x.rs.length),(46, .int x.j),(52, .ad 9 (aa (af x.a.d 6))),(53, .int (aa (af x.a.d 6)).length),(54, .int x.k)] (AD x.a x.V x.s [])
theorem xVb(κ:Kp)(x:fT)(I:Nat->S->Prop)(n:Nat)(K:Exit->S->Prop):(vc (gf κ).E 12 122 none 9 (ah (Pr κ).toProgram 122 12) (Rg x) (bh (gf κ).E 122 12 9 I n K))=(
 letI a:=AV.int
 letI b:=aa (af (bc.d x.a) 6)
 letI e:=(↑(x.k):Int)<(↑(List.length b):Int)
 letI f:=Int.toNat (↑(x.k):Int)
 letI c:=nth (aa (af (bc.d x.a) 5)) f
 letI d:=nth x.row (Int.toNat (toInt c))
 an (decide e) (aG (true&&decide e) (aG (true&&decide ((↑(x.k):Int)<(↑(List.length (aa (af (bc.d x.a) 5))):Int))) (aG (decide ((0:Int)<=toInt c)
 &&decide (toInt c<(↑(x.row.length):Int))) (∃(e1:Rz),([et x.f,AV.str (toStr (nth b f)),AV.agg [AV.bool (Dn.toBool (af d 0)),a (toInt (af d
 1)),AV.str (toStr (af d 2))]],[])=DR e1/\True/\∃(e0:Nat),e0<n/\I e0 (sp 97 [(0,AV.bJ 8),(3,AV.ptr 7 0 [] 0),(5,AV.ptr 10 0 [] 0),(10,AV.ad
 72 x.row),(11,et (cI.put e1.e e1.s e1.v)),(44,AV.ad 70 x.rs),(45,a (↑(x.rs.length):Int)),(46,a (↑(x.j):Int)),(52,AV.ad 9 b),(53,
 a (↑(List.length b):Int)),(54,a (IntKind.wrap IntKind.i64 ((↑(x.k):Int)+(1:Int))))] (AD x.a x.V x.s [])))))) (K (Exit.exit 4) (sp 97 [(0,
 AV.bJ 8),(3,AV.ptr 7 0 [] 0),(5,AV.ptr 10 0 [] 0),(10,AV.ad 72 x.row),(11,et x.f),(44,AV.ad 70 x.rs),(45,a (↑(x.rs.length):Int)),(46,a
 (↑(x.j):Int))] (AD x.a x.V x.s [])))):=by kernel_rfl
noncomputable def Nh(x:fT):Out (Exit×S):= .one (.exit 4,sp 97 [(0, .bJ 8),(3, .ptr 7 0 [] 0),(5, .ptr 10 0 [] 0),(10, .ad 72 x.row),(11,et (gp x.row ((aa (af x.a.d 6)).drop x.k) ((aa (af x.a.d 5)).drop x.k) x.f)),(44, .ad 70 x.rs),(45, .int x.rs.length),(46, .int x.j)] (AD x.a x.V x.s []))
theorem lVb(κ:Kp):aP (gf κ).E 12 122 12 (aI 9 Rg pk Nh):=by
 refine aD (fun x=>(aa (af x.a.d 6)).length - x.k) ?_;rintro⟨a,V,s,N,rs,j,row,f,k⟩ K ⟨h1,h2⟩ ho;simp only at h1 h2;rw[show(gf κ).E.P=Pr κ from rfl];refine Eq.mpr (xVb κ ⟨a,V,s,N,rs,j,row,f,k⟩ _ _ K) ?_;have hn:=h2.n;simp only[Int.toNat_natCast];rw[ag,an2,an4];refine⟨fun h=>?_,fun h=>?_⟩
 ·have hk:k<(aa (af a.d 6)).length:=by omega
  have hc:=h2.at hk;refine ai.2 ⟨by simp;omega,ai.2 ⟨hc.1,ai.2 ⟨hc.2,⟨f,toStr (nth (aa (af a.d 6)) k),uv (nth row (toInt (nth (aa (af a.d 5)) k)).toNat)⟩,rfl,trivial,_,?_,⟨a,V,s,N,rs,j,row,f.put (toStr (nth (aa (af a.d 6)) k)) (uv (nth row (toInt (nth (aa (af a.d 5)) k)).toNat)),k+1⟩,?_,⟨hk,h2⟩,rfl,?_⟩⟩⟩
  ·simp only;omega
  ·simp only[Rg]
   rw[ay (n:=(k:Int)+1) (by omega) (by omega)];rfl
  ·simp only[Nh,vh row f hk (Nat.lt_of_lt_of_le hk h2.l)] at ho
   exact ho
 ·simp only[Nh,rO row f (show(aa (af a.d 6)).length<=k by omega)] at ho
  exact ho
noncomputable abbrev Ia(x:fT):S:=sp 97 [(0, .bJ 9),(3, .ptr 8 0 [] 0),(5, .ptr 10 0 [] 0),(10, .ad 72 x.row),(11,et x.f),(44, .ad 70 x.rs),(45, .int x.rs.length),(46, .int x.j),(52, .ad 9 (aa (af x.a.d 6))),(53, .int (aa (af x.a.d 6)).length),(54, .int x.k)] (m9 x.a (fD x.a) [])
theorem ak7(κ:Kp)(x:fT)(I:Nat->S->Prop)(n:Nat)(K:Exit->S->Prop):(vc (gf κ).E 12 122 none 10 (ah (Pr κ).toProgram 122 12) (Ia x) (bh (gf κ).E 122 12 10 I n K))=(
 letI a:=AV.int
 letI b:=aa (af (bc.d x.a) 6)
 letI e:=(↑(x.k):Int)<(↑(List.length b):Int)
 letI f:=Int.toNat (↑(x.k):Int)
 letI c:=nth (aa (af (bc.d x.a) 5)) f
 letI d:=nth x.row (Int.toNat (toInt c))
 an (decide e) (aG (true&&decide e) (aG (true&&decide ((↑(x.k):Int)<(↑(List.length (aa (af (bc.d x.a) 5))):Int))) (aG (decide ((0:Int)<=toInt c)
 &&decide (toInt c<(↑(x.row.length):Int))) (∃(e1:Rz),([et x.f,AV.str (toStr (nth b f)),AV.agg [AV.bool (Dn.toBool (af d 0)),a (toInt (af d
 1)),AV.str (toStr (af d 2))]],[])=DR e1/\True/\∃(e0:Nat),e0<n/\I e0 (sp 97 [(0,AV.bJ 9),(3,AV.ptr 8 0 [] 0),(5,AV.ptr 10 0 [] 0),(10,AV.ad
 72 x.row),(11,et (cI.put e1.e e1.s e1.v)),(44,AV.ad 70 x.rs),(45,a (↑(x.rs.length):Int)),(46,a (↑(x.j):Int)),(52,AV.ad 9 b),(53,
 a (↑(List.length b):Int)),(54,a (IntKind.wrap IntKind.i64 ((↑(x.k):Int)+(1:Int))))] (m9 x.a (fD x.a) [])))))) (K (Exit.exit 4) (sp 97 [(0,
 AV.bJ 9),(3,AV.ptr 8 0 [] 0),(5,AV.ptr 10 0 [] 0),(10,AV.ad 72 x.row),(11,et x.f),(44,AV.ad 70 x.rs),(45,a (↑(x.rs.length):Int)),(46,a
 (↑(x.j):Int))] (m9 x.a (fD x.a) [])))):=by kernel_rfl
noncomputable def FD(x:fT):Out (Exit×S):= .one (.exit 4,sp 97 [(0, .bJ 9),(3, .ptr 8 0 [] 0),(5, .ptr 10 0 [] 0),(10, .ad 72 x.row),(11,et (gp x.row ((aa (af x.a.d 6)).drop x.k) ((aa (af x.a.d 5)).drop x.k) x.f)),(44, .ad 70 x.rs),(45, .int x.rs.length),(46, .int x.j)] (m9 x.a (fD x.a) []))
theorem ag9(κ:Kp):aP (gf κ).E 12 122 12 (aI 10 Ia pk FD):=by
 refine aD (fun x=>(aa (af x.a.d 6)).length - x.k) ?_;rintro⟨a,V,s,N,rs,j,row,f,k⟩ K ⟨h1,h2⟩ ho;simp only at h1 h2;rw[show(gf κ).E.P=Pr κ from rfl];refine Eq.mpr (ak7 κ ⟨a,V,s,N,rs,j,row,f,k⟩ _ _ K) ?_;have hn:=h2.n;simp only[Int.toNat_natCast];rw[ag,an2,an4];refine⟨fun h=>?_,fun h=>?_⟩
 ·have hk:k<(aa (af a.d 6)).length:=by omega
  have hc:=h2.at hk;refine ai.2 ⟨by simp;omega,ai.2 ⟨hc.1,ai.2 ⟨hc.2,⟨f,toStr (nth (aa (af a.d 6)) k),uv (nth row (toInt (nth (aa (af a.d 5)) k)).toNat)⟩,rfl,trivial,_,?_,⟨a,V,s,N,rs,j,row,f.put (toStr (nth (aa (af a.d 6)) k)) (uv (nth row (toInt (nth (aa (af a.d 5)) k)).toNat)),k+1⟩,?_,⟨hk,h2⟩,rfl,?_⟩⟩⟩
  ·simp only;omega
  ·simp only[Ia]
   rw[ay (n:=(k:Int)+1) (by omega) (by omega)];rfl
  ·simp only[FD,vh row f hk (Nat.lt_of_lt_of_le hk h2.l)] at ho
   exact ho
 ·simp only[FD,rO row f (show(aa (af a.d 6)).length<=k by omega)] at ho
  exact ho
noncomputable abbrev Ic(x:fT):S:=sp 97 [(0, .bJ 9),(3, .ptr 8 0 [] 0),(5, .ptr 11 0 [] 0),(10, .ad 72 x.row),(11,et x.f),(44, .ad 70 x.rs),(45, .int x.rs.length),(46, .int x.j),(52, .ad 9 (aa (af x.a.d 6))),(53, .int (aa (af x.a.d 6)).length),(54, .int x.k)] (GW x.a x.N (fD x.a) [])
theorem al0(κ:Kp)(x:fT)(I:Nat->S->Prop)(n:Nat)(K:Exit->S->Prop):(vc (gf κ).E 12 122 none 10 (ah (Pr κ).toProgram 122 12) (Ic x) (bh (gf κ).E 122 12 10 I n K))=(
 letI a:=AV.int
 letI b:=aa (af (bc.d x.a) 6)
 letI e:=(↑(x.k):Int)<(↑(List.length b):Int)
 letI f:=Int.toNat (↑(x.k):Int)
 letI c:=nth (aa (af (bc.d x.a) 5)) f
 letI d:=nth x.row (Int.toNat (toInt c))
 an (decide e) (aG (true&&decide e) (aG (true&&decide ((↑(x.k):Int)<(↑(List.length (aa (af (bc.d x.a) 5))):Int))) (aG (decide ((0:Int)<=toInt c)
 &&decide (toInt c<(↑(x.row.length):Int))) (∃(e1:Rz),([et x.f,AV.str (toStr (nth b f)),AV.agg [AV.bool (Dn.toBool (af d 0)),a (toInt (af d
 1)),AV.str (toStr (af d 2))]],[])=DR e1/\True/\∃(e0:Nat),e0<n/\I e0 (sp 97 [(0,AV.bJ 9),(3,AV.ptr 8 0 [] 0),(5,AV.ptr 11 0 [] 0),(10,AV.ad
 72 x.row),(11,et (cI.put e1.e e1.s e1.v)),(44,AV.ad 70 x.rs),(45,a (↑(x.rs.length):Int)),(46,a (↑(x.j):Int)),(52,AV.ad 9 b),(53,
 a (↑(List.length b):Int)),(54,a (IntKind.wrap IntKind.i64 ((↑(x.k):Int)+(1:Int))))] (GW x.a x.N (fD x.a) [])))))) (K (Exit.exit 4) (sp 97
 [(0,AV.bJ 9),(3,AV.ptr 8 0 [] 0),(5,AV.ptr 11 0 [] 0),(10,AV.ad 72 x.row),(11,et x.f),(44,AV.ad 70 x.rs),(45,a (↑(x.rs.length):Int)),(46,
 a (↑(x.j):Int))] (GW x.a x.N (fD x.a) [])))):=by kernel_rfl
noncomputable def FE(x:fT):Out (Exit×S):= .one (.exit 4,sp 97 [(0, .bJ 9),(3, .ptr 8 0 [] 0),(5, .ptr 11 0 [] 0),(10, .ad 72 x.row),(11,et (gp x.row ((aa (af x.a.d 6)).drop x.k) ((aa (af x.a.d 5)).drop x.k) x.f)),(44, .ad 70 x.rs),(45, .int x.rs.length),(46, .int x.j)] (GW x.a x.N (fD x.a) []))
theorem ah2(κ:Kp):aP (gf κ).E 12 122 12 (aI 10 Ic pk FE):=by
 refine aD (fun x=>(aa (af x.a.d 6)).length - x.k) ?_;rintro⟨a,V,s,N,rs,j,row,f,k⟩ K ⟨h1,h2⟩ ho;simp only at h1 h2;rw[show(gf κ).E.P=Pr κ from rfl];refine Eq.mpr (al0 κ ⟨a,V,s,N,rs,j,row,f,k⟩ _ _ K) ?_;have hn:=h2.n;simp only[Int.toNat_natCast];rw[ag,an2,an4];refine⟨fun h=>?_,fun h=>?_⟩
 ·have hk:k<(aa (af a.d 6)).length:=by omega
  have hc:=h2.at hk;refine ai.2 ⟨by simp;omega,ai.2 ⟨hc.1,ai.2 ⟨hc.2,⟨f,toStr (nth (aa (af a.d 6)) k),uv (nth row (toInt (nth (aa (af a.d 5)) k)).toNat)⟩,rfl,trivial,_,?_,⟨a,V,s,N,rs,j,row,f.put (toStr (nth (aa (af a.d 6)) k)) (uv (nth row (toInt (nth (aa (af a.d 5)) k)).toNat)),k+1⟩,?_,⟨hk,h2⟩,rfl,?_⟩⟩⟩
  ·simp only;omega
  ·simp only[Ic]
   rw[ay (n:=(k:Int)+1) (by omega) (by omega)];rfl
  ·simp only[FE,vh row f hk (Nat.lt_of_lt_of_le hk h2.l)] at ho
   exact ho
 ·simp only[FE,rO row f (show(aa (af a.d 6)).length<=k by omega)] at ho
  exact ho
noncomputable abbrev Ig(x:fT):S:=sp 97 [(0, .bJ 9),(3, .ptr 8 0 [] 0),(5, .ptr 10 0 [] 0),(10, .ad 72 x.row),(11,et x.f),(44, .ad 70 x.rs),(45, .int x.rs.length),(46, .int x.j),(52, .ad 9 (aa (af x.a.d 6))),(53, .int (aa (af x.a.d 6)).length),(54, .int x.k)] (m9 x.a (ky x.a .ready none) [])
theorem al2(κ:Kp)(x:fT)(I:Nat->S->Prop)(n:Nat)(K:Exit->S->Prop):(vc (gf κ).E 12 122 none 10 (ah (Pr κ).toProgram 122 12) (Ig x) (bh (gf κ).E 122 12 10 I n K))=(
 letI a:=AV.int
 letI b:=aa (af (bc.d x.a) 6)
 letI e:=(↑(x.k):Int)<(↑(List.length b):Int)
 letI f:=m9 x.a (ky x.a LoopState.ready none) []
 letI g:=Int.toNat (↑(x.k):Int)
 letI c:=nth (aa (af (bc.d x.a) 5)) g
 letI d:=nth x.row (Int.toNat (toInt c))
 an (decide e) (aG (true&&decide e) (aG (true&&decide ((↑(x.k):Int)<(↑(List.length (aa (af (bc.d x.a) 5))):Int))) (aG (decide ((0:Int)<=toInt c)
 &&decide (toInt c<(↑(x.row.length):Int))) (∃(e1:Rz),([et x.f,AV.str (toStr (nth b g)),AV.agg [AV.bool (Dn.toBool (af d 0)),a (toInt (af d
 1)),AV.str (toStr (af d 2))]],[])=DR e1/\True/\∃(e0:Nat),e0<n/\I e0 (sp 97 [(0,AV.bJ 9),(3,AV.ptr 8 0 [] 0),(5,AV.ptr 10 0 [] 0),(10,AV.ad
 72 x.row),(11,et (cI.put e1.e e1.s e1.v)),(44,AV.ad 70 x.rs),(45,a (↑(x.rs.length):Int)),(46,a (↑(x.j):Int)),(52,AV.ad 9 b),(53,
 a (↑(List.length b):Int)),(54,a (IntKind.wrap IntKind.i64 ((↑(x.k):Int)+(1:Int))))] f))))) (K (Exit.exit 4) (sp 97 [(0,AV.bJ 9),(3,
 AV.ptr 8 0 [] 0),(5,AV.ptr 10 0 [] 0),(10,AV.ad 72 x.row),(11,et x.f),(44,AV.ad 70 x.rs),(45,a (↑(x.rs.length):Int)),(46,a (↑(x.j):
 Int))] f))):=by kernel_rfl
noncomputable def FF(x:fT):Out (Exit×S):= .one (.exit 4,sp 97 [(0, .bJ 9),(3, .ptr 8 0 [] 0),(5, .ptr 10 0 [] 0),(10, .ad 72 x.row),(11,et (gp x.row ((aa (af x.a.d 6)).drop x.k) ((aa (af x.a.d 5)).drop x.k) x.f)),(44, .ad 70 x.rs),(45, .int x.rs.length),(46, .int x.j)] (m9 x.a (ky x.a .ready none) []))
theorem ah4(κ:Kp):aP (gf κ).E 12 122 12 (aI 10 Ig pk FF):=by
 refine aD (fun x=>(aa (af x.a.d 6)).length - x.k) ?_;rintro⟨a,V,s,N,rs,j,row,f,k⟩ K ⟨h1,h2⟩ ho;simp only at h1 h2;rw[show(gf κ).E.P=Pr κ from rfl];refine Eq.mpr (al2 κ ⟨a,V,s,N,rs,j,row,f,k⟩ _ _ K) ?_;have hn:=h2.n;simp only[Int.toNat_natCast];rw[ag,an2,an4];refine⟨fun h=>?_,fun h=>?_⟩
 ·have hk:k<(aa (af a.d 6)).length:=by omega
  have hc:=h2.at hk;refine ai.2 ⟨by simp;omega,ai.2 ⟨hc.1,ai.2 ⟨hc.2,⟨f,toStr (nth (aa (af a.d 6)) k),uv (nth row (toInt (nth (aa (af a.d 5)) k)).toNat)⟩,rfl,trivial,_,?_,⟨a,V,s,N,rs,j,row,f.put (toStr (nth (aa (af a.d 6)) k)) (uv (nth row (toInt (nth (aa (af a.d 5)) k)).toNat)),k+1⟩,?_,⟨hk,h2⟩,rfl,?_⟩⟩⟩
  ·simp only;omega
  ·simp only[Ig]
   rw[ay (n:=(k:Int)+1) (by omega) (by omega)];rfl
  ·simp only[FF,vh row f hk (Nat.lt_of_lt_of_le hk h2.l)] at ho
   exact ho
 ·simp only[FF,rO row f (show(aa (af a.d 6)).length<=k by omega)] at ho
  exact ho
noncomputable abbrev Rh(x:fT):S:=sp 97 [(0, .bJ 8),(3, .ptr 7 0 [] 0),(5, .ptr 10 0 [] 0),(10, .ad 72 x.row),(11,et x.f),(44, .ad 70 x.rs),(45, .int x.rs.length),(46, .int x.j),(72, .ad 9 (aa (af x.a.d 8))),(73, .int (aa (af x.a.d 8)).length),(74, .int x.k)] (AD x.a x.V x.s [])
theorem xVe(κ:Kp)(x:fT)(I:Nat->S->Prop)(n:Nat)(K:Exit->S->Prop):(vc (gf κ).E 12 122 none 9 (ah (Pr κ).toProgram 122 17) (Rh x) (bh (gf κ).E 122 17 9 I n K))=(
 letI a:=AV.int
 letI b:=AV.ptr
 letI d:=AV.agg [AV.bool false,a 0,AV.str {data:= #[]}]
 letI c:=aa (af (bc.d x.a) 8)
 letI i:=(↑(x.k):Int)<(↑(List.length c):Int)
 letI e:=AD x.a x.V x.s []
 letI j:=Int.toNat (↑(x.k):Int)
 letI f:=nth (aa (af (bc.d x.a) 7)) j
 letI g:=Value.string (toStr (nth c j))
 letI h:=nth x.row (Int.toNat (toInt f))
 an (decide i) (aG (true&&decide i) (aG (true&&decide ((↑(x.k):Int)<(↑(List.length (aa (af (bc.d x.a) 7))):Int))) (aG (decide ((0:Int)<=toInt f)
 &&decide (toInt f<(↑(x.row.length):Int))) (an (!(Dn.toBool (af (de (List.zip (List.map (fun(e0:ByteArray×fI)=>Value.string e0.1) x.f) (List.map
 (fun(e0:ByteArray×fI)=>gz e0.2) x.f)) g d) 0)==Dn.toBool (af h 0)&&(toInt (af (de (List.zip (List.map (fun(e0:ByteArray×fI)=>Value.string
 e0.1) x.f) (List.map (fun(e0:ByteArray×fI)=>gz e0.2) x.f)) g d) 1)==toInt (af h 1)&&(ByteArray.toList (toStr (af (de (List.zip (List.map (fun(e0
 :ByteArray×fI)=>Value.string e0.1) x.f) (List.map (fun(e0:ByteArray×fI)=>gz e0.2) x.f)) g d) 2))==ByteArray.toList (toStr (af h 2))&&true))))
 (K (Exit.exit 3) (sp 97 [(0,AV.bJ 8),(3,b 7 0 [] 0),(5,b 10 0 [] 0),(44,AV.ad 70 x.rs),(45,a (↑(x.rs.length):Int)),(46,a
 (↑(x.j):Int))] e)) (∃(e0:Nat),e0<n/\I e0 (sp 97 [(0,AV.bJ 8),(3,b 7 0 [] 0),(5,b 10 0 [] 0),(10,AV.ad 72 x.row),(11,et x.f),(44,
 AV.ad 70 x.rs),(45,a (↑(x.rs.length):Int)),(46,a (↑(x.j):Int)),(72,AV.ad 9 c),(73,a (↑(List.length c):Int)),(74,a
 (IntKind.wrap IntKind.i64 ((↑(x.k):Int)+(1:Int))))] e)))))) (K (Exit.exit 6) (sp 97 [(0,AV.bJ 8),(3,b 7 0 [] 0),(5,b 10 0 [] 0),(11,et
 x.f),(44,AV.ad 70 x.rs),(45,a (↑(x.rs.length):Int)),(46,a (↑(x.j):Int))] e))):=by kernel_rfl
noncomputable def Sa(x:fT):Out (Exit×S):= .an (qh x.f x.row ((aa (af x.a.d 8)).drop x.k) ((aa (af x.a.d 7)).drop x.k))
 (.one (.exit 6,sp 97 [(0, .bJ 8),(3, .ptr 7 0 [] 0),(5, .ptr 10 0 [] 0),(11,et x.f),(44, .ad 70 x.rs),(45, .int x.rs.length),(46, .int x.j)] (AD x.a x.V x.s [])))
 (.one (.exit 3,sp 97 [(0, .bJ 8),(3, .ptr 7 0 [] 0),(5, .ptr 10 0 [] 0),(44, .ad 70 x.rs),(45, .int x.rs.length),(46, .int x.j)] (AD x.a x.V x.s [])))
theorem lVe(κ:Kp):aP (gf κ).E 12 122 17 (aI 9 Rh pn Sa):=by
 refine aD (fun x=>(aa (af x.a.d 8)).length - x.k) ?_;rintro⟨a,V,s,N,rs,j,row,f,k⟩ K ⟨h1,h2⟩ ho;simp only at h1 h2;rw[show(gf κ).E.P=Pr κ from rfl];refine Eq.mpr (xVe κ ⟨a,V,s,N,rs,j,row,f,k⟩ _ _ K) ?_;have hn:=h2.n;simp only[Int.toNat_natCast,Sa,Out.run] at ho⊢;rw[ag,an2,an4];refine⟨fun h=>?_,fun h=>?_⟩
 ·have hk:k<(aa (af a.d 8)).length:=by omega
  have hc:=h2.at hk;rw[uo,show(AV.agg [.bool false, .int 0, .lit (.string (ByteArray.mk #[]))])=gz ⟨false,0,ByteArray.mk #[]⟩ from rfl,tk];rw[Az row f hk (Nat.lt_of_lt_of_le hk h2.l)] at ho;refine ai.2 ⟨by simp;omega,ai.2 ⟨hc.1,ai.2 ⟨hc.2,ag.2 ⟨fun c=>?_,fun c=>⟨_,?_,⟨a,V,s,N,rs,j,row,f,k+1⟩,?_,⟨hk,h2⟩,rfl,?_⟩⟩⟩⟩⟩
  ·rw[show(!lx (f.get (toStr (nth (aa (af a.d 8)) k))) (nth row (toInt (nth (aa (af a.d 7)) k)).toNat))=true from c] at ho
   exact ho
  ·simp only;omega
  ·simp only[Rh]
   rw[ay (n:=(k:Int)+1) (by omega) (by omega)];rfl
  ·rw[show(!lx (f.get (toStr (nth (aa (af a.d 8)) k))) (nth row (toInt (nth (aa (af a.d 7)) k)).toNat))=false from c] at ho
   exact ho
 ·rw[vk row f (show(aa (af a.d 8)).length<=k by omega)] at ho
  exact ho
noncomputable abbrev Ib(x:fT):S:=sp 97 [(0, .bJ 9),(3, .ptr 8 0 [] 0),(5, .ptr 10 0 [] 0),(10, .ad 72 x.row),(11,et x.f),(44, .ad 70 x.rs),(45, .int x.rs.length),(46, .int x.j),(72, .ad 9 (aa (af x.a.d 8))),(73, .int (aa (af x.a.d 8)).length),(74, .int x.k)] (m9 x.a (fD x.a) [])
theorem ak8(κ:Kp)(x:fT)(I:Nat->S->Prop)(n:Nat)(K:Exit->S->Prop):(vc (gf κ).E 12 122 none 10 (ah (Pr κ).toProgram 122 17) (Ib x) (bh (gf κ).E 122 17 10 I n K))=(
 letI a:=AV.int
 letI b:=AV.ptr
 letI d:=AV.agg [AV.bool false,a 0,AV.str {data:= #[]}]
 letI c:=aa (af (bc.d x.a) 8)
 letI i:=(↑(x.k):Int)<(↑(List.length c):Int)
 letI e:=m9 x.a (fD x.a) []
 letI j:=Int.toNat (↑(x.k):Int)
 letI f:=nth (aa (af (bc.d x.a) 7)) j
 letI g:=Value.string (toStr (nth c j))
 letI h:=nth x.row (Int.toNat (toInt f))
 an (decide i) (aG (true&&decide i) (aG (true&&decide ((↑(x.k):Int)<(↑(List.length (aa (af (bc.d x.a) 7))):Int))) (aG (decide ((0:Int)<=toInt f)
 &&decide (toInt f<(↑(x.row.length):Int))) (an (!(Dn.toBool (af (de (List.zip (List.map (fun(e0:ByteArray×fI)=>Value.string e0.1) x.f) (List.map
 (fun(e0:ByteArray×fI)=>gz e0.2) x.f)) g d) 0)==Dn.toBool (af h 0)&&(toInt (af (de (List.zip (List.map (fun(e0:ByteArray×fI)=>Value.string
 e0.1) x.f) (List.map (fun(e0:ByteArray×fI)=>gz e0.2) x.f)) g d) 1)==toInt (af h 1)&&(ByteArray.toList (toStr (af (de (List.zip (List.map (fun(e0
 :ByteArray×fI)=>Value.string e0.1) x.f) (List.map (fun(e0:ByteArray×fI)=>gz e0.2) x.f)) g d) 2))==ByteArray.toList (toStr (af h 2))&&true))))
 (K (Exit.exit 3) (sp 97 [(0,AV.bJ 9),(3,b 8 0 [] 0),(5,b 10 0 [] 0),(44,AV.ad 70 x.rs),(45,a (↑(x.rs.length):Int)),(46,a
 (↑(x.j):Int))] e)) (∃(e0:Nat),e0<n/\I e0 (sp 97 [(0,AV.bJ 9),(3,b 8 0 [] 0),(5,b 10 0 [] 0),(10,AV.ad 72 x.row),(11,et x.f),(44,
 AV.ad 70 x.rs),(45,a (↑(x.rs.length):Int)),(46,a (↑(x.j):Int)),(72,AV.ad 9 c),(73,a (↑(List.length c):Int)),(74,a
 (IntKind.wrap IntKind.i64 ((↑(x.k):Int)+(1:Int))))] e)))))) (K (Exit.exit 6) (sp 97 [(0,AV.bJ 9),(3,b 8 0 [] 0),(5,b 10 0 [] 0),(11,et
 x.f),(44,AV.ad 70 x.rs),(45,a (↑(x.rs.length):Int)),(46,a (↑(x.j):Int))] e))):=by kernel_rfl
noncomputable def Ni(x:fT):Out (Exit×S):= .an (qh x.f x.row ((aa (af x.a.d 8)).drop x.k) ((aa (af x.a.d 7)).drop x.k))
 (.one (.exit 6,sp 97 [(0, .bJ 9),(3, .ptr 8 0 [] 0),(5, .ptr 10 0 [] 0),(11,et x.f),(44, .ad 70 x.rs),(45, .int x.rs.length),(46, .int x.j)] (m9 x.a (fD x.a) [])))
 (.one (.exit 3,sp 97 [(0, .bJ 9),(3, .ptr 8 0 [] 0),(5, .ptr 10 0 [] 0),(44, .ad 70 x.rs),(45, .int x.rs.length),(46, .int x.j)] (m9 x.a (fD x.a) [])))
theorem ah0(κ:Kp):aP (gf κ).E 12 122 17 (aI 10 Ib pn Ni):=by
 refine aD (fun x=>(aa (af x.a.d 8)).length - x.k) ?_;rintro⟨a,V,s,N,rs,j,row,f,k⟩ K ⟨h1,h2⟩ ho;simp only at h1 h2;rw[show(gf κ).E.P=Pr κ from rfl];refine Eq.mpr (ak8 κ ⟨a,V,s,N,rs,j,row,f,k⟩ _ _ K) ?_;have hn:=h2.n;simp only[Int.toNat_natCast,Ni,Out.run] at ho⊢;rw[ag,an2,an4];refine⟨fun h=>?_,fun h=>?_⟩
 ·have hk:k<(aa (af a.d 8)).length:=by omega
  have hc:=h2.at hk;rw[uo,show(AV.agg [.bool false, .int 0, .lit (.string (ByteArray.mk #[]))])=gz ⟨false,0,ByteArray.mk #[]⟩ from rfl,tk];rw[Az row f hk (Nat.lt_of_lt_of_le hk h2.l)] at ho;refine ai.2 ⟨by simp;omega,ai.2 ⟨hc.1,ai.2 ⟨hc.2,ag.2 ⟨fun c=>?_,fun c=>⟨_,?_,⟨a,V,s,N,rs,j,row,f,k+1⟩,?_,⟨hk,h2⟩,rfl,?_⟩⟩⟩⟩⟩
  ·rw[show(!lx (f.get (toStr (nth (aa (af a.d 8)) k))) (nth row (toInt (nth (aa (af a.d 7)) k)).toNat))=true from c] at ho
   exact ho
  ·simp only;omega
  ·simp only[Ib]
   rw[ay (n:=(k:Int)+1) (by omega) (by omega)];rfl
  ·rw[show(!lx (f.get (toStr (nth (aa (af a.d 8)) k))) (nth row (toInt (nth (aa (af a.d 7)) k)).toNat))=false from c] at ho
   exact ho
 ·rw[vk row f (show(aa (af a.d 8)).length<=k by omega)] at ho
  exact ho
noncomputable abbrev Ie(x:fT):S:=sp 97 [(0, .bJ 9),(3, .ptr 8 0 [] 0),(5, .ptr 11 0 [] 0),(10, .ad 72 x.row),(11,et x.f),(44, .ad 70 x.rs),(45, .int x.rs.length),(46, .int x.j),(72, .ad 9 (aa (af x.a.d 8))),(73, .int (aa (af x.a.d 8)).length),(74, .int x.k)] (GW x.a x.N (fD x.a) [])
theorem al1(κ:Kp)(x:fT)(I:Nat->S->Prop)(n:Nat)(K:Exit->S->Prop):(vc (gf κ).E 12 122 none 10 (ah (Pr κ).toProgram 122 17) (Ie x) (bh (gf κ).E 122 17 10 I n K))=(
 letI a:=AV.int
 letI b:=AV.ptr
 letI d:=AV.agg [AV.bool false,a 0,AV.str {data:= #[]}]
 letI c:=aa (af (bc.d x.a) 8)
 letI i:=(↑(x.k):Int)<(↑(List.length c):Int)
 letI e:=GW x.a x.N (fD x.a) []
 letI j:=Int.toNat (↑(x.k):Int)
 letI f:=nth (aa (af (bc.d x.a) 7)) j
 letI g:=Value.string (toStr (nth c j))
 letI h:=nth x.row (Int.toNat (toInt f))
 an (decide i) (aG (true&&decide i) (aG (true&&decide ((↑(x.k):Int)<(↑(List.length (aa (af (bc.d x.a) 7))):Int))) (aG (decide ((0:Int)<=toInt f)
 &&decide (toInt f<(↑(x.row.length):Int))) (an (!(Dn.toBool (af (de (List.zip (List.map (fun(e0:ByteArray×fI)=>Value.string e0.1) x.f) (List.map
 (fun(e0:ByteArray×fI)=>gz e0.2) x.f)) g d) 0)==Dn.toBool (af h 0)&&(toInt (af (de (List.zip (List.map (fun(e0:ByteArray×fI)=>Value.string
 e0.1) x.f) (List.map (fun(e0:ByteArray×fI)=>gz e0.2) x.f)) g d) 1)==toInt (af h 1)&&(ByteArray.toList (toStr (af (de (List.zip (List.map (fun(e0
 :ByteArray×fI)=>Value.string e0.1) x.f) (List.map (fun(e0:ByteArray×fI)=>gz e0.2) x.f)) g d) 2))==ByteArray.toList (toStr (af h 2))&&true))))
 (K (Exit.exit 3) (sp 97 [(0,AV.bJ 9),(3,b 8 0 [] 0),(5,b 11 0 [] 0),(44,AV.ad 70 x.rs),(45,a (↑(x.rs.length):Int)),(46,a
 (↑(x.j):Int))] e)) (∃(e0:Nat),e0<n/\I e0 (sp 97 [(0,AV.bJ 9),(3,b 8 0 [] 0),(5,b 11 0 [] 0),(10,AV.ad 72 x.row),(11,et x.f),(44,
 AV.ad 70 x.rs),(45,a (↑(x.rs.length):Int)),(46,a (↑(x.j):Int)),(72,AV.ad 9 c),(73,a (↑(List.length c):Int)),(74,a
 (IntKind.wrap IntKind.i64 ((↑(x.k):Int)+(1:Int))))] e)))))) (K (Exit.exit 6) (sp 97 [(0,AV.bJ 9),(3,b 8 0 [] 0),(5,b 11 0 [] 0),(11,et
 x.f),(44,AV.ad 70 x.rs),(45,a (↑(x.rs.length):Int)),(46,a (↑(x.j):Int))] e))):=by kernel_rfl
noncomputable def Nj(x:fT):Out (Exit×S):= .an (qh x.f x.row ((aa (af x.a.d 8)).drop x.k) ((aa (af x.a.d 7)).drop x.k))
 (.one (.exit 6,sp 97 [(0, .bJ 9),(3, .ptr 8 0 [] 0),(5, .ptr 11 0 [] 0),(11,et x.f),(44, .ad 70 x.rs),(45, .int x.rs.length),(46, .int x.j)] (GW x.a x.N (fD x.a) [])))
 (.one (.exit 3,sp 97 [(0, .bJ 9),(3, .ptr 8 0 [] 0),(5, .ptr 11 0 [] 0),(44, .ad 70 x.rs),(45, .int x.rs.length),(46, .int x.j)] (GW x.a x.N (fD x.a) [])))
theorem ah3(κ:Kp):aP (gf κ).E 12 122 17 (aI 10 Ie pn Nj):=by
 refine aD (fun x=>(aa (af x.a.d 8)).length - x.k) ?_;rintro⟨a,V,s,N,rs,j,row,f,k⟩ K ⟨h1,h2⟩ ho;simp only at h1 h2;rw[show(gf κ).E.P=Pr κ from rfl];refine Eq.mpr (al1 κ ⟨a,V,s,N,rs,j,row,f,k⟩ _ _ K) ?_;have hn:=h2.n;simp only[Int.toNat_natCast,Nj,Out.run] at ho⊢;rw[ag,an2,an4];refine⟨fun h=>?_,fun h=>?_⟩
 ·have hk:k<(aa (af a.d 8)).length:=by omega
  have hc:=h2.at hk;rw[uo,show(AV.agg [.bool false, .int 0, .lit (.string (ByteArray.mk #[]))])=gz ⟨false,0,ByteArray.mk #[]⟩ from rfl,tk];rw[Az row f hk (Nat.lt_of_lt_of_le hk h2.l)] at ho;refine ai.2 ⟨by simp;omega,ai.2 ⟨hc.1,ai.2 ⟨hc.2,ag.2 ⟨fun c=>?_,fun c=>⟨_,?_,⟨a,V,s,N,rs,j,row,f,k+1⟩,?_,⟨hk,h2⟩,rfl,?_⟩⟩⟩⟩⟩
  ·rw[show(!lx (f.get (toStr (nth (aa (af a.d 8)) k))) (nth row (toInt (nth (aa (af a.d 7)) k)).toNat))=true from c] at ho
   exact ho
  ·simp only;omega
  ·simp only[Ie]
   rw[ay (n:=(k:Int)+1) (by omega) (by omega)];rfl
  ·rw[show(!lx (f.get (toStr (nth (aa (af a.d 8)) k))) (nth row (toInt (nth (aa (af a.d 7)) k)).toNat))=false from c] at ho
   exact ho
 ·rw[vk row f (show(aa (af a.d 8)).length<=k by omega)] at ho
  exact ho
noncomputable abbrev Ih(x:fT):S:=sp 97 [(0, .bJ 9),(3, .ptr 8 0 [] 0),(5, .ptr 10 0 [] 0),(10, .ad 72 x.row),(11,et x.f),(44, .ad 70 x.rs),(45, .int x.rs.length),(46, .int x.j),(72, .ad 9 (aa (af x.a.d 8))),(73, .int (aa (af x.a.d 8)).length),(74, .int x.k)] (m9 x.a (ky x.a .ready none) [])
theorem al3(κ:Kp)(x:fT)(I:Nat->S->Prop)(n:Nat)(K:Exit->S->Prop):(vc (gf κ).E 12 122 none 10 (ah (Pr κ).toProgram 122 17) (Ih x) (bh (gf κ).E 122 17 10 I n K))=(
 letI a:=AV.int
 letI b:=AV.ptr
 letI d:=AV.agg [AV.bool false,a 0,AV.str {data:= #[]}]
 letI c:=aa (af (bc.d x.a) 8)
 letI e:=m9 x.a (ky x.a LoopState.ready none) []
 letI i:=(↑(x.k):Int)<(↑(List.length c):Int)
 letI j:=Int.toNat (↑(x.k):Int)
 letI f:=nth (aa (af (bc.d x.a) 7)) j
 letI g:=Value.string (toStr (nth c j))
 letI h:=nth x.row (Int.toNat (toInt f))
 an (decide i) (aG (true&&decide i) (aG (true&&decide ((↑(x.k):Int)<(↑(List.length (aa (af (bc.d x.a) 7))):Int))) (aG (decide ((0:Int)<=toInt f)
 &&decide (toInt f<(↑(x.row.length):Int))) (an (!(Dn.toBool (af (de (List.zip (List.map (fun(e0:ByteArray×fI)=>Value.string e0.1) x.f) (List.map
 (fun(e0:ByteArray×fI)=>gz e0.2) x.f)) g d) 0)==Dn.toBool (af h 0)&&(toInt (af (de (List.zip (List.map (fun(e0:ByteArray×fI)=>Value.string
 e0.1) x.f) (List.map (fun(e0:ByteArray×fI)=>gz e0.2) x.f)) g d) 1)==toInt (af h 1)&&(ByteArray.toList (toStr (af (de (List.zip (List.map (fun(e0
 :ByteArray×fI)=>Value.string e0.1) x.f) (List.map (fun(e0:ByteArray×fI)=>gz e0.2) x.f)) g d) 2))==ByteArray.toList (toStr (af h 2))&&true))))
 (K (Exit.exit 3) (sp 97 [(0,AV.bJ 9),(3,b 8 0 [] 0),(5,b 10 0 [] 0),(44,AV.ad 70 x.rs),(45,a (↑(x.rs.length):Int)),(46,a
 (↑(x.j):Int))] e)) (∃(e0:Nat),e0<n/\I e0 (sp 97 [(0,AV.bJ 9),(3,b 8 0 [] 0),(5,b 10 0 [] 0),(10,AV.ad 72 x.row),(11,et x.f),(44,
 AV.ad 70 x.rs),(45,a (↑(x.rs.length):Int)),(46,a (↑(x.j):Int)),(72,AV.ad 9 c),(73,a (↑(List.length c):Int)),(74,a
 (IntKind.wrap IntKind.i64 ((↑(x.k):Int)+(1:Int))))] e)))))) (K (Exit.exit 6) (sp 97 [(0,AV.bJ 9),(3,b 8 0 [] 0),(5,b 10 0 [] 0),(11,et
 x.f),(44,AV.ad 70 x.rs),(45,a (↑(x.rs.length):Int)),(46,a (↑(x.j):Int))] e))):=by kernel_rfl
noncomputable def Nk(x:fT):Out (Exit×S):= .an (qh x.f x.row ((aa (af x.a.d 8)).drop x.k) ((aa (af x.a.d 7)).drop x.k))
 (.one (.exit 6,sp 97 [(0, .bJ 9),(3, .ptr 8 0 [] 0),(5, .ptr 10 0 [] 0),(11,et x.f),(44, .ad 70 x.rs),(45, .int x.rs.length),(46, .int x.j)] (m9 x.a (ky x.a .ready none) [])))
 (.one (.exit 3,sp 97 [(0, .bJ 9),(3, .ptr 8 0 [] 0),(5, .ptr 10 0 [] 0),(44, .ad 70 x.rs),(45, .int x.rs.length),(46, .int x.j)] (m9 x.a (ky x.a .ready none) [])))
theorem ah5(κ:Kp):aP (gf κ).E 12 122 17 (aI 10 Ih pn Nk):=by
 refine aD (fun x=>(aa (af x.a.d 8)).length - x.k) ?_;rintro⟨a,V,s,N,rs,j,row,f,k⟩ K ⟨h1,h2⟩ ho;simp only at h1 h2;rw[show(gf κ).E.P=Pr κ from rfl];refine Eq.mpr (al3 κ ⟨a,V,s,N,rs,j,row,f,k⟩ _ _ K) ?_;have hn:=h2.n;simp only[Int.toNat_natCast,Nk,Out.run] at ho⊢;rw[ag,an2,an4];refine⟨fun h=>?_,fun h=>?_⟩
 ·have hk:k<(aa (af a.d 8)).length:=by omega
  have hc:=h2.at hk;rw[uo,show(AV.agg [.bool false, .int 0, .lit (.string (ByteArray.mk #[]))])=gz ⟨false,0,ByteArray.mk #[]⟩ from rfl,tk];rw[Az row f hk (Nat.lt_of_lt_of_le hk h2.l)] at ho;refine ai.2 ⟨by simp;omega,ai.2 ⟨hc.1,ai.2 ⟨hc.2,ag.2 ⟨fun c=>?_,fun c=>⟨_,?_,⟨a,V,s,N,rs,j,row,f,k+1⟩,?_,⟨hk,h2⟩,rfl,?_⟩⟩⟩⟩⟩
  ·rw[show(!lx (f.get (toStr (nth (aa (af a.d 8)) k))) (nth row (toInt (nth (aa (af a.d 7)) k)).toNat))=true from c] at ho
   exact ho
  ·simp only;omega
  ·simp only[Ih]
   rw[ay (n:=(k:Int)+1) (by omega) (by omega)];rfl
  ·rw[show(!lx (f.get (toStr (nth (aa (af a.d 8)) k))) (nth row (toInt (nth (aa (af a.d 7)) k)).toNat))=false from c] at ho
   exact ho
 ·rw[vk row f (show(aa (af a.d 8)).length<=k by omega)] at ho
  exact ho
end Go.Proofs.YtioeffnadipbaaaGreatDoor
