import Derived.Test.YtioeffnadipbaaaGreatDoorDePF
import Derived.Test.YtioeffnadipbaaaGreatDoorDeP9
namespace Go.Proofs.YtioeffnadipbaaaGreatDoor
open Go Go.Dn Go.Rl Go.Proofs
def rC t:=toStr (ag (ag t 1) 0)
def ac9(x y:vh) t:=(toInt (ag t 0)=1->∀w,w∈x.at (rC t)->w∈y.at (rC t))/\(ik (toInt (ag t 0))=true->toInt (ag t 0)≠1->x.at (rC t)=y.at (rC t))
theorem IK{x y}(c:x.r=y.r): ∀a e r,(∀k,k∈a->ac9 x y (nth x.r.bl k))->r∈pO x a e->r∈pO y a e
 |[],e,r,_,h=>by rw[pO] at h⊢;rwa [←c]
 | k::a,e,r,i,h=>by
  have j:=fun e=>IK c a e r (fun k b=>i k (by simp[b]))
  have b:=i k (by simp);rw[pO] at h⊢;rw[←c];simp only at h⊢;unfold ac9 rC at b;generalize nth x.r.bl k=t at h b⊢
  cases f:toInt (ag t 0)==1 with
  |true=>
   rw[f,aq3] at h;obtain⟨g,l,d⟩:=List.mem_flatMap.1 h;obtain⟨w,n,m⟩:=List.mem_filterMap.1 l;exact List.mem_flatMap.2 ⟨g,List.mem_filterMap.2 ⟨w,b.1 (by simpa using f) w n,m⟩,j g d⟩
  | false=>
   rw[f,aq1] at h;rw[aq1];cases d:ik (toInt (ag t 0)) with
   |true=>
    grind
   |false=>
    unfold ik at d
    grind
def ak0 ds(A C:List RL) t:=(toInt (ag t 0)=1->∀w,w∈A.getD (bx (rC t) ds).toNat []->w∈C.getD (bx (rC t) ds).toNat [])/\(ik (toInt (ag t 0))=true->toInt (ag t 0)≠1->A.getD (bx (rC t) ds).toNat []=C.getD (bx (rC t) ds).toNat [])
theorem MI{ds c a r A C}(l: ∀L,L∈A->fR L)(o: ∀L,L∈C->fR L)(h: ∀t,t∈r.bl->ak0 ds A C t) x(g:x∈dF ds c r A):x∈dF ds a r C:=by
 have i:fR (pO (Fv ds c r A) (cQ (aQ r)) []):=rq (vn l) _ Im;have j:fR (pO (Fv ds a r C) (cQ (aQ r)) []):=rq (vn o) _ Im;refine((jH j).2.1 x).2 (IK (x:=Fv ds c r A) (y:=Fv ds a r C) rfl _ _ _ (fun k b=>?_) (((jH i).2.1 x).1 g));have b:=sl b;rw[gh] at b;obtain⟨m,n⟩:=h (nth r.bl k) (by rw[aM _ k b];simp);refine⟨fun e w d=>?_,fun p q=>?_⟩
 ·rw[sO] at d⊢
  obtain⟨L,f,rfl⟩:=List.mem_map.1 d;exact List.mem_map_of_mem (m e L f)
 ·rw[sO,sO]
  exact congrArg rws (n p q)
theorem qU: ∀{Y X},cK X=true->cK Y=true->(∀r,r∈X->r∈Y)->X.Sublist Y
 |[],[],_,_,_=> .slnil
 |[],a::X,_,_,h=>nomatch h a (by simp)
 |b::Y,[],_,_,_=>List.nil_sublist _
 | b::Y,a::X,d,f,h=>by
  obtain⟨j,g⟩:=c9.1 d;obtain⟨l,e⟩:=c9.1 f;have m:=fun c=>bQ.swap a c
  rcases List.mem_cons.1 (h a (by simp)) with rfl|k
  ·refine(qU g e fun r i=>?_).cons_cons _
   grind
  ·refine(qU d e fun r i=>?_).cons _
   grind
def Le(A C:List RL):=∀i x,x∈A.getD i []->x∈C.getD i []
def TM(F:Nat->Prop)(A C:List RL):=∀i,¬ F i->A.getD i []=C.getD i []
theorem Le.refl A:Le A A:=fun _ _ h=>h
theorem Le.trans{A B C}(h:Le A B)(k:Le B C):Le A C:=fun i x a=>k i x (h i x a)
theorem pf{ds A}(h:dU ds A) i:fR (A.getD i [])/\cK (A.getD i [])=true:=by
 rcases Nat.lt_or_ge i _ with a|a
 ·exact⟨h.v _ (k9 a),h.r _ (k9 a)⟩
 ·rw[List.getD_eq_getElem?_getD,List.getElem?_eq_none a]
  exact⟨fun _ h=>(nomatch h),rfl⟩
theorem Le.sub{ds A C}(a:dU ds A)(b:dU ds C)(h:Le A C) i:(A.getD i []).Sublist (C.getD i []):=qU (pf a i).2 (pf b i).2 (h i)
theorem Z7{A C:List RL}(a:A.length=C.length)(h: ∀i,A.getD i []=C.getD i []):A=C:=by
 refine List.ext_getElem a fun i c b=>?_
 have:=h i
 grind
theorem Tu: ∀{A C},A.length=C.length->(∀i,(A.getD i []).length<=(C.getD i []).length)->cC A<=cC C
 |[],_,_,_=>Nat.zero_le _
 |a::A,[],b,_=>nomatch b
 |a::A,c::C,b,h=>by
  have e:=Tu   (by grind) fun i=>h (i+1)
  have d:=h 0;simp[cC,List.sum_cons,List.getD_cons_zero] at e d⊢;omega
theorem Le.tot{ds A C}(a:dU ds A)(b:dU ds C)(h:Le A C):cC A<=cC C:=
 Tu (by rw[a.len,b.len]) fun i=>(h.sub a b i).length_le
variable {ds rs:List AV} {F:Nat->Prop} {g:List Int} {bc:Nat}
theorem MB(h:iQ ds rs){r}(b:r∈rs){A}(a:dU ds A) i x:x∈(iK ds rs r A).getD i []↔x∈A.getD i []\/i=atR ds r/\x∈dF ds rs (dr r) A:=by
 have c:atR ds r<A.length:=by rw[a.len];exact(h.at b).2
 grind [gq,pf,u6,iK]
theorem Cl{r A}(h:F (atR ds r)):TM F (iK ds rs r A) A:=fun i a=>by
 grind [iK]
theorem KK(h:iQ ds rs){r}(g:r∈rs){A}(c:dU ds A)(i: ¬ (A.getD (atR ds r) []).length<(er (A.getD (atR ds r) []) (dF ds rs (dr r) A)).length):iK ds rs r A=A/\∀x,x∈dF ds rs (dr r) A->x∈A.getD (atR ds r) []:=by
 obtain⟨b,d,_⟩:=u6 h g c;have a:=pf c (atR ds r);have e:=(qU a.2 (ml a.1 b a.2 d) fun x f=>(gq a.1 b).2 (.inl f)).eq_of_length_le (by omega)
 grind [Z7,iK,List.length_set,gq]
def Abs ds a(g:List _) F C:=∀r,r∈a->g.contains (bx (dr r).rel ds)=true->F (atR ds r)/\∀A,dU ds A->Le A C->TM F A C->∀x,x∈dF ds a (dr r) A->x∈C.getD (atR ds r) []
def Clo ds a(g:List _) C:=∀r,r∈a->g.contains (bx (dr r).rel ds)=true->∀x,x∈dF ds a (dr r) C->x∈C.getD (atR ds r) []
theorem z6(h:iQ ds rs){C}(f:Abs ds rs g F C): ∀xs A m,(∀r,r∈xs->r∈rs)->dU ds A->Le A C->TM F A C->Le (cu ds rs g bc xs A m).1 C/\TM F (cu ds rs g bc xs A m).1 C
 |[],A,m,_,_,d,e=>⟨d,e⟩
 | r::xs,A,m,k,j,d,e=>by
  have b: ∀r,r∈xs->r∈rs:=fun r c=>k r (by simp[c])
  have c:=k r (by simp);rw[cu];cases decide (bc<cC A) with
  |true=>exact⟨d,e⟩
  | false=>
   rw[aq1];cases l:g.contains (bx (dr r).rel ds) with
   |false=>exact z6 h f xs A m b j d e
   |true=>
    obtain⟨n,o⟩:=f r c l;refine z6 h f xs _ _ b (pe h c j).1 (fun i x a=>?_) (fun i a=>(Cl n i a).trans (e i a));rcases(MB h c j i x).1 a with a|⟨rfl,p⟩
    ·exact d i x a
    grind
theorem Ix(h:iQ ds rs){C}(c:Abs ds rs g F C): ∀n A,dU ds A->Le A C->TM F A C->Le (ft ds rs g bc n A) C/\TM F (ft ds rs g bc n A) C
 |0,A,_,a,b=>⟨a,b⟩
 |n+1,A,d,a,b=>by
  have k:=z6 (bc:=bc) h c rs A false (by simp) d a b;rw[ft];cases(cu ds rs g bc rs A _).2 with
  |true=>exact Ix h c n _ (lC h g _ rs A _ (by simp) d).1 k.1 k.2
  |false=>exact k
theorem zZ(h:iQ ds rs)(d: ∀r,r∈rs->g.contains (bx (dr r).rel ds)=true->F (atR ds r)): ∀xs A m,(∀r,r∈xs->r∈rs)->dU ds A->Le A (cu ds rs g bc xs A m).1/\TM F A (cu ds rs g bc xs A m).1
 |[],A,m,_,_=>⟨Le.refl _,fun _ _=>rfl⟩
 | r::xs,A,m,f,e=>by
  have b: ∀r,r∈xs->r∈rs:=fun r a=>f r (by simp[a])
  have a:=f r (by simp);rw[cu];cases decide (bc<cC A) with
  |true=>exact⟨Le.refl _,fun _ _=>rfl⟩
  | false=>
   rw[aq1];cases l:g.contains _ with
   |false=>exact zZ h d xs A m b e
   |true=>
    obtain⟨j,k⟩:=zZ h d xs (iK ds rs r A) _ b (pe h a e).1;exact⟨fun i x c=>j i x ((MB h a e i x).2 (.inl c)),fun i c=>((Cl (d r a l) i c).symm.trans (k i c))⟩
theorem I6(h:iQ ds rs)(c: ∀r,r∈rs->g.contains (bx (dr r).rel ds)=true->F (atR ds r)): ∀n A,dU ds A->Le A (ft ds rs g bc n A)/\TM F A (ft ds rs g bc n A)
 |0,A,_=>⟨Le.refl _,fun _ _=>rfl⟩
 | n+1,A,b=>by
  obtain⟨d,e⟩:=zZ  h c rs A false (by simp) b;rw[ft];cases(cu ds rs g bc rs A _).2 with
  |true=>
   obtain⟨f,j⟩:=I6 h c n _ (lC h g bc rs A false (by simp) b).1;exact⟨d.trans f,fun i a=>(e i a).trans (j i a)⟩
  |false=>grind
theorem tw: ∀xs A,(cu ds rs g bc xs A true).2=false->bc<cC (cu ds rs g bc xs A true).1
 |[],A,h=>nomatch h
 | r::xs,A,h=>by
  rw[cu] at h⊢;by_cases c:bc<cC A
  ·grind
  ·rw[aq0 c] at h⊢
   cases a:g.contains _ with
   |false=>rw[a] at h;exact tw _ A h
   |true=>rw[a] at h;exact tw xs _ h
theorem vo(h:iQ ds rs): ∀xs A,(∀r,r∈xs->r∈rs)->dU ds A->(cu ds rs g bc xs A false).2=false->cC (cu ds rs g bc xs A false).1<=bc->(cu ds rs g bc xs A false).1=A/\∀r,r∈xs->g.contains (bx (dr r).rel ds)=true->∀x,x∈dF ds rs (dr r) A->x∈A.getD (atR ds r) []
 |[],A,_,_,_,_=>⟨rfl,fun _ h=>(nomatch h)⟩
 | r ::xs,A,k,j,b,a=>by
  have f: ∀r,r∈xs->r∈rs:=fun r i=>k r (by simp[i])
  have i:=k r (by simp);rw[cu] at b a⊢;by_cases c:bc<cC A
  ·rw[aq2 c] at a
   exact absurd (show cC A<=bc from a) (by omega)
  ·rw[aq0 c,aq1] at b a⊢
   cases l:g.contains (bx (dr r).rel ds) with
   |false=>
    rw[l] at b a;obtain⟨m,n⟩:=vo h xs A f j b a
    grind
   | true=>
    rw[l] at b a;simp only[Bool.not_true,aq1,Bool.false_or] at b a⊢;by_cases d:(A.getD (atR ds r) []).length<(er (A.getD (atR ds r) []) (dF ds rs (dr r) A)).length
    ·rw[aq2 d] at b a
     have:=tw xs _ b
     omega
    ·rw[aq0 d] at b a⊢
     obtain⟨e,o⟩:=KK h i j d;rw[e] at b a⊢;obtain⟨m,n⟩:=vo h xs A f j b a
     grind
theorem DR(h:iQ ds rs): ∀n A,dU ds A->bc<cC A+n->cC (ft ds rs g bc n A)<=bc->Clo ds rs g (ft ds rs g bc n A)
 |0,A,_,i,a=>absurd (show cC A<=bc from a) (by omega)
 | n+1,A,c,i,a=>by
  obtain⟨e,k,f,_⟩:=lC h g bc rs A false (by simp) c;rw[ft] at a⊢;cases b:(cu ds rs g bc rs A false).2 with
  |true=>
   rw[b] at a;have:=(f b).resolve_left (by simp)
   exact DR h n _ e (by omega) a
  |false=>
   rw[b] at a;obtain⟨j,d⟩:=vo h rs A (by simp) c b a;rw[j];exact d
theorem X8{l}(h:jl l=true)(b:ik l.op=true)(a:l.op≠1):ig l.op=true:=by
 unfold ig;by_cases c:l.op=2
 ·grind
 ·rw[aq0 c,aq1,ap6]
  grind [Int.lt_or_le,ik,jl]
theorem Rj{ds b}(h:iQ ds b){r}(d:r∈b){t}(e:t∈(dr r).bl)(f:ik (toInt (ag t 0))=true)(g:toInt (ag t 0)≠1):ig (toInt (ag t 0))=true:=by
 have a:=(uP h.s h.c d).r;simp[a8] at a;exact X8 (a.2 _ (List.mem_map_of_mem e)) f g
section
variable {ds rs rs':List AV} {g:List Int} {bc:Nat}
end
end Go.Proofs.YtioeffnadipbaaaGreatDoor
namespace Go.Proofs.YtioeffnadipbaaaGreatDoor
open Go Go.Dn Go.Rl Go.Proofs
attribute [local irreducible] a0 vc
set_option maxRecDepth 20000
noncomputable abbrev VH(A B:List AV):Dn.Obj:= .loop (iI Tryz.prog 22 5 .ready none (gX (bM 35) [(0, .ah 70 A),(1, .ah 70 B),(4, .nil),(5, .int 0),(6, .ptr 0 0 [] 0),(9, .ah 70 A),(10, .bool (cK (cU A))),(11, .bool !cK (cU A)),(12, .bool false),(13, .ah 70 B),(14, .bool (cK (cU B))),(15, .bool !cK (cU B)),(16, .bool false),(17, .ah 70 A),(18, .ah 70 B),(19, .bm 82 nN)]))
noncomputable abbrev tH(A B:List AV):List Dn.Obj:=[.box 51 .nil, .box 51 (.ah 70 A), .box 51 (.ah 70 B),VH A B]
noncomputable abbrev Am(A B:List AV):List Dn.Obj:=[.box 51 (.ak 4 0 0), .dead, .dead,VH A B, .row 70 []]
theorem sMz(κ:Kp)(A B:List AV)(Q:List Dn.Obj->Prop):(tidy (Pr κ).toProgram 4 (dt (tH A B) (bV (tH A B) nN)) Q)=(
 Q (Am A B)):=by kernel_rfl
theorem rMz(κ:Kp)(A B t:List AV)(p q:Bool)(Q:List Dn.Obj->Prop)(K2:List Dn.Obj->Prop):(fQ (vc (Xi κ).E 12) 3 [.ah 72 t, .agg [.bool p, .bool q]] (Am A B) (fun r st''=>match r with| .lit (.bool true)=>tidy (Pr κ).toProgram 4 st'' Q| .lit (.bool false)=>K2 st''|_=>False))=(
 aq (!p) (Q (Am A B)) (aq q (Q (Am A B)) (∃(a:List AV),([AV.ah 72 t],[])=NF a/\a.length<=100000000/\Q [Obj.box 51 (AV.ak 4 0 1),Obj.dead,
 Obj.dead,VH A B,Obj.row 70 [AV.ah 72 a]]))):=by kernel_rfl
theorem oMz(A B:List AV):lT (tH A B) nN=true:=by kernel_rfl
theorem kMz(A B xs:List AV):(AV.cf 0::fC (ia (bV (tH A B) nN)) nN,Obj.ext (some xs)::fU (ia (bV (tH A B) nN)) (fV (tH A B) (bV (tH A B) nN)))=([.cf 0, .ptr 1 0 [] 0, .ptr 2 0 [] 0], .ext (some xs)::nP A B):=by kernel_rfl
structure Vh(A B:List AV):Prop where
 a:eR A=true
 b:eR B=true
 s: ∀x,x∈fZ (cU A) (cU B)->(x.2.1&& !x.2.2)=false
noncomputable def Y6:eh:=fun caps st K=>∃A B:List AV,(caps,st)=(nN,tH A B)/\Vh A B/\K (Am A B)
theorem JM:Y6.fY:=by
 rintro caps st K K' hK ⟨A,B,h1,h2,h3⟩;exact⟨A,B,h1,h2,hK _ h3⟩
theorem Wj(κ:Kp)(args:List AV)(st:List Dn.Obj)(K:AV->List Dn.Obj->Prop)(h:aO Wp tt MQ args st K):(Xi κ).E.call 82 args st K:=h
theorem gMz(κ:Kp):iw (Xi κ).E 12 82 Y6:=by
 rintro caps st K ⟨A,B,h1,hf,h5⟩;obtain⟨rfl,rfl⟩:=Prod.mk.inj (show(caps,st)=(nN,tH A B) from h1);refine⟨Eo (fZ (cU A) (cU B)),fun items st'=>∃E2:List BI,items=Eo E2/\st'=Am A B/\∀x,x∈E2->(x.2.1&& !x.2.2)=false,⟨oMz A B,?_,?_,?_,?_⟩⟩
 ·refine Wj κ _ _ _ ⟨⟨A,B,Eo (fZ (cU A) (cU B))⟩,?_,⟨rfl,hf.a,hf.b⟩,fun st' h=>h⟩
  rw[kMz];rfl
 ·rw[show(Xi κ).E.P=Pr κ from rfl,show(tH A B).length=4 from rfl,sMz]
  exact⟨_,rfl,rfl,hf.s⟩
 ·rintro us rest st' ⟨E2,e1,rfl,e3⟩
  cases E2 with
  |nil=>cases e1
  |cons x E2=>
   obtain⟨t,p,q⟩:=x;obtain⟨hu,rfl⟩:=List.cons.inj e1;obtain rfl:=AV.aH.inj hu;rw[show(Xi κ).E.P=Pr κ from rfl,show(tH A B).length=4 from rfl,show(4:Nat) - 1=3 from rfl];have next: ∃E3:List BI,Eo E2=Eo E3/\Am A B=Am A B/\∀x,x∈E3->(x.2.1&& !x.2.2)=false:=⟨E2,rfl,rfl,fun x hx=>e3 x (by simp[hx])⟩
   have hpq:(p&& !q)=false:=e3 (t,p,q) (by simp);refine Eq.mpr (rMz κ A B t p q (fun st'=>∃E3:List BI,Eo E2=Eo E3/\st'=Am A B/\∀x,x∈E3->(x.2.1&& !x.2.2)=false) K) ?_;refine ae.2 ⟨fun _=>next,fun c=>ae.2 ⟨fun _=>next,fun c2=>?_⟩⟩;rw[show p=true by simpa using c,c2] at hpq;cases hpq
 ·rintro st' ⟨E2,e1,rfl,e3⟩
  exact h5
noncomputable def Wy(κ:Kp):EB:=(Xi κ).range 22 5 JM (gMz κ) (fun f=>iD f (82::JJ))
theorem yMz(κ:Kp)(A B:List AV)(K:AV->List Dn.Obj->Prop):(a0 (Wy κ).E 12 22 [.ah 70 A, .ah 70 B] [] K)=(
 letI a:=K (AV.aH [AV.nil,AV.int 80]) []
 aV (eR A) (aq (!cK (cU A)) a (aV (eR B) (aq (!cK (cU B)) a (∃(e1:List AV),∃(e0:List AV),([AV.ptr 1 0 [] 0,AV.ptr 2 0 [] 0],tH A B)=([AV.ptr 1 0 []
 0,AV.ptr 2 0 [] 0],tH e1 e0)/\Vh e1 e0/\K (AV.aH [AV.ak 0 0 0,AV.int 0]) [Obj.row 70 []]))))):=by kernel_rfl
theorem RD(a b:List AV)(cs bs:RL):fZ (a::cs) (b::bs)=bif decide (bz a b<0) then(a,true,false)::fZ cs (b::bs) else bif decide (bz a b=0) then(a,true,true)::fZ cs bs else(b,false,true)::fZ (a::cs) bs:=rfl
theorem Aw{A B:RL}(hA:fR A)(hB:fR B)(rA:cK A=true)(rB:cK B=true)(h: ∀r,r∈A->r∈B): ∀x,x∈fZ A B->(x.2.1&& !x.2.2)=false:=by
 match A,B with
 |[],B=>
  intro x hx;obtain⟨b,_,rfl⟩:=List.mem_map.1 hx;rfl
 |a::cs,[]=>exact nomatch h a (by simp)
 | a ::cs,b::bs=>
  have hA':fR cs:=fun s hs=>hA s (by simp[hs])
  have hB':fR bs:=fun s hs=>hB s (by simp[hs])
  obtain⟨k1,k2⟩:=c9.1 rA;obtain⟨l1,l2⟩:=c9.1 rB;rw[RD];by_cases h1:bz a b<0
  ·exfalso
   rcases List.mem_cons.1 (h a (by simp)) with rfl|ha
   ·have:=bQ.self a;omega
   ·have e1:=l1 a ha
    have:=bQ.swap a b;omega
  ·rw [aq0 h1,aq1]
   by_cases h2:bz a b=0
   ·obtain rfl:=pF (hA a (by simp)) (hB b (by simp)) h2
    rw[aq2 h2,aq3];intro x hx;rcases List.mem_cons.1 hx with rfl|hx
    ·rfl
    ·refine Aw hA' hB' k2 l2 (fun r hr=>?_) x hx
     rcases List.mem_cons.1 (h r (by simp[hr])) with rfl|hr'
     ·have:=k1 _ hr;omega
     ·exact hr'
   ·rw [aq0 h2,aq1]
    intro x hx;rcases List.mem_cons.1 hx with rfl|hx
    ·rfl
    ·refine Aw hA hB' rA l2 (fun r hr=>?_) x hx
     rcases List.mem_cons.1 (h r hr) with rfl|hr'
     ·exfalso
      rcases List.mem_cons.1 hr with rfl|hr
      ·exact h2 (bQ.self _)
      ·have:=k1 _ hr
       have:=bQ.swap a r;omega
     ·exact hr'
termination_by A.length+B.length
def Zm(x:P2):List AV×List Dn.Obj:=([.ah 70 x.1, .ah 70 x.2],[])
structure GW(x:P2):Prop where
 f:Vh x.1 x.2
 a:cK (cU x.1)=true
 b:cK (cU x.2)=true
def Y7(_:P2):Out (AV×List Dn.Obj):= .one (.aH [.ak 0 0 0, .int 0],[.row 70 []])
theorem cMz(κ:Kp):bd (Wy κ).E 12 22 (aO Zm GW Y7):=by
 refine aR ?_;rintro⟨A,B⟩ K ⟨hf,h1,h2⟩ ho;simp only at hf h1 h2;refine Eq.mpr (yMz κ A B K) (ai.2 ⟨hf.a,?_⟩);rw[h1];refine ai.2 ⟨hf.b,?_⟩;rw[h2];exact⟨A,B,rfl,hf,ho⟩
noncomputable def VY(κ:Kp):EB:=((Wy κ).call (cMz κ)).calm [22]
end Go.Proofs.YtioeffnadipbaaaGreatDoor
namespace Go.Proofs.YtioeffnadipbaaaGreatDoor
open Go Go.Dn Go.Rl Go.Proofs
def DQ(t:AV):Bool:=bif toInt (ag t 0)==2 then true else decide (toInt (ag t 0)>=7)
def uH(r:AV):Bool:=!(af (ag r 1)).any DQ
section
variable {ds rs:List AV} {bc:Nat}
theorem O6(h:iQ ds rs){r:AV}(l:r∈rs)(b:uH r=true){A C:List RL}(e:dU ds A)(f:dU ds C)(g:Le A C){i j:List AV}(x:List AV)(k:x∈dF ds i (dr r) A):x∈dF ds j (dr r) C:=by
 refine MI e.v f.v (fun t d=>⟨fun _ w m=>g _ w m,fun n o=>?_⟩) x k;have a:=Rj h l d n o
 exfalso
 simp only[uH,Bool.not_eq_true',List.any_eq_false] at b;refine b t d ?_;unfold ig at a;unfold DQ;by_cases c:toInt (ag t 0)=2
 ·rw[c];rfl
 ·rw[aq0 c,aq1] at a
  rw[show(toInt (ag t 0)==2)=false by simpa using c,aq1];exact a
theorem yM(h:iQ ds rs)(o: ∀r,r∈rs->uH r=true)(e:bc<=50): ∀(a:List (List Int)) (A b:List RL),dU ds A->dU ds b->Le b A->cC (gT ds rs bc a A)<=bc->Le (gT ds rs bc a b) (gT ds rs bc a A)
 |[],_,_,_,_,h,_=>h
 |g::a,A,b,i,c,j,l=>by
  have d:=(uR h g bc 99 A i).1;have f:=(uR h g bc 99 b c).1;have l:cC (gT ds rs bc a (ft ds rs g bc 99 A))<=bc:=l;have w:=(BD h bc a _ d).2.1;have p:=DR (bc:=bc) (g:=g) h 99 A i (by omega) (by omega);obtain⟨q,_⟩:=I6 (bc:=bc) (g:=g) (F:=fun _=>True) h (fun _ _ _=>trivial) 99 A i;have s:=(Ix (bc:=bc) h (C:=ft ds rs g bc 99 A) (F:=fun _=>True) (fun r m u=>⟨trivial,fun v n e _ x t=>p r m u x (O6 h m (o r m) n d e x t)⟩) 99 b c (j.trans q) (fun _ k=>absurd trivial k)).1;exact yM h o e a _ _ d f s l
end
def xp(a xs:List AV):Prop:=a.length=xs.length/\∀i,∃n,af (nth a i)=(af (nth xs i)).take n
theorem xp.tl{b x:AV}{a xs:List AV}(h:xp (b::a) (x::xs)):(∃n,af b=(af x).take n)/\xp a xs:=⟨h.2 0,by simpa using h.1,fun i=>h.2 (i+1)⟩
theorem HU: ∀{xs a:List AV} {n b:Nat},xp a xs->b<=n->uE xs n=true->uE a b=true
 |[],[],_,_,_,_,_=>rfl
 |[],_::_,_,_,h,_,_=>nomatch h.1
 |_::_,[],_,_,h,_,_=>nomatch h.1
 |x::xs,i::a,n,b,h,k,d=>by
  obtain⟨⟨m,e⟩,g⟩:=h.tl;simp only[uE,ap7,ap6,Bool.not_eq_true',List.any_eq_false] at d⊢;obtain⟨o,f,j⟩:=d;have l:(af i).length<=(af x).length:=by rw[e,List.length_take];omega
  exact⟨by omega,fun r c=>f r (by rw[e] at c;exact List.mem_of_mem_take c),HU g (by omega) j⟩
theorem zQ: ∀{L:RL} (n:Nat),cK L=true->cK (L.take n)=true
 |[],n,_=>by cases n<;>rfl
 |_::_,0,_=>rfl
 |a::L,n+1,h=>by
  obtain⟨d,e⟩:=c9.1 h;exact c9.2 ⟨fun b c=>d b (List.mem_of_mem_take c),zQ n e⟩
theorem Cm: ∀{xs a ds:List AV},xp a xs->qf xs ds=true->qf a ds=true
 |[],[],_,_,_=>rfl
 |[],_::_,_,h,_=>nomatch h.1
 |_::_,[],_,h,_=>nomatch h.1
 |_::_,_::_,[],_,h=>nomatch h
 |x::xs,i::a,d::ds,h,b=>by
  obtain⟨⟨m,e⟩,f⟩:=h.tl;rw[qf,ap7] at b⊢;refine⟨?_,Cm f b.2⟩;have c:=b.1;simp only[x1,ap7,WE,List.all_eq_true] at c⊢;rw[e];refine⟨fun r g=>c.1 r (List.mem_of_mem_take g),?_⟩;rw[cU,List.map_take];exact zQ m c.2
theorem Ov{xs c:List AV}(h:xp c xs)(l:TS xs):TS c:=by
 have g: ∀b,b∈c->∃x,x∈xs/\∃n,af b=(af x).take n:=fun b a=>by
  obtain⟨i,p,rfl⟩:=List.getElem_of_mem a;have j:i<xs.length:=by have:=h.1;omega
  obtain⟨n,e⟩:=h.2 i;rw[aM _ i p,aM _ i j] at e;exact⟨_,List.getElem_mem j,n,e⟩
 refine⟨?_,fun b a r d=>?_,fun b a r d=>?_⟩
 ·have o:=l.f
  have q:=h.1;simp only[iL,ap7,ap6,List.all_eq_true] at o⊢;refine⟨by omega,fun b a=>?_⟩;obtain⟨x,k,n,e⟩:=g b a;have m:=o.2 x k;simp only[eR,ap7,ap6,List.all_eq_true] at m⊢;rw[e];exact⟨by rw[List.length_take];omega,fun r d=>m.2 r (List.mem_of_mem_take d)⟩
 ·obtain⟨x,k,n,e⟩:=g b a
  rw[e] at d;exact l.r x k r (List.mem_of_mem_take d)
 ·obtain⟨x,k,n,e⟩:=g b a
  rw[e] at d;exact l.v x k r (List.mem_of_mem_take d)
theorem yW{ds c xs b:List AV}(h:xp b xs)(a:jy ds c xs=true):jy ds c b=true:=by
 have d:=h.1;simp only[jy,ap7,ap6] at a⊢;exact⟨a.1,a.2.1,by omega,a.2.2.2.1,HU h (Nat.le_refl _) a.2.2.2.2⟩
theorem KM{ds c xs a:List AV}(h:xp a xs)(b:jZ ds c xs=true):jZ ds c a=true:=by
 simp only[jZ,ap7,ap6] at b⊢;exact⟨b.1,h.1.trans b.2.1,Cm h b.2.2⟩
theorem Wg{xs b:List AV}(h:xp b xs)(l: ∀L,L∈fE xs->fR L)(c: ∀L,L∈fE b->fR L):Le ((fE b).map ej) ((fE xs).map ej):=by
 have d: ∀(a:List AV) (i:Nat),((fE a).map ej).getD i []=ej (cU (af (nth a i))):=fun a i=>by
  rw[←u9];simp only[List.getD_eq_getElem?_getD,List.getElem?_map];cases(fE a)[i]? <;>rfl
 intro i x j;rw[d] at j⊢;have g: ∀(a:List AV),(∀L,L∈fE a->fR L)->fR (cU (af (nth a i))):=fun a m=>by
  rcases Nat.lt_or_ge i a.length with k|k
  ·rw[aM _ i k];exact m _ (List.mem_map_of_mem (List.getElem_mem k))
  ·rw[eV _ i k];exact fun _ h=>nomatch h
 obtain⟨n,e⟩:=h.2 i;have f:=((jH (g b c)).2.1 x).1 j;rw[e,cU,List.map_take] at f;exact((jH (g xs l)).2.1 x).2 (List.mem_of_mem_take f)
theorem QS{ds a xs b:List AV}{bc:Nat}(h:xp b xs)(x:TS xs)(s:jy ds a xs=true)(E: ∀r,r∈a->uH r=true)(q:1<=bc)(l:bc<=50)(d:pq ds a xs (fE xs) bc=0):
  pq ds a b (fE b) bc=0/\Le (jx ds a (fE b) bc) (jx ds a (fE xs) bc)/\iG ds a bc (jx ds a (fE xs) bc)/\iG ds a bc (jx ds a (fE b) bc)/\cC (jx ds a (fE xs) bc)<=bc:=by
 have s1:=u0 x s q l;have s2:=u0 (Ov h x) (yW h s) q l;have t:=s1.o;have z:=s2.o;simp only at t z;have g:(uQ ds a).2=0:=by
  unfold pq at d;by_cases c:(uQ ds a).2=0
  ·exact c
  ·rw[aq0 c] at d;exact d
 have j:jZ ds a xs=true:=by
  unfold pq at d;rw[aq2 g] at d;cases c:jZ ds a xs with
  |true=>rfl
  |false=>rw[c] at d;cases d
 have e:=KM h j;obtain⟨C,D,m,k⟩:=Ra s1.o d;simp only at C D m k;have w:=t g j;have y:=z g e;have u:Le (jx ds a (fE b) bc) (jx ds a (fE xs) bc):=yM w.p E l _ _ _ w.A y.A (Wg h (fun L n=>((s1.i j).f L n).v) (fun L n=>((s2.i e).f L n).v)) m;have B:iG ds a bc (jx ds a (fE b) bc):=iG.eval _ y;have F:=Le.tot B.A k.A u;refine⟨?_,u,k,B,m⟩;unfold pq;rw[aq2 g,e,aq0 (by omega)];rfl
end Go.Proofs.YtioeffnadipbaaaGreatDoor
namespace Go.Proofs.YtioeffnadipbaaaGreatDoor
open Go Go.Dn Go.Rl Go.Proofs
attribute [local irreducible] a0 vc
set_option maxRecDepth 20000
structure Yn where
 ds:List AV
 rs:List AV
 i:Nat
 k:Nat
abbrev Vr(x:Yn):S:=sp 40 [(1, .ptr 0 0 [] 0),(3, .int x.i),(4, .int x.k)] [.box 25 (eG x.ds x.rs)]
theorem xPk(κ:Kp)(x:Yn)(I:Nat->S->Prop)(n:Nat)(K:Exit->S->Prop):(vc (VY κ).E 12 21 none 0 (ad (Pr κ).toProgram 21 5) (Vr x) (bj (VY κ).E 21 5 0 I n K))=(
 letI a:=af (ag (nth x.rs (Int.toNat (↑(x.i):Int))) 1)
 letI b:=true&&decide ((↑(x.i):Int)<(↑(x.rs.length):Int))
 letI c:=(↑(x.k):Int)<(↑(List.length a):Int)
 letI d:=ag (nth a (Int.toNat (↑(x.k):Int))) 0
 letI e:=K Exit.ret (sp 40 [(2,AV.bool false)] [])
 aV b (aq (decide c) (aV b (aV (true&&decide c) (aq (toInt d==(2:Int)) e (aq (decide (toInt d>=(7:Int))) e (∃(e0:Nat),e0<n/\I e0 (sp 40
 [(1,AV.ptr 0 0 [] 0),(3,AV.int (↑(x.i):Int)),(4,AV.int (IntKind.wrap IntKind.i64 ((↑(x.k):Int)+(1:Int))))] [Obj.box 25 (eG x.ds x.rs)])))))) (K
 (Exit.exit 2) (sp 40 [(1,AV.ptr 0 0 [] 0),(3,AV.int (↑(x.i):Int))] [Obj.box 25 (eG x.ds x.rs)])))):=by kernel_rfl
def Ol(x:Yn):Prop:=x.i<x.rs.length/\x.k<=(af (ag (nth x.rs x.i) 1)).length/\(af (ag (nth x.rs x.i) 1)).length<=100000
def ab7(x:Yn):Out (Exit×S):= .aq (((af (ag (nth x.rs x.i) 1)).drop x.k).any DQ) (.one (.ret,sp 40 [(2, .bool false)] [])) (.one (.exit 2,sp 40 [(1, .ptr 0 0 [] 0),(3, .int x.i)] [.box 25 (eG x.ds x.rs)]))
theorem lPk(κ:Kp):aU (VY κ).E 12 21 5 (aG 0 Vr Ol ab7):=by
 refine aC (fun x=>(af (ag (nth x.rs x.i) 1)).length - x.k) ?_;rintro⟨ds,rs,i,k⟩ K ⟨h1,h2,h3⟩ ho;simp only at h1 h2 h3;rw[show(VY κ).E.P=Pr κ from rfl];refine Eq.mpr (xPk κ ⟨ds,rs,i,k⟩ _ _ K) ?_;simp only[Int.toNat_natCast];have ho:aq (((af (ag (nth rs i) 1)).drop k).any DQ) (K .ret (sp 40 [(2, .bool false)] [])) (K (.exit 2) (sp 40 [(1, .ptr 0 0 [] 0),(3, .int i)] [.box 25 (eG ds rs)])):=ho;refine ai.2 ⟨by simp;omega,?_⟩;rw[ae,ap6,ap8];refine⟨fun h=>ai.2 ⟨by simp;omega,ai.2 ⟨by simp;omega,?_⟩⟩,fun h=>?_⟩
 ·have hk:k<(af (ag (nth rs i) 1)).length:=by omega
  rw[az (n:=(k:Int)+1) (by omega) (by omega)];rw[aq7 hk,List.any_cons,←aM _ k hk] at ho;unfold DQ at ho;refine ae.2 ⟨fun e=>?_,fun e=>ae.2 ⟨fun e2=>?_,fun e2=>⟨_,?_,⟨ds,rs,i,k+1⟩,rfl,⟨h1,hk,h3⟩,rfl,?_⟩⟩⟩
  ·rw[e] at ho;exact ho
  ·rw[e,aq1,e2] at ho;exact ho
  ·simp only;omega
  ·rw[e,aq1,e2] at ho;exact ho
 ·rw[aq4 (by omega)] at ho
  exact ho
noncomputable def Vf(κ:Kp):EB:=(VY κ).loop (lPk κ)
structure Yz where
 ds:List AV
 rs:List AV
 i:Nat
abbrev WC(x:Yz):S:=sp 40 [(1, .ptr 0 0 [] 0),(3, .int x.i)] [.box 25 (eG x.ds x.rs)]
theorem xPm(κ:Kp)(x:Yz)(I:Nat->S->Prop)(n:Nat)(K:Exit->S->Prop):(vc (Vf κ).E 12 21 none 0 (ad (Pr κ).toProgram 21 2) (WC x) (bj (Vf κ).E 21 2 0 I n K))=(
 letI a:=Pg.toProgram (Env.P (EB.E (VY κ)))
 aq (decide ((↑(x.i):Int)<(↑(x.rs.length):Int))) (ad a 21 5=ad a 21 5/\∃(e1:Yn),sp 40 [(1,AV.ptr 0 0 [] 0),(3,AV.int (↑(x.i):Int)),(4,
 AV.int 0)] [Obj.box 25 (eG x.ds x.rs)]=Vr e1/\Ol e1/\aq (List.any (List.drop e1.k (af (ag (nth e1.rs e1.i) 1))) DQ) (K Exit.ret (sp 40 [(2,AV.bool false)]
 [])) (∃(e0:Nat),e0<n/\I e0 (sp 40 [(1,AV.ptr 0 0 [] 0),(3,AV.int (IntKind.wrap IntKind.i64 ((↑(e1.i):Int)+(1:Int))))] [Obj.box 25 (eG e1.ds
 e1.rs)]))) (K (Exit.exit 0) (sp 40 [] []))):=by kernel_rfl
def LC(x:Yz):Prop:=x.i<=x.rs.length/\x.rs.length<=100000/\∀r,r∈x.rs->(af (ag r 1)).length<=100000
def ZU(x:Yz):Out (Exit×S):= .aq ((x.rs.drop x.i).all uH) (.one (.exit 0,sp 40 [] [])) (.one (.ret,sp 40 [(2, .bool false)] []))
theorem lPm(κ:Kp):aU (Vf κ).E 12 21 2 (aG 0 WC LC ZU):=by
 refine aC (fun x=>x.rs.length - x.i) ?_;rintro⟨ds,rs,i⟩ K ⟨h1,h2,h3⟩ ho;simp only at h1 h2 h3;rw[show(Vf κ).E.P=Pr κ from rfl];refine Eq.mpr (xPm κ ⟨ds,rs,i⟩ _ _ K) ?_;simp only;have ho:aq ((rs.drop i).all uH) (K (.exit 0) (sp 40 [] [])) (K .ret (sp 40 [(2, .bool false)] [])):=ho;rw[ae,ap6,ap8];refine⟨fun h=>?_,fun h=>?_⟩
 ·have hk:i<rs.length:=by omega
  have hx:nth rs i∈rs:=by rw[aM _ _ hk];exact List.getElem_mem _
  rw[aq7 hk,←aM _ i hk,List.all_cons] at ho;refine⟨trivial,⟨ds,rs,i,0⟩,rfl,⟨hk,Nat.zero_le _,h3 _ hx⟩,?_⟩;rw[az (n:=(i:Int)+1) (by omega) (by omega)];unfold uH at ho;refine ae.2 ⟨fun e=>?_,fun e=>⟨_,?_,⟨ds,rs,i+1⟩,rfl,⟨hk,h2,h3⟩,rfl,?_⟩⟩
  ·rw[aq6] at e
   rw[show(af (ag (nth rs i) 1)).any DQ=true from e] at ho;exact ho
  ·simp only;omega
  ·rw[aq6] at e
   rw[show(af (ag (nth rs i) 1)).any DQ=false from e] at ho;exact ho
 ·rw[aq4 (by omega)] at ho
  exact ho
noncomputable def BPm(κ:Kp):EB:=(Vf κ).loop (lPm κ)
theorem yPm(κ:Kp)(ds rs:List AV)(K:AV->List Dn.Obj->Prop):(a0 (BPm κ).E 12 21 [eG ds rs] [] K)=(
 letI a:=Pg.toProgram (Env.P (EB.E (Vf κ)))
 ad a 21 2=ad a 21 2/\∃(e0:Yz),sp 40 [(1,AV.ptr 0 0 [] 0),(3,AV.int 0)] [Obj.box 25 (eG ds rs)]=WC e0/\LC e0/\aq (List.all (List.drop e0.i e0.rs)
 uH) (K (AV.bool true) []) (K (AV.bool false) [])):=by kernel_rfl
def gPm:List AV->Option (Bool×AV)
 |[.agg [.ah 43 _, .ah 48 rs]]=>some (decide (rs.length<=100000)&&rs.all fun r=>decide ((af (ag r 1)).length<=100000), .bool (rs.all uH))
 |_=>none
theorem pPm(κ:Kp):cd (BPm κ).E 12 21 gPm:=by
 intro args x hh;unfold gPm at hh;split at hh
 ·rename_i ds rs
  simp only[ap9,aq5,ap7,ap6,List.all_eq_true] at hh;obtain⟨⟨h1,h2⟩,rfl⟩:=hh;refine⟨_,rfl,rfl,Eq.mpr (yPm κ ds rs _) ⟨rfl,⟨ds,rs,0⟩,rfl,⟨Nat.zero_le _,h1,h2⟩,?_⟩⟩;rw[aq6];cases rs.all uH<;>exact rfl
 ·cases hh
noncomputable def J4(κ:Kp):EB:=EB.GV ((BPm κ).pure (pPm κ)) [21]
structure Ud where
 A:List RL
 B:List RL
 i:Nat
abbrev Gi(x:Ud):S:=sp 114 [(7, .bool true),(9, .ak 0 0 (bh x.A).length),(11, .ak 1 0 (bh x.B).length),(13, .int x.i)] [qS x.A,qS x.B]
theorem xGy(κ:Kp)(x:Ud)(I:Nat->S->Prop)(n:Nat)(K:Exit->S->Prop):(vc (J4 κ).E 12 7 none 0 (ad (Pr κ).toProgram 7 13) (Gi x) (bj (J4 κ).E 7 13 0 I n K))=(
 letI a:=(↑(x.i):Int)<(↑(List.length (bh x.A)):Int)
 aq (decide a) (aV (true&&decide ((↑(x.i):Int)<(↑(List.length (bh x.B)):Int))) (aV (true&&decide a) (∃(e1:P2),([AV.ah 70 (af (nth (bh x.B) (0+
 Int.toNat (↑(x.i):Int)))),AV.ah 70 (af (nth (bh x.A) (0+Int.toNat (↑(x.i):Int))))],[])=Zm e1/\GW e1/\∃(e0:Nat),e0<n/\I e0 (sp 114 [(7,
 AV.bool true),(9,AV.ak 0 0 (List.length (bh x.A))),(11,AV.ak 1 0 (List.length (bh x.B))),(13,AV.int (IntKind.wrap IntKind.i64 ((↑(x.i):Int)+(1:
 Int))))] [qS x.A,qS x.B])))) (K (Exit.exit 0) (sp 114 [(7,AV.bool true)] []))):=by kernel_rfl
theorem OY{ds rs:List AV}{n:Nat}{A:List RL}(h:iG ds rs n A)(i:Nat):eR (rws (A.getD i []))=true:=by
 refine rz ?_ fun r hr=>HZ h.p h.A i r hr
 rcases Nat.lt_or_ge i A.length with k|k
 ·have:=rn (k9 k)
  have:=h.n;omega
 ·rw[List.getD_eq_getElem?_getD,List.getElem?_eq_none k];exact Nat.zero_le _
theorem Qv{ds rs:List AV}{n:Nat}{A B:List RL}(hA:iG ds rs n A)(hB:iG ds rs n B)(h:Le B A)(i:Nat):GW (rws (B.getD i []),rws (A.getD i [])):=by
 have a:=pf hA.A i;have b:=pf hB.A i;refine⟨⟨OY hB i,OY hA i,?_⟩,?_,?_⟩
 ·simp only[jK]
  exact Aw b.1 a.1 b.2 a.2 (h i)
 ·simp only[jK];exact b.2
 ·simp only[jK];exact a.2
def wE(x:Ud):Prop:=x.i<=x.A.length/\∃ds rs n,iG ds rs n x.A/\iG ds rs n x.B/\Le x.B x.A
def XE(_:Ud):Out (Exit×S):= .one (.exit 0,sp 114 [(7, .bool true)] [])
theorem lGy(κ:Kp):aU (J4 κ).E 12 7 13 (aG 0 Gi wE XE):=by
 refine aC (fun x=>x.A.length - x.i) ?_;rintro⟨A,B,i⟩ K ⟨h1,ds,rs,n,hA,hB,hl⟩ ho;simp only at h1 hA hB hl;rw[show(J4 κ).E.P=Pr κ from rfl];refine Eq.mpr (xGy κ ⟨A,B,i⟩ _ _ K) ?_;simp only[Int.toNat_natCast,Nat.zero_add,eT];have e1:=hA.A.len;have e2:=hB.A.len;have hd:=FA hA.p;rw[ae,ap6,ap8];refine⟨fun h=>ai.2 ⟨by simp;omega,ai.2 ⟨by simp;omega,(rws (B.getD i []),rws (A.getD i [])),by rw[ni,ni];rfl,Qv hA hB hl i,_,?_,⟨A,B,i+1⟩,?_,⟨by simp only;omega,ds,rs,n,hA,hB,hl⟩,rfl,ho⟩⟩,fun _=>ho⟩
 ·simp only;omega
 ·simp only[Gi,eT]
  rw[az (n:=(i:Int)+1) (by omega) (by omega)];rfl
noncomputable def BGy(κ:Kp):EB:=(J4 κ).loop (lGy κ)
theorem yGy(κ:Kp)(ds rs xs:List AV)(p:Int)(K:AV->List Dn.Obj->Prop):(a0 (BGy κ).E 12 7 [eG ds rs, .ah 51 xs, .int p] [] K)=(
 letI a:=IntKind.wrap IntKind.i64
 letI b:=AV.int
 letI c:=AV.bool
 letI d:=Pg.toProgram (Env.P (EB.E (J4 κ)))
 letI g:=decide ((0:Int)<=p)&&decide (p<(↑(xs.length):Int))
 letI h:=List.length (af (nth xs p.toNat))
 letI i:=(↑h:Int) - (1:Int)
 letI l:=List.drop 0 (List.take (Int.toNat (a i)) (af (nth xs p.toNat)))
 ∃(e3:Unit),([],[])=X3 e3/\True/\aV ((decide (ds.length<=9223372036854775807)&&List.all ds fun(e0:AV)=>decide (List.length (af (ag e0 1))<=9223372036854775807))&&iL xs) (aq ((bif jy ds rs xs then(1:Int) else(0:Int))==(0:Int)) (K (c true) []) (aV (decide (rs.length<=100000)&&List.all rs fun(e0:AV)=>decide (List.length (af (ag e0 1))<=100000)) (aq (!List.all rs uH) (K (c true) []) (aq (decide (p<(0:Int))) (K (c true) []) (aq (decide (p>=(↑(xs.length):Int))) (K (c true) []) (aV g (aq ((↑h:Int)==(0:Int)) (K (c true) []) (aV (true&&decide ((Int.toNat (↑(xs.length):Int)+1)*25<=70368744177664)&&true) (aV (decide ((0+xs.length+1)*25<=70368744177664)) (aV g (aV g (aV (true&&decide ((0:Int)<=a i)&&decide (a i<=(↑h:Int))) (aV (decide ((0:Int)<=p)&&decide (p<(↑(0+xs.length):Int))) (∃(e2:RZ),letI j:=jx e2.ds e2.rs e2.all e2.bc;letI f:=List.length (bh j);letI m:=pq e2.ds e2.rs e2.xs e2.all e2.bc != (0:Int);([eG ds rs,AV.ah 51 xs,b 20],[])=F6 e2/\nv e2/\aq (decide (pq e2.ds e2.rs e2.xs e2.all e2.bc=(0:Int))) (∃(e1:RZ),letI k:=jx e1.ds e1.rs e1.all e1.bc;([eG ds rs,AV.ah 51 (List.take (0+xs.length) (List.drop 0 (bH ([]++xs) (0+p.toNat) (AV.ah 70 l)))),b 20],[])=F6 e1/\nv e1/\aq (decide (pq e1.ds e1.rs e1.xs e1.all e1.bc=(0:Int))) (aq ((↑f:Int) != (↑(List.length (bh k)):Int)) (K (c false) []) (ad d 7 13=ad d 7 13/\∃(e0:Ud),sp 114 [(7,c true),(9,AV.ak 0 0 f),(11,AV.ak 1 0 (List.length (bh k))),(13,b 0)] [qS j,qS k]=Gi e0/\wE e0/\K (c true) [])) (aq (pq e1.ds e1.rs e1.xs e1.all e1.bc != (0:Int)) (K (c false) []) (aq ((↑f:Int) != (0:Int)) (K (c false) []) (ad d 7 13=ad d 7 13/\∃(e0:Ud),sp 114 [(7,c true),(9,AV.ak 0 0 f),(11,AV.nil),(13,b 0)] [qS j]=Gi e0/\wE e0/\K (c true) [])))) (∃(e1:RZ),letI e:=jx e1.ds e1.rs e1.all e1.bc;([eG ds rs,AV.ah 51 (List.take (0+xs.length) (List.drop 0 (bH ([]++xs) (0+p.toNat) (AV.ah 70 l)))),b 20],[])=F6 e1/\nv e1/\aq (decide (pq e1.ds e1.rs e1.xs e1.all e1.bc=(0:Int))) (aq m (K (c true) []) (aq ((0:Int) != (↑(List.length (bh e)):Int)) (K (c false) []) (ad d 7 13=ad d 7 13/\∃(e0:Ud),sp 114 [(7,c true),(9,AV.nil),(11,AV.ak 0 0 (List.length (bh e))),(13,b 0)] [qS e]=Gi e0/\wE e0/\K (c true) []))) (aq m (K (c true) []) (aq (pq e1.ds e1.rs e1.xs e1.all e1.bc != (0:Int)) (K (c false) []) (ad d 7 13=ad d 7 13/\∃(e0:Ud),sp 114 [(7,c true),(9,AV.nil),(11,AV.nil),(13,b 0)] []=Gi e0/\wE e0/\K (c true) []))))))))))))))))))):=by kernel_rfl
theorem B7: ∀(l:List AV) (k:Nat) (x:AV),k<l.length->bH l k x=l.set k x
 |[],_,_,h=>nomatch h
 |_::_,0,_,_=>rfl
 |a::l,k+1,x,h=>by rw[bH,B7 l k x (by simpa using h)];rfl
theorem QO{xs:List AV}{p m:Nat}:xp (xs.set p (.ah 70 ((af (nth xs p)).take m))) xs:=by
 refine⟨by simp,fun i=>?_⟩;rcases Nat.lt_or_ge i xs.length with hi|hi
 ·have hi':i<(xs.set p (.ah 70 ((af (nth xs p)).take m))).length:=by simpa using hi
  rw[aM _ i hi',List.getElem_set];by_cases e:p=i
  ·subst e
   rw[if_pos rfl];exact⟨m,rfl⟩
  ·rw[if_neg e,aM _ i hi]
   exact⟨_,(List.take_length).symm⟩
 ·rw[eV _ i (by simpa using hi),eV _ i hi]
  exact⟨0,rfl⟩
theorem aa4(κ:Kp){ds rs xs:List AV}{p:Int}(h1:(decide (ds.length<=aW)&&ds.all fun d=>decide ((af (ag d 1)).length<=aW))=true)(_: ∀r,r∈rs->au (dr r)=r)(hs:TS xs){K:AV->List Dn.Obj->Prop}(ho:K (.bool true) []):a0 (BGy κ).E 12 7 [eG ds rs, .ah 51 xs, .int p] [] K:=by
 refine Eq.mpr (yGy κ ds rs xs p K) ⟨(),rfl,trivial,ai.2 ⟨by rw[hs.f,Bool.and_true];exact h1,?_⟩⟩;cases hL:jy ds rs xs with
 |false=>exact ho
 | true=>
  have hl:=hL;simp only[jy,ap7,ap6] at hl;obtain⟨l1,l2,l3,_⟩:=hl;refine ae.2 ⟨fun e=>absurd e (by decide),fun _=>ai.2 ⟨?_,ae.2 ⟨fun _=>ho,fun hp=>ae.2 ⟨fun _=>ho,fun c1=>ae.2 ⟨fun _=>ho,fun c2=>?_⟩⟩⟩⟩⟩
  ·rw[ap7,ap6,List.all_eq_true]
   exact⟨by omega,fun r hr=>aq2 ((jU l1).2.2 r hr).2⟩
  have c1:=of_decide_eq_false c1;have c2:=of_decide_eq_false c2;have hp: ∀r,r∈rs->uH r=true:=by simpa using hp
  refine ai.2 ⟨by simp;omega,ae.2 ⟨fun _=>ho,fun c3=>?_⟩⟩;have hpl:p.toNat<xs.length:=by omega
  have c3: ¬ (af (nth xs p.toNat)).length=0:=by simpa using c3
  have hfl:=iX (mh hs.f p.toNat);have hw:IntKind.wrap .i64 (((af (nth xs p.toNat)).length:Int) - 1)=(((af (nth xs p.toNat)).length - 1:Nat):Int):=by
   rw[az (by omega) (by omega)];omega
  rw[hw];simp only[Int.toNat_natCast,aq6,Nat.zero_add,List.nil_append];have hq:List.take xs.length (bH xs p.toNat (.ah 70 (List.take ((af (nth xs p.toNat)).length - 1) (af (nth xs p.toNat)))))=xs.set p.toNat (.ah 70 ((af (nth xs p.toNat)).take ((af (nth xs p.toNat)).length - 1))):=by
   rw[B7 xs _ _ hpl];exact List.take_of_length_le (by simp)
  rw[hq];have hc:=QO (xs:=xs) (p:=p.toNat) (m:=(af (nth xs p.toNat)).length - 1);generalize xs.set p.toNat (.ah 70 ((af (nth xs p.toNat)).take ((af (nth xs p.toNat)).length - 1)))=ys at*
  have s1:=u0 hs hL (bc:=20) (by omega) (by omega);have s2:=u0 (Ov hc hs) (yW hc hL) (bc:=20) (by omega) (by omega)
  repeat' first
   |refine⟨⟨ds,rs,xs,fE xs,20⟩,rfl,s1,ae.2 ⟨fun e=>?p1,fun e=>?p2⟩⟩
   |refine ai.2 ⟨?_,?_⟩
   |(simp only[ar2,Bool.and_true,ap7,ap6];omega)
  case p1=>
   have e:pq ds rs xs (fE xs) 20=0:=of_decide_eq_true e;obtain⟨z1,z2,z3,z4,_⟩:=QS hc hs hL hp (by omega) (by omega) e;have e1:=z3.A.len;have e2:=z4.A.len;refine⟨⟨ds,rs,ys,fE ys,20⟩,rfl,s2,ae.2 ⟨fun _=>ae.2 ⟨fun c=>?_,fun _=>⟨trivial,⟨jx ds rs (fE xs) 20,jx ds rs (fE ys) 20,0⟩,rfl,⟨Nat.zero_le _,ds,rs,20,z3,z4,z2⟩,ho⟩⟩,fun c=>absurd z1 (of_decide_eq_false c)⟩⟩;simp only[eT,e1,e2] at c;simp at c
  case p2=>
   have e: ¬ pq ds rs xs (fE xs) 20=0:=of_decide_eq_false e;have e2:(pq ds rs xs (fE xs) 20 != 0)=true:=by simpa using e
   refine⟨⟨ds,rs,ys,fE ys,20⟩,rfl,s2,ae.2 ⟨fun _=>ae.2 ⟨fun _=>ho,fun c=>?_⟩,fun _=>ae.2 ⟨fun _=>ho,fun c=>?_⟩⟩⟩
   ·exact absurd (e2.symm.trans c) (by simp)
   ·exact absurd (e2.symm.trans c) (by simp)
end Go.Proofs.YtioeffnadipbaaaGreatDoor
