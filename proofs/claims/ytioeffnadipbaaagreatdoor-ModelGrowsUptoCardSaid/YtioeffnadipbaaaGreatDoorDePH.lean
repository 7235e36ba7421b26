import Derived.Test.YtioeffnadipbaaaGreatDoorDePF
import Derived.Test.YtioeffnadipbaaaGreatDoorDeP9
namespace Go.Proofs.YtioeffnadipbaaaGreatDoor
open Go Go.Dn Go.Rl Go.Proofs
def rV t:=toStr (ag (ag t 1) 0)
def ag0(x y:uQ) t:=(toInt (ag t 0)=1->∀w,w∈x.at (rV t)->w∈y.at (rV t))/\(il (toInt (ag t 0))=true->toInt (ag t 0)≠1->x.at (rV t)=y.at (rV t))
theorem HM{x y}(c:x.r=y.r): ∀a e r,(∀k,k∈a->ag0 x y (nth x.r.bl k))->r∈pQ x a e->r∈pQ y a e
 |[],e,r,_,h=>by rw[pQ] at h⊢;rwa [←c]
 | k::a,e,r,i,h=>by
  have j:=fun e=>HM c a e r (fun k b=>i k (by simp[b]))
  have b:=i k (by simp);rw[pQ] at h⊢;rw[←c];simp only at h⊢;unfold ag0 rV at b;generalize nth x.r.bl k=t at h b⊢
  cases f:toInt (ag t 0)==1 with
  |true=>
   rw[f,as1] at h;obtain⟨g,l,d⟩:=List.mem_flatMap.1 h;obtain⟨w,n,m⟩:=List.mem_filterMap.1 l;exact List.mem_flatMap.2 ⟨g,List.mem_filterMap.2 ⟨w,b.1 (by simpa using f) w n,m⟩,j g d⟩
  | false=>
   rw[f,ar9] at h;rw[ar9];cases d:il (toInt (ag t 0)) with
   |true=>
    grind
   |false=>
    unfold il at d
    grind
def ao9 ds(A C:List RL) t:=(toInt (ag t 0)=1->∀w,w∈A.getD (bx (rV t) ds).toNat []->w∈C.getD (bx (rV t) ds).toNat [])/\(il (toInt (ag t 0))=true->toInt (ag t 0)≠1->A.getD (bx (rV t) ds).toNat []=C.getD (bx (rV t) ds).toNat [])
theorem MS{ds c a r A C}(l: ∀L,L∈A->fN L)(o: ∀L,L∈C->fN L)(h: ∀t,t∈r.bl->ao9 ds A C t) x(g:x∈dC ds c r A):x∈dC ds a r C:=by
 have i:fN (pQ (FT ds c r A) (cR (aQ r)) []):=rp (u6 l) _ H3;have j:fN (pQ (FT ds a r C) (cR (aQ r)) []):=rp (u6 o) _ H3;refine((kc j).2.1 x).2 (HM (x:=FT ds c r A) (y:=FT ds a r C) rfl _ _ _ (fun k b=>?_) (((kc i).2.1 x).1 g));have b:=sn b;rw[fW] at b;obtain⟨m,n⟩:=h (nth r.bl k) (by rw[aM _ k b];simp);refine⟨fun e w d=>?_,fun p q=>?_⟩
 ·rw[sX] at d⊢
  obtain⟨L,f,rfl⟩:=List.mem_map.1 d;exact List.mem_map_of_mem (m e L f)
 ·rw[sX,sX]
  exact congrArg rws (n p q)
theorem rX: ∀{Y X},cG X=true->cG Y=true->(∀r,r∈X->r∈Y)->X.Sublist Y
 |[],[],_,_,_=> .slnil
 |[],a::X,_,_,h=>nomatch h a (by simp)
 |b::Y,[],_,_,_=>List.nil_sublist _
 | b::Y,a::X,d,f,h=>by
  obtain⟨j,g⟩:=da.1 d;obtain⟨l,e⟩:=da.1 f;have m:=fun c=>bQ.swap a c
  rcases List.mem_cons.1 (h a (by simp)) with rfl|k
  ·refine(rX g e fun r i=>?_).cons_cons _
   grind
  ·refine(rX d e fun r i=>?_).cons _
   grind
def Le(A C:List RL):=∀i x,x∈A.getD i []->x∈C.getD i []
def S8(F:Nat->Prop)(A C:List RL):=∀i,¬ F i->A.getD i []=C.getD i []
theorem Le.refl A:Le A A:=fun _ _ h=>h
theorem Le.trans{A B C}(h:Le A B)(k:Le B C):Le A C:=fun i x a=>k i x (h i x a)
theorem px{ds A}(h:dU ds A) i:fN (A.getD i [])/\cG (A.getD i [])=true:=by
 rcases Nat.lt_or_ge i _ with a|a
 ·exact⟨h.v _ (kQ a),h.r _ (kQ a)⟩
 ·rw[List.getD_eq_getElem?_getD,List.getElem?_eq_none a]
  exact⟨fun _ h=>(nomatch h),rfl⟩
theorem Le.sub{ds A C}(a:dU ds A)(b:dU ds C)(h:Le A C) i:(A.getD i []).Sublist (C.getD i []):=rX (px a i).2 (px b i).2 (h i)
theorem YS{A C:List RL}(a:A.length=C.length)(h: ∀i,A.getD i []=C.getD i []):A=C:=by
 refine List.ext_getElem a fun i c b=>?_
 have:=h i
 grind
theorem Uk: ∀{A C},A.length=C.length->(∀i,(A.getD i []).length<=(C.getD i []).length)->cC A<=cC C
 |[],_,_,_=>Nat.zero_le _
 |a::A,[],b,_=>nomatch b
 |a::A,c::C,b,h=>by
  have e:=Uk   (by grind) fun i=>h (i+1)
  have d:=h 0;simp[cC,List.sum_cons,List.getD_cons_zero] at e d⊢;omega
theorem Le.tot{ds A C}(a:dU ds A)(b:dU ds C)(h:Le A C):cC A<=cC C:=
 Uk (by rw[a.len,b.len]) fun i=>(h.sub a b i).length_le
variable {ds rs:List AV} {F:Nat->Prop} {g:List Int} {bf:Nat}
theorem PN(h:iQ ds rs){r}(b:r∈rs){A}(a:dU ds A) i x:x∈(iP ds rs r A).getD i []↔x∈A.getD i []\/i=atR ds r/\x∈dC ds rs (dr r) A:=by
 have c:atR ds r<A.length:=by rw[a.len];exact(h.at b).2
 grind [gu,px,u0,iP]
theorem Ea{r A}(h:F (atR ds r)):S8 F (iP ds rs r A) A:=fun i a=>by
 grind [iP]
theorem K9(h:iQ ds rs){r}(g:r∈rs){A}(c:dU ds A)(i: ¬ (A.getD (atR ds r) []).length<(et (A.getD (atR ds r) []) (dC ds rs (dr r) A)).length):iP ds rs r A=A/\∀x,x∈dC ds rs (dr r) A->x∈A.getD (atR ds r) []:=by
 obtain⟨b,d,_⟩:=u0 h g c;have a:=px c (atR ds r);have e:=(rX a.2 (mG a.1 b a.2 d) fun x f=>(gu a.1 b).2 (.inl f)).eq_of_length_le (by omega)
 grind [YS,iP,List.length_set,gu]
def Abs ds a(g:List _) F C:=∀r,r∈a->g.contains (bx (dr r).rel ds)=true->F (atR ds r)/\∀A,dU ds A->Le A C->S8 F A C->∀x,x∈dC ds a (dr r) A->x∈C.getD (atR ds r) []
def Clo ds a(g:List _) C:=∀r,r∈a->g.contains (bx (dr r).rel ds)=true->∀x,x∈dC ds a (dr r) C->x∈C.getD (atR ds r) []
theorem AB(h:iQ ds rs){C}(f:Abs ds rs g F C): ∀xs A m,(∀r,r∈xs->r∈rs)->dU ds A->Le A C->S8 F A C->Le (cu ds rs g bf xs A m).1 C/\S8 F (cu ds rs g bf xs A m).1 C
 |[],A,m,_,_,d,e=>⟨d,e⟩
 | r::xs,A,m,k,j,d,e=>by
  have b: ∀r,r∈xs->r∈rs:=fun r c=>k r (by simp[c])
  have c:=k r (by simp);rw[cu];cases decide (bf<cC A) with
  |true=>exact⟨d,e⟩
  | false=>
   rw[ar9];cases l:g.contains (bx (dr r).rel ds) with
   |false=>exact AB h f xs A m b j d e
   |true=>
    obtain⟨n,o⟩:=f r c l;refine AB h f xs _ _ b (pM h c j).1 (fun i x a=>?_) (fun i a=>(Ea n i a).trans (e i a));rcases(PN h c j i x).1 a with a|⟨rfl,p⟩
    ·exact d i x a
    grind
theorem H0(h:iQ ds rs){C}(c:Abs ds rs g F C): ∀n A,dU ds A->Le A C->S8 F A C->Le (fw ds rs g bf n A) C/\S8 F (fw ds rs g bf n A) C
 |0,A,_,a,b=>⟨a,b⟩
 |n+1,A,d,a,b=>by
  have k:=AB (bf:=bf) h c rs A false (by simp) d a b;rw[fw];cases(cu ds rs g bf rs A _).2 with
  |true=>exact H0 h c n _ (lF h g _ rs A _ (by simp) d).1 k.1 k.2
  |false=>exact k
theorem AA(h:iQ ds rs)(d: ∀r,r∈rs->g.contains (bx (dr r).rel ds)=true->F (atR ds r)): ∀xs A m,(∀r,r∈xs->r∈rs)->dU ds A->Le A (cu ds rs g bf xs A m).1/\S8 F A (cu ds rs g bf xs A m).1
 |[],A,m,_,_=>⟨Le.refl _,fun _ _=>rfl⟩
 | r::xs,A,m,f,e=>by
  have b: ∀r,r∈xs->r∈rs:=fun r a=>f r (by simp[a])
  have a:=f r (by simp);rw[cu];cases decide (bf<cC A) with
  |true=>exact⟨Le.refl _,fun _ _=>rfl⟩
  | false=>
   rw[ar9];cases l:g.contains _ with
   |false=>exact AA h d xs A m b e
   |true=>
    obtain⟨j,k⟩:=AA h d xs (iP ds rs r A) _ b (pM h a e).1;exact⟨fun i x c=>j i x ((PN h a e i x).2 (.inl c)),fun i c=>((Ea (d r a l) i c).symm.trans (k i c))⟩
theorem HZ(h:iQ ds rs)(c: ∀r,r∈rs->g.contains (bx (dr r).rel ds)=true->F (atR ds r)): ∀n A,dU ds A->Le A (fw ds rs g bf n A)/\S8 F A (fw ds rs g bf n A)
 |0,A,_=>⟨Le.refl _,fun _ _=>rfl⟩
 | n+1,A,b=>by
  obtain⟨d,e⟩:=AA  h c rs A false (by simp) b;rw[fw];cases(cu ds rs g bf rs A _).2 with
  |true=>
   obtain⟨f,j⟩:=HZ h c n _ (lF h g bf rs A false (by simp) b).1;exact⟨d.trans f,fun i a=>(e i a).trans (j i a)⟩
  |false=>grind
theorem sJ: ∀xs A,(cu ds rs g bf xs A true).2=false->bf<cC (cu ds rs g bf xs A true).1
 |[],A,h=>nomatch h
 | r::xs,A,h=>by
  rw[cu] at h⊢;by_cases c:bf<cC A
  ·grind
  ·rw[ar8 c] at h⊢
   cases a:g.contains _ with
   |false=>rw[a] at h;exact sJ _ A h
   |true=>rw[a] at h;exact sJ xs _ h
theorem wz(h:iQ ds rs): ∀xs A,(∀r,r∈xs->r∈rs)->dU ds A->(cu ds rs g bf xs A false).2=false->cC (cu ds rs g bf xs A false).1<=bf->(cu ds rs g bf xs A false).1=A/\∀r,r∈xs->g.contains (bx (dr r).rel ds)=true->∀x,x∈dC ds rs (dr r) A->x∈A.getD (atR ds r) []
 |[],A,_,_,_,_=>⟨rfl,fun _ h=>(nomatch h)⟩
 | r ::xs,A,k,j,b,a=>by
  have f: ∀r,r∈xs->r∈rs:=fun r i=>k r (by simp[i])
  have i:=k r (by simp);rw[cu] at b a⊢;by_cases c:bf<cC A
  ·rw[as0 c] at a
   exact absurd (show cC A<=bf from a) (by omega)
  ·rw[ar8 c,ar9] at b a⊢
   cases l:g.contains (bx (dr r).rel ds) with
   |false=>
    rw[l] at b a;obtain⟨m,n⟩:=wz h xs A f j b a
    grind
   | true=>
    rw[l] at b a;simp only[Bool.not_true,ar9,Bool.false_or] at b a⊢;by_cases d:(A.getD (atR ds r) []).length<(et (A.getD (atR ds r) []) (dC ds rs (dr r) A)).length
    ·rw[as0 d] at b a
     have:=sJ xs _ b
     omega
    ·rw[ar8 d] at b a⊢
     obtain⟨e,o⟩:=K9 h i j d;rw[e] at b a⊢;obtain⟨m,n⟩:=wz h xs A f j b a
     grind
theorem CY(h:iQ ds rs): ∀n A,dU ds A->bf<cC A+n->cC (fw ds rs g bf n A)<=bf->Clo ds rs g (fw ds rs g bf n A)
 |0,A,_,i,a=>absurd (show cC A<=bf from a) (by omega)
 | n+1,A,c,i,a=>by
  obtain⟨e,k,f,_⟩:=lF h g bf rs A false (by simp) c;rw[fw] at a⊢;cases b:(cu ds rs g bf rs A false).2 with
  |true=>
   rw[b] at a;have:=(f b).resolve_left (by simp)
   exact CY h n _ e (by omega) a
  |false=>
   rw[b] at a;obtain⟨j,d⟩:=wz h rs A (by simp) c b a;rw[j];exact d
theorem Y9{l}(h:jl l=true)(b:il l.op=true)(a:l.op≠1):ik l.op=true:=by
 unfold ik;by_cases c:l.op=2
 ·grind
 ·rw[ar8 c,ar9,ar4]
  grind [Int.lt_or_le,il,jl]
theorem R0{ds b}(h:iQ ds b){r}(d:r∈b){t}(e:t∈(dr r).bl)(f:il (toInt (ag t 0))=true)(g:toInt (ag t 0)≠1):ik (toInt (ag t 0))=true:=by
 have a:=(uU h.s h.c d).r;simp[a8] at a;exact Y9 (a.2 _ (List.mem_map_of_mem e)) f g
section
variable {ds rs rs':List AV} {g:List Int} {bf:Nat}
end
end Go.Proofs.YtioeffnadipbaaaGreatDoor
namespace Go.Proofs.YtioeffnadipbaaaGreatDoor
open Go Go.Dn Go.Rl Go.Proofs
attribute [local irreducible] a0 vc
set_option maxRecDepth 20000
noncomputable abbrev VY(A B:List AV):Dn.Obj:= .loop (iG Tryz.prog 22 5 .ready none (hG (bM 35) [(0, .ah 70 A),(1, .ah 70 B),(4, .nil),(5, .int 0),(6, .ptr 0 0 [] 0),(9, .ah 70 A),(10, .bool (cG (cU A))),(11, .bool !cG (cU A)),(12, .bool false),(13, .ah 70 B),(14, .bool (cG (cU B))),(15, .bool !cG (cU B)),(16, .bool false),(17, .ah 70 A),(18, .ah 70 B),(19, .bm 82 nO)]))
noncomputable abbrev sZ A B:=[.box 51 .nil, .box 51 (.ah 70 A), .box 51 (.ah 70 B),VY A B]
noncomputable abbrev A6 A B:=[.box 51 (.ak 4 0 0), .dead, .dead,VY A B, .row 70 []]
theorem sMz κ A B Q:(tidy (Pr κ).toProgram 4 (dt (sZ A B) (bV (sZ A B) nO)) Q)=(
 Q (A6 A B)):=by kernel_rfl
theorem rMz κ A B t p q Q(K2:List Dn.Obj->Prop):(fQ (vc (Xo κ).E 12) 3 [.ah 72 t, .agg [.bool p, .bool q]] (A6 A B) (fun r st''=>match r with| .lit (.bool true)=>tidy (Pr κ).toProgram 4 st'' Q| .lit (.bool false)=>K2 st''|_=>False))=(
 aq (!p) (Q (A6 A B)) (aq q (Q (A6 A B)) (∃(a:List AV),([AV.ah 72 t],[])=PD a/\a.length<=100000000/\Q [Obj.box 51 (AV.ak 4 0 1),Obj.dead,
 Obj.dead,VY A B,Obj.row 70 [AV.ah 72 a]]))):=by kernel_rfl
theorem oMz A B:lD (sZ A B) nO=true:=by kernel_rfl
theorem kMz A B xs:(AV.cf 0::fE (ij (bV (sZ A B) nO)) nO,Obj.ext (some xs)::gg (ij (bV (sZ A B) nO)) (fY (sZ A B) (bV (sZ A B) nO)))=([.cf 0, .ptr 1 0 [] 0, .ptr 2 0 [] 0], .ext (some xs)::nN A B):=by kernel_rfl
structure Vk(A B:List AV):Prop where
 a:eM A=true
 b:eM B=true
 s: ∀x,x∈fX (cU A) (cU B)->(x.2.1&& !x.2.2)=false
noncomputable def ab6:ee:=fun caps st K=>∃A B,(caps,st)=(nO,sZ A B)/\Vk A B/\K (A6 A B)
theorem KX:ab6.fU:=by
 rintro caps st K K' hK ⟨A,B,h1,h2,h3⟩;exact⟨A,B,h1,h2,hK _ h3⟩
theorem Vx κ args st K(h:aO WD tw N0 args st K):(Xo κ).E.call 82 args st K:=h
theorem gMz κ:ir (Xo κ).E 12 82 ab6:=by
 rintro caps st K ⟨A,B,h1,hf,h5⟩;obtain⟨rfl,rfl⟩:=Prod.mk.inj (show(caps,st)=(nO,sZ A B) from h1);refine⟨Ex (fX (cU A) (cU B)),fun items st'=>∃E2:List BI,items=Ex E2/\st'=A6 A B/\∀x,x∈E2->(x.2.1&& !x.2.2)=false,⟨oMz A B,?_,?_,?_,?_⟩⟩
 ·refine Vx κ _ _ _ ⟨⟨A,B,Ex (fX (cU A) (cU B))⟩,?_,⟨rfl,hf.a,hf.b⟩,fun st' h=>h⟩
  rw[kMz];rfl
 ·rw[show(Xo κ).E.P=Pr κ from rfl,show(sZ A B).length=4 from rfl,sMz]
  exact⟨_,rfl,rfl,hf.s⟩
 ·rintro us rest st' ⟨E2,e1,rfl,e3⟩
  cases E2 with
  |nil=>cases e1
  |cons x E2=>
   obtain⟨t,p,q⟩:=x;obtain⟨hu,rfl⟩:=List.cons.inj e1;obtain rfl:=AV.aH.inj hu;rw[show(Xo κ).E.P=Pr κ from rfl,show(sZ A B).length=4 from rfl,show(4:Nat) - 1=3 from rfl];have next: ∃E3:List BI,Ex E2=Ex E3/\A6 A B=A6 A B/\∀x,x∈E3->(x.2.1&& !x.2.2)=false:=⟨E2,rfl,rfl,fun x hx=>e3 x (by simp[hx])⟩
   have hpq:(p&& !q)=false:=e3 (t,p,q) (by simp);refine Eq.mpr (rMz κ A B t p q (fun st'=>∃E3:List BI,Ex E2=Ex E3/\st'=A6 A B/\∀x,x∈E3->(x.2.1&& !x.2.2)=false) K) ?_
   grind [ae]
 ·rintro st' ⟨E2,e1,rfl,e3⟩
  exact h5
noncomputable def UY κ:=(Xo _).range 22 5 KX (gMz κ) fun f=>iH f (82::JS)
theorem yMz κ A B K:(a0 (UY κ).E 12 22 [.ah 70 A, .ah 70 B] [] K)=(
 letI a:=K (AV.aH [AV.nil,AV.int 80]) []
 aV (eM A) (aq (!cG (cU A)) a (aV (eM B) (aq (!cG (cU B)) a (∃(e1:List AV),∃(e0:List AV),([AV.ptr 1 0 [] 0,AV.ptr 2 0 [] 0],sZ A B)=([AV.ptr 1 0 []
 0,AV.ptr 2 0 [] 0],sZ e1 e0)/\Vk e1 e0/\K (AV.aH [AV.ak 0 0 0,AV.int 0]) [Obj.row 70 []]))))):=by kernel_rfl
theorem QZ a b(cs bs:RL):fX (a::cs) (b::bs)=bif decide (bz a b<0) then(a,true,false)::fX cs (b::bs) else bif decide (bz a b=0) then(a,true,true)::fX cs bs else(b,false,true)::fX (a::cs) bs:=rfl
theorem Ah{A B}(hA:fN A)(hB:fN B)(rA:cG A=true)(rB:cG B=true)(h: ∀r,r∈A->r∈B): ∀x,x∈fX A B->(x.2.1&& !x.2.2)=false:=by
 match A,B with
 |[],B=>
  intro x hx;obtain⟨b,_,rfl⟩:=List.mem_map.1 hx;rfl
 |a::cs,[]=>exact nomatch h a (by simp)
 | a ::cs,b::bs=>
  have hA':fN cs:=fun s hs=>hA s (by simp[hs])
  have hB':fN bs:=fun s hs=>hB s (by simp[hs])
  obtain⟨k1,k2⟩:=da.1 rA;obtain⟨l1,l2⟩:=da.1 rB;rw[QZ];by_cases h1:bz a b<0
  ·exfalso
   rcases List.mem_cons.1 (h a (by simp)) with rfl|ha
   ·have:=bQ.self a;omega
   ·have e1:=l1 a ha
    have:=bQ.swap a b;omega
  ·rw [ar8 h1,ar9]
   by_cases h2:bz a b=0
   ·obtain rfl:=po (hA a (by simp)) (hB b (by simp)) h2
    rw[as0 h2,as1];intro x hx;rcases List.mem_cons.1 hx with rfl|hx
    ·rfl
    ·refine Ah hA' hB' k2 l2 (fun r hr=>?_) x hx
     rcases List.mem_cons.1 (h r (by simp[hr])) with rfl|hr'
     ·have:=k1 _ hr;omega
     ·exact hr'
   ·rw [ar8 h2,ar9]
    intro x hx;rcases List.mem_cons.1 hx with rfl|hx
    ·rfl
    ·refine Ah hA hB' rA l2 (fun r hr=>?_) x hx
     rcases List.mem_cons.1 (h r hr) with rfl|hr'
     ·exfalso
      rcases List.mem_cons.1 hr with rfl|hr
      ·exact h2 (bQ.self _)
      ·have:=k1 _ hr
       have:=bQ.swap a r;omega
     ·exact hr'
termination_by A.length+B.length
def ae5(x:P6):List AV×List Dn.Obj:=([.ah 70 x.1, .ah 70 x.2],[])
structure EX(x:P6):Prop where
 f:Vk x.1 x.2
 a:cG (cU x.1)=true
 b:cG (cU x.2)=true
def Z2(_:P6):Out (AV×List Dn.Obj):= .one (.aH [.ak 0 0 0, .int 0],[.row 70 []])
theorem cMz κ:bc (UY κ).E 12 22 (aO ae5 EX Z2):=by
 refine aR ?_;rintro⟨A,B⟩ K ⟨hf,h1,h2⟩ ho;refine Eq.mpr (yMz _ A B K) (ai.2 ⟨hf.a,?_⟩);rw[h1];refine ai.2 ⟨hf.b,?_⟩;rw[h2];exact⟨A,B,rfl,hf,ho⟩
noncomputable def UX(κ:Kp):EB:=((UY κ).call (cMz κ)).calm [22]
end Go.Proofs.YtioeffnadipbaaaGreatDoor
namespace Go.Proofs.YtioeffnadipbaaaGreatDoor
open Go Go.Dn Go.Rl Go.Proofs
def DA t:=bif toInt (ag t 0)==2 then true else decide (toInt (ag t 0)>=7)
def uL r:=!(af (ag r 1)).any DA
section
variable {ds rs:List AV} {bf:Nat}
theorem Oo(h:iQ ds rs){r}(hr:r∈rs)(hp:uL r=true){A C}(hA:dU ds A)(hC:dU ds C)(hl:Le A C){r1 r2} x(hx:x∈dC ds r1 (dr r) A):x∈dC ds r2 (dr r) C:=by
 refine MS hA.v hC.v (fun t ht=>⟨fun _ w hw=>hl _ w hw,fun ha h1=>?_⟩) x hx;have hag:=R0 h hr ht ha h1
 exfalso
 simp only[uL,Bool.not_eq_true',List.any_eq_false] at hp;refine hp t ht ?_
 grind [ik,DA]
theorem yQ(h:iQ ds rs)(hp: ∀r,r∈rs->uL r=true)(hl:bf<=50): ∀gs A A',dU ds A->dU ds A'->Le A' A->cC (gT ds rs bf gs A)<=bf->Le (gT ds rs bf gs A') (gT ds rs bf gs A)
 |[],_,_,_,_,h,_=>h
 |g::gs,A,A',hA,hA',hle,hn=>by
  have oB:=(u5 h g bf 99 A hA).1;have oB':=(u5 h g bf 99 A' hA').1;have hn:cC (gT ds rs bf gs (fw ds rs g bf 99 A))<=bf:=hn;have hb:=(Ar h bf gs _ oB).2.1;have c1:=CY (bf:=bf) (g:=g) h 99 A hA (by omega) (by omega);obtain⟨g1,_⟩:=HZ  (g:=g) (F:=fun _=>True) h (by simp) 99 A hA;have l1:=(H0 (bf:=bf) h   (fun r hr hc=>⟨trivial,fun A1 hA1 hl _ x hx=>c1 r hr hc x (Oo h hr (hp r hr) hA1 oB hl x hx)⟩) 99 A' hA' (hle.trans g1) (fun _ k=>absurd trivial k)).1;exact yQ h hp hl gs _ _ oB oB' l1 hn
end
def vo xs' xs:=xs'.length=xs.length/\∀i,∃n,af (nth xs' i)=(af (nth xs i)).take n
theorem vo.tl{x' x xs' xs}(h:vo (x'::xs') (x::xs)):(∃n,af x'=(af x).take n)/\vo xs' xs:=⟨h.2 0,by simpa using h.1,fun i=>h.2 (i+1)⟩
theorem HA: ∀{xs xs' n n'},vo xs' xs->n'<=n->uz xs n=true->uz xs' n'=true
 |[],[],_,_,_,_,_=>rfl
 |[],_::_,_,_,h,_,_=>nomatch h.1
 |_::_,[],_,_,h,_,_=>nomatch h.1
 |x::xs,x'::xs',n,n',h,hn,hf=>by
  obtain⟨⟨m,e⟩,ht⟩:=h.tl;simp only[uz,ar5,ar4] at hf⊢;obtain⟨h1,h2,h3⟩:=hf;have hl:(af x').length<=(af x).length:=by grind
  exact⟨by omega,by grind,HA ht (by omega) h3⟩
theorem zE: ∀{L} n,cG L=true->cG (L.take n)=true
 |[],n,_=>by grind
 |_::_,0,_=>rfl
 |a::L,n+1,h=>by
  obtain⟨h1,h2⟩:=da.1 h;exact da.2 ⟨by grind,zE n h2⟩
theorem CB: ∀{xs xs' ds},vo xs' xs->pW xs ds=true->pW xs' ds=true
 |[],[],_,_,_=>rfl
 |[],_::_,_,h,_=>nomatch h.1
 |_::_,[],_,h,_=>nomatch h.1
 |_::_,_::_,[],_,h=>nomatch h
 |x::xs,x'::xs',d::ds,h,hf=>by
  obtain⟨⟨m,e⟩,ht⟩:=h.tl;rw[pW,ar5] at hf⊢;refine⟨?_,CB ht hf.2⟩
  grind [wc,W8,cU,List.map_take,zE]
theorem OA{xs xs'}(h:vo xs' xs)(hs:S9 xs):S9 xs':=by
 have key: ∀x',x'∈xs'->∃x,x∈xs/\∃n,af x'=(af x).take n:=fun x' hx'=>by
  obtain⟨i,hi,rfl⟩:=List.getElem_of_mem hx';have hi':i<xs.length:=by have:=h.1;omega
  obtain⟨n,e⟩:=h.2 i;rw[aM _ i hi,aM _ i hi'] at e;exact⟨_,List.getElem_mem hi',n,e⟩
 refine⟨?_,fun x' hx' r hr=>?_,fun x' hx' r hr=>?_⟩
 ·have hf:=hs.f
  have hl:=h.1;simp only[iJ,ar5,ar4,List.all_eq_true] at hf⊢;refine⟨by omega,fun x' hx'=>?_⟩;obtain⟨x,hx,n,e⟩:=key x' hx';have h1:=hf.2 x hx;simp only[eM,ar5,ar4,List.all_eq_true] at h1⊢
  grind
 ·obtain⟨x,hx,n,e⟩:=key x' hx'
  rw[e] at hr;exact hs.r x hx r (List.mem_of_mem_take hr)
 ·obtain⟨x,hx,n,e⟩:=key x' hx'
  rw[e] at hr;exact hs.v x hx r (List.mem_of_mem_take hr)
theorem y4{ds rs xs xs'}(h:vo xs' xs)(hL:jB ds rs xs=true):jB ds rs xs'=true:=by
 have hl:=h.1;simp[jB] at hL⊢;exact⟨hL.1,hL.2.1,by omega,hL.2.2.2.1,HA h (Nat.le_refl _) hL.2.2.2.2⟩
theorem JP{ds rs xs xs'}(h:vo xs' xs)(hf:ki ds rs xs=true):ki ds rs xs'=true:=by
 simp[ki] at hf⊢;exact⟨hf.1,h.1.trans hf.2.1,CB h hf.2.2⟩
theorem VW{xs xs'}(h:vo xs' xs)(hx: ∀L,L∈fC xs->fN L)(hx': ∀L,L∈fC xs'->fN L):Le ((fC xs').map eo) ((fC xs).map eo):=by
 have key: ∀(ys:List AV) (i:Nat),((fC ys).map eo).getD i []=eo (cU (af (nth ys i))):=fun ys i=>by
  rw[←uS];simp only[List.getD_eq_getElem?_getD,List.getElem?_map];cases(fC ys)[i]? <;>rfl
 intro i x hi;rw[key] at hi⊢;have hn: ∀(ys:List AV),(∀L,L∈fC ys->fN L)->fN (cU (af (nth ys i))):=fun ys hy=>by
  rcases Nat.lt_or_ge i ys.length with k|k
  ·rw[aM _ i k];exact hy _ (List.mem_map_of_mem (List.getElem_mem k))
  ·rw[fj _ i k];exact fun _ h=>nomatch h
 obtain⟨n,e⟩:=h.2 i
 grind [kc,cU,List.map_take,List.mem_of_mem_take]
theorem Rf{ds rs xs xs' bf}(h:vo xs' xs)(hs:S9 xs)(hL:jB ds rs xs=true)(hp: ∀r,r∈rs->uL r=true)(h1:1<=bf)(hl:bf<=50)(he:pr ds rs xs (fC xs) bf=0):
  pr ds rs xs' (fC xs') bf=0/\Le (jw ds rs (fC xs') bf) (jw ds rs (fC xs) bf)/\iz ds rs bf (jw ds rs (fC xs) bf)/\iz ds rs bf (jw ds rs (fC xs') bf)/\cC (jw ds rs (fC xs) bf)<=bf:=by
 have s1:=vj hs hL h1 hl;have s2:=vj (OA h hs) (y4 h hL) h1 hl;have o1:=s1.o;have o2:=s2.o;simp only at o1 o2;have hg:(wy ds rs).2=0:=by
  unfold pr at he
  grind
 have hf:ki ds rs xs=true:=by
  unfold pr at he
  grind
 have hf':=JP h hf;obtain⟨z1,z2,z3,z4⟩:=Rg s1.o he;simp only at z1 z2 z3 z4;have a1:=o1 hg hf;have a2:=o2 hg hf';have le:Le (jw ds rs (fC xs') bf) (jw ds rs (fC xs) bf):=yQ a1.p hp hl _ _ _ a1.A a2.A (VW h (fun L hm=>((s1.i hf).f L hm).v) (fun L hm=>((s2.i hf').f L hm).v)) z3;have k2:iz ds rs bf (jw ds rs (fC xs') bf):=iz.eval _ a2;have ht:=Le.tot k2.A z4.A le
 grind [pr,decide_eq_true,decide_eq_false]
end Go.Proofs.YtioeffnadipbaaaGreatDoor
namespace Go.Proofs.YtioeffnadipbaaaGreatDoor
open Go Go.Dn Go.Rl Go.Proofs
attribute [local irreducible] a0 vc
set_option maxRecDepth 20000
structure APk where
 ds:List AV
 rs:List AV
 i:Nat
 k:Nat
abbrev WT(x:APk):=sp 40 [(1, .ptr 0 0 [] 0),(3, .int x.i),(4, .int x.k)] [.box 25 (eH x.ds x.rs)]
theorem xPk κ x I n K:(vc (UX κ).E 12 21 none 0 (ad (Pr κ).toProgram 21 5) (WT x) (bj (UX κ).E 21 5 0 I n K))=(
 letI a:=af (ag (nth x.rs (Int.toNat (↑(x.i):Int))) 1)
 letI b:=true&&decide ((↑(x.i):Int)<(↑(x.rs.length):Int))
 letI c:=(↑(x.k):Int)<(↑(List.length a):Int)
 letI d:=ag (nth a (Int.toNat (↑(x.k):Int))) 0
 letI e:=K Exit.ret (sp 40 [(2,AV.bool false)] [])
 aV b (aq (decide c) (aV b (aV (true&&decide c) (aq (toInt d==(2:Int)) e (aq (decide (toInt d>=(7:Int))) e (∃(e0:Nat),e0<n/\I e0 (sp 40
 [(1,AV.ptr 0 0 [] 0),(3,AV.int (↑(x.i):Int)),(4,AV.int (IntKind.wrap IntKind.i64 ((↑(x.k):Int)+(1:Int))))] [Obj.box 25 (eH x.ds x.rs)])))))) (K
 (Exit.exit 2) (sp 40 [(1,AV.ptr 0 0 [] 0),(3,AV.int (↑(x.i):Int))] [Obj.box 25 (eH x.ds x.rs)])))):=by kernel_rfl
def O5(x:APk):=x.i<x.rs.length/\x.k<=(af (ag (nth x.rs x.i) 1)).length/\(af (ag (nth x.rs x.i) 1)).length<=100000
def Z4(x:APk):Out (Exit×S):= .aq (((af (ag (nth x.rs x.i) 1)).drop x.k).any DA) (.one (.ret,sp 40 [(2, .bool false)] [])) (.one (.exit 2,sp 40 [(1, .ptr 0 0 [] 0),(3, .int x.i)] [.box 25 (eH x.ds x.rs)]))
theorem lPk κ:aU (UX κ).E 12 21 5 (aG 0 WT O5 Z4):=by
 refine aC (fun x=>(af (ag (nth x.rs x.i) 1)).length - x.k) ?_;rintro⟨ds,rs,i,k⟩ K ⟨h1,h2,h3⟩ ho;simp only at h1 h2 h3;rw[show(UX κ).E.P=Pr κ from rfl];refine Eq.mpr (xPk κ ⟨ds,rs,i,k⟩ _ _ K) ?_;simp only[Int.toNat_natCast];have ho:aq (((af (ag (nth rs i) 1)).drop k).any DA) (K .ret (sp 40 [(2, .bool false)] [])) (K (.exit 2) (sp 40 [(1, .ptr 0 0 [] 0),(3, .int i)] [.box 25 (eH ds rs)])):=ho;refine ai.2 ⟨by simp;omega,?_⟩;rw[ae,ar4,ar6];refine⟨fun h=>ai.2 ⟨by simp;omega,ai.2 ⟨by simp;omega,?_⟩⟩,fun h=>?_⟩
 ·have hk:k<(af (ag (nth rs i) 1)).length:=by omega
  rw[az (n:=(k:Int)+1) (by omega) (by omega)];rw[as5 hk,List.any_cons,←aM _ k hk] at ho;unfold DA at ho;refine ae.2 ⟨fun e=>?_,fun e=>ae.2 ⟨fun e2=>?_,fun e2=>⟨_,?_,⟨ds,rs,i,k+1⟩,rfl,⟨h1,hk,h3⟩,rfl,?_⟩⟩⟩
  ·rw[e] at ho;exact ho
  ·rw[e,ar9,e2] at ho;exact ho
  ·simp only;omega
  ·rw[e,ar9,e2] at ho;exact ho
 ·rw[as2 (by omega)] at ho
  exact ho
noncomputable def U0 κ:=(UX κ).loop (lPk _)
structure APm where
 ds:List AV
 rs:List AV
 i:Nat
abbrev WU(x:APm):=sp 40 [(1, .ptr 0 0 [] 0),(3, .int x.i)] [.box 25 (eH x.ds x.rs)]
theorem xPm κ x I n K:(vc (U0 κ).E 12 21 none 0 (ad (Pr κ).toProgram 21 2) (WU x) (bj (U0 κ).E 21 2 0 I n K))=(
 letI a:=Pg.toProgram (Env.P (EB.E (UX κ)))
 aq (decide ((↑(x.i):Int)<(↑(x.rs.length):Int))) (ad a 21 5=ad a 21 5/\∃(e1:APk),sp 40 [(1,AV.ptr 0 0 [] 0),(3,AV.int (↑(x.i):Int)),(4,
 AV.int 0)] [Obj.box 25 (eH x.ds x.rs)]=WT e1/\O5 e1/\aq (List.any (List.drop e1.k (af (ag (nth e1.rs e1.i) 1))) DA) (K Exit.ret (sp 40 [(2,AV.bool false)]
 [])) (∃(e0:Nat),e0<n/\I e0 (sp 40 [(1,AV.ptr 0 0 [] 0),(3,AV.int (IntKind.wrap IntKind.i64 ((↑(e1.i):Int)+(1:Int))))] [Obj.box 25 (eH e1.ds
 e1.rs)]))) (K (Exit.exit 0) (sp 40 [] []))):=by kernel_rfl
def O6(x:APm):=x.i<=x.rs.length/\x.rs.length<=100000/\∀r,r∈x.rs->(af (ag r 1)).length<=100000
def Z5(x:APm):Out (Exit×S):= .aq ((x.rs.drop x.i).all uL) (.one (.exit 0,sp 40 [] [])) (.one (.ret,sp 40 [(2, .bool false)] []))
theorem lPm κ:aU (U0 κ).E 12 21 2 (aG 0 WU O6 Z5):=by
 refine aC (fun x=>x.rs.length - x.i) ?_;rintro⟨ds,rs,i⟩ K ⟨h1,h2,h3⟩ ho;simp only at h1 h2 h3;rw[show(U0 κ).E.P=Pr κ from rfl];refine Eq.mpr (xPm κ ⟨ds,rs,i⟩ _ _ K) ?_;simp only;have ho:aq ((rs.drop i).all uL) (K (.exit 0) (sp 40 [] [])) (K .ret (sp 40 [(2, .bool false)] [])):=ho;rw[ae,ar4,ar6];refine⟨fun h=>?_,fun h=>?_⟩
 ·have hk:i<rs.length:=by omega
  have hx:nth rs i∈rs:=by rw[aM _ _ hk];exact List.getElem_mem _
  rw[as5 hk,←aM _ i hk,List.all_cons] at ho;refine⟨trivial,⟨ds,rs,i,0⟩,rfl,⟨hk,Nat.zero_le _,h3 _ hx⟩,?_⟩;rw[az (n:=(i:Int)+1) (by omega) (by omega)];unfold uL at ho;refine ae.2 ⟨fun e=>?_,fun e=>⟨_,?_,⟨ds,rs,i+1⟩,rfl,⟨hk,h2,h3⟩,rfl,?_⟩⟩
  ·rw[as4] at e
   rw[show(af (ag (nth rs i) 1)).any DA=true from e] at ho;exact ho
  ·simp only;omega
  ·rw[as4] at e
   rw[show(af (ag (nth rs i) 1)).any DA=false from e] at ho;exact ho
 ·rw[as2 (by omega)] at ho
  exact ho
noncomputable def BPm κ:=(U0 κ).loop (lPm _)
theorem yPm κ ds rs K:(a0 (BPm κ).E 12 21 [eH ds rs] [] K)=(
 letI a:=Pg.toProgram (Env.P (EB.E (U0 κ)))
 ad a 21 2=ad a 21 2/\∃(e0:APm),sp 40 [(1,AV.ptr 0 0 [] 0),(3,AV.int 0)] [Obj.box 25 (eH ds rs)]=WU e0/\O6 e0/\aq (List.all (List.drop e0.i
 e0.rs) uL) (K (AV.bool true) []) (K (AV.bool false) [])):=by kernel_rfl
def gPm:List AV->Option (Bool×AV)
 |[.agg [.ah 43 _, .ah 48 rs]]=>some (decide (rs.length<=100000)&&rs.all fun r=>decide ((af (ag r 1)).length<=100000), .bool (rs.all uL))
 |_=>none
theorem pPm κ:cd (BPm κ).E 12 21 gPm:=by
 intro args x hh;unfold gPm at hh;split at hh
 ·rename_i ds rs
  simp only[ar7,as3,ar5,ar4,List.all_eq_true] at hh;obtain⟨⟨h1,h2⟩,rfl⟩:=hh;refine⟨_,rfl,rfl,Eq.mpr (yPm κ ds rs _) ⟨rfl,⟨ds,rs,0⟩,rfl,⟨Nat.zero_le _,h1,h2⟩,?_⟩⟩;rw[as4];cases rs.all uL<;>exact rfl
 ·cases hh
noncomputable def Lp κ:=EB.Fx ((BPm κ).pure (pPm _)) [21]
structure Uu where
 A:List RL
 B:List RL
 i:Nat
abbrev GZ(x:Uu):=sp 114 [(7, .bool true),(9, .ak 0 0 (bh x.A).length),(11, .ak 1 0 (bh x.B).length),(13, .int x.i)] [qT x.A,qT x.B]
theorem xGy κ x I n K:(vc (Lp κ).E 12 7 none 0 (ad (Pr κ).toProgram 7 13) (GZ x) (bj (Lp κ).E 7 13 0 I n K))=(
 letI a:=(↑(x.i):Int)<(↑(List.length (bh x.A)):Int)
 aq (decide a) (aV (true&&decide ((↑(x.i):Int)<(↑(List.length (bh x.B)):Int))) (aV (true&&decide a) (∃(e1:P6),([AV.ah 70 (af (nth (bh x.B) (0+
 Int.toNat (↑(x.i):Int)))),AV.ah 70 (af (nth (bh x.A) (0+Int.toNat (↑(x.i):Int))))],[])=ae5 e1/\EX e1/\∃(e0:Nat),e0<n/\I e0 (sp 114 [(7,
 AV.bool true),(9,AV.ak 0 0 (List.length (bh x.A))),(11,AV.ak 1 0 (List.length (bh x.B))),(13,AV.int (IntKind.wrap IntKind.i64 ((↑(x.i):Int)+(1:
 Int))))] [qT x.A,qT x.B])))) (K (Exit.exit 0) (sp 114 [(7,AV.bool true)] []))):=by kernel_rfl
theorem MF{ds rs n A}(h:iz ds rs n A) i:eM (rws (A.getD i []))=true:=by
 refine rk ?_ fun r hr=>Hp h.p h.A i r hr
 rcases Nat.lt_or_ge i A.length with k|k
 ·have:=sj (kQ k)
  have:=h.n;omega
 grind
theorem R2{ds rs n A B}(hA:iz ds rs n A)(hB:iz ds rs n B)(h:Le B A) i:EX (rws (B.getD i []),rws (A.getD i [])):=by
 have a:=px hA.A i;have b:=px hB.A i;refine⟨⟨MF hB i,MF hA i,?_⟩,?_,?_⟩
 ·simp only[jL]
  exact Ah b.1 a.1 b.2 a.2 (h i)
 ·grind [jL]
 grind [jL]
def vv(x:Uu):=x.i<=x.A.length/\∃ds rs n,iz ds rs n x.A/\iz ds rs n x.B/\Le x.B x.A
def ZL(_:Uu):Out (Exit×S):= .one (.exit 0,sp 114 [(7, .bool true)] [])
theorem lGy κ:aU (Lp κ).E 12 7 13 (aG 0 GZ vv ZL):=by
 refine aC (fun x=>x.A.length - x.i) ?_;rintro⟨A,B,i⟩ K ⟨h1,ds,rs,n,hA,hB,hl⟩ ho;simp only at h1 hA hB hl;refine Eq.mpr (xGy κ ⟨A,B,i⟩ _ _ K) ?_;simp only[Int.toNat_natCast,Nat.zero_add,eL];have e1:=hA.A.len;have e2:=hB.A.len;have hd:=Fk hA.p;rw[ae,ar4,ar6];refine⟨fun h=>ai.2 ⟨by simp;omega,ai.2 ⟨by simp;omega,(rws (B.getD i []),rws (A.getD i [])),by rw[mP,mP];rfl,R2 hA hB hl i,_,?_,⟨A,B,i+1⟩,?_,⟨by simp only;omega,ds,rs,n,hA,hB,hl⟩,rfl,ho⟩⟩,fun _=>ho⟩
 ·simp only;omega
 ·simp only[GZ,eL]
  grind [az]
noncomputable def BGy κ:=(Lp κ).loop (lGy _)
theorem yGy(κ:Kp) ds rs xs p K:(a0 (BGy κ).E 12 7 [eH ds rs, .ah 51 xs, .int p] [] K)=(
 letI a:=IntKind.wrap IntKind.i64
 letI b:=AV.int
 letI c:=AV.bool
 letI d:=Pg.toProgram (Env.P (EB.E (Lp κ)))
 letI g:=decide ((0:Int)<=p)&&decide (p<(↑(xs.length):Int))
 letI h:=List.length (af (nth xs p.toNat))
 letI i:=(↑h:Int) - (1:Int)
 letI l:=List.drop 0 (List.take (Int.toNat (a i)) (af (nth xs p.toNat)))
 ∃(e3:Unit),([],[])=af6 e3/\True/\aV ((decide (ds.length<=9223372036854775807)&&List.all ds fun(e0:AV)=>decide (List.length (af (ag e0 1))<=9223372036854775807))&&iJ xs) (aq ((bif jB ds rs xs then(1:Int) else(0:Int))==(0:Int)) (K (c true) []) (aV (decide (rs.length<=100000)&&List.all rs fun(e0:AV)=>decide (List.length (af (ag e0 1))<=100000)) (aq (!List.all rs uL) (K (c true) []) (aq (decide (p<(0:Int))) (K (c true) []) (aq (decide (p>=(↑(xs.length):Int))) (K (c true) []) (aV g (aq ((↑h:Int)==(0:Int)) (K (c true) []) (aV (true&&decide ((Int.toNat (↑(xs.length):Int)+1)*25<=70368744177664)&&true) (aV (decide ((0+xs.length+1)*25<=70368744177664)) (aV g (aV g (aV (true&&decide ((0:Int)<=a i)&&decide (a i<=(↑h:Int))) (aV (decide ((0:Int)<=p)&&decide (p<(↑(0+xs.length):Int))) (∃(e2:Qc),letI j:=jw e2.ds e2.rs e2.all e2.bf;letI f:=List.length (bh j);letI m:=pr e2.ds e2.rs e2.xs e2.all e2.bf != (0:Int);([eH ds rs,AV.ah 51 xs,b 20],[])=GY e2/\mN e2/\aq (decide (pr e2.ds e2.rs e2.xs e2.all e2.bf=(0:Int))) (∃(e1:Qc),letI k:=jw e1.ds e1.rs e1.all e1.bf;([eH ds rs,AV.ah 51 (List.take (0+xs.length) (List.drop 0 (bH ([]++xs) (0+p.toNat) (AV.ah 70 l)))),b 20],[])=GY e1/\mN e1/\aq (decide (pr e1.ds e1.rs e1.xs e1.all e1.bf=(0:Int))) (aq ((↑f:Int) != (↑(List.length (bh k)):Int)) (K (c false) []) (ad d 7 13=ad d 7 13/\∃(e0:Uu),sp 114 [(7,c true),(9,AV.ak 0 0 f),(11,AV.ak 1 0 (List.length (bh k))),(13,b 0)] [qT j,qT k]=GZ e0/\vv e0/\K (c true) [])) (aq (pr e1.ds e1.rs e1.xs e1.all e1.bf != (0:Int)) (K (c false) []) (aq ((↑f:Int) != (0:Int)) (K (c false) []) (ad d 7 13=ad d 7 13/\∃(e0:Uu),sp 114 [(7,c true),(9,AV.ak 0 0 f),(11,AV.nil),(13,b 0)] [qT j]=GZ e0/\vv e0/\K (c true) [])))) (∃(e1:Qc),letI e:=jw e1.ds e1.rs e1.all e1.bf;([eH ds rs,AV.ah 51 (List.take (0+xs.length) (List.drop 0 (bH ([]++xs) (0+p.toNat) (AV.ah 70 l)))),b 20],[])=GY e1/\mN e1/\aq (decide (pr e1.ds e1.rs e1.xs e1.all e1.bf=(0:Int))) (aq m (K (c true) []) (aq ((0:Int) != (↑(List.length (bh e)):Int)) (K (c false) []) (ad d 7 13=ad d 7 13/\∃(e0:Uu),sp 114 [(7,c true),(9,AV.nil),(11,AV.ak 0 0 (List.length (bh e))),(13,b 0)] [qT e]=GZ e0/\vv e0/\K (c true) []))) (aq m (K (c true) []) (aq (pr e1.ds e1.rs e1.xs e1.all e1.bf != (0:Int)) (K (c false) []) (ad d 7 13=ad d 7 13/\∃(e0:Uu),sp 114 [(7,c true),(9,AV.nil),(11,AV.nil),(13,b 0)] []=GZ e0/\vv e0/\K (c true) []))))))))))))))))))):=by kernel_rfl
theorem DT: ∀l k x,k<l.length->bH l k x=l.set k x
 |[],_,_,h=>nomatch h
 |_::_,0,_,_=>rfl
 |a::l,k+1,x,h=>by rw[bH,DT l k x (by grind)];rfl
theorem Q9{xs p m}:vo (xs.set p (.ah 70 ((af (nth xs p)).take m))) xs:=by
 refine⟨by simp,fun i=>?_⟩;rcases Nat.lt_or_ge i xs.length with hi|hi
 ·have hi':i<(xs.set p (.ah 70 ((af (nth xs p)).take m))).length:=by grind
  rw[aM _ i hi',List.getElem_set];by_cases e:p=i
  ·subst e
   rw[if_pos rfl];exact⟨m,rfl⟩
  ·rw[if_neg e,aM _ i hi]
   exact⟨_,(List.take_length).symm⟩
 ·rw[fj _ i (by grind)]
  exact⟨0,rfl⟩
theorem ab4 κ{ds rs xs p}(h1:(decide (ds.length<=aW)&&ds.all fun d=>decide ((af (ag d 1)).length<=aW))=true)(_: ∀r,r∈rs->au (dr r)=r)(hs:S9 xs){K}(ho:K (.bool true) []):a0 (BGy κ).E 12 7 [eH ds rs, .ah 51 xs, .int p] [] K:=by
 refine Eq.mpr (yGy κ ds rs xs p K) ⟨(),rfl,trivial,ai.2 ⟨by rw[hs.f,Bool.and_true];exact h1,?_⟩⟩;cases hL:jB ds rs xs with
 |false=>exact ho
 | true=>
  have hl:=hL;simp only[jB,ar5,ar4] at hl;obtain⟨l1,l2,l3,_⟩:=hl;refine ae.2 ⟨fun e=>absurd e (by decide),fun _=>ai.2 ⟨?_,ae.2 ⟨fun _=>ho,fun hp=>ae.2 ⟨fun _=>ho,fun c1=>ae.2 ⟨fun _=>ho,fun c2=>?_⟩⟩⟩⟩⟩
  ·rw[ar5,ar4,List.all_eq_true]
   exact⟨by omega,fun r hr=>as0 ((jW l1).2.2 r hr).2⟩
  have c1:=of_decide_eq_false c1;have c2:=of_decide_eq_false c2;have hp: ∀r,r∈rs->uL r=true:=by simpa using hp
  refine ai.2 ⟨by simp;omega,ae.2 ⟨fun _=>ho,fun c3=>?_⟩⟩;have hpl:p.toNat<xs.length:=by omega
  have c3: ¬ (af (nth xs p.toNat)).length=0:=by simpa using c3
  have hfl:=iZ (mq hs.f p.toNat);have hw:IntKind.wrap .i64 (((af (nth xs p.toNat)).length:Int) - 1)=(((af (nth xs p.toNat)).length - 1:Nat):Int):=by
   rw[az (by omega) (by omega)];omega
  rw[hw];simp only[Int.toNat_natCast,as4,Nat.zero_add,List.nil_append];have hq:List.take xs.length (bH xs p.toNat (.ah 70 (List.take ((af (nth xs p.toNat)).length - 1) (af (nth xs p.toNat)))))=xs.set p.toNat (.ah 70 ((af (nth xs p.toNat)).take ((af (nth xs p.toNat)).length - 1))):=by
   rw[DT xs _ _ hpl];exact List.take_of_length_le (by simp)
  rw[hq];have hc:=Q9 (xs:=xs) (p:=p.toNat) (m:=(af (nth xs p.toNat)).length - 1);generalize xs.set p.toNat (.ah 70 ((af (nth xs p.toNat)).take ((af (nth xs p.toNat)).length - 1)))=ys at*
  have s1:=vj hs hL (bf:=20) (by omega) (by omega);have s2:=vj (OA hc hs) (y4 hc hL) (bf:=20) (by omega) (by omega)
  repeat' first
   |refine⟨⟨ds,rs,xs,fC xs,20⟩,rfl,s1,ae.2 ⟨fun e=>?p1,fun e=>?p2⟩⟩
   |refine ai.2 ⟨?_,?_⟩
   |(simp only[at2,Bool.and_true,ar5,ar4];omega)
  case p1=>
   have e:pr ds rs xs (fC xs) 20=0:=of_decide_eq_true e;obtain⟨z1,z2,z3,z4,_⟩:=Rf hc hs hL hp (by omega) (by omega) e;have e1:=z3.A.len;have e2:=z4.A.len;refine⟨⟨ds,rs,ys,fC ys,20⟩,rfl,s2,ae.2 ⟨fun _=>ae.2 ⟨fun c=>?_,fun _=>⟨trivial,⟨jw ds rs (fC xs) 20,jw ds rs (fC ys) 20,0⟩,rfl,⟨Nat.zero_le _,ds,rs,20,z3,z4,z2⟩,ho⟩⟩,fun c=>absurd z1 (of_decide_eq_false c)⟩⟩;simp only[eL,e1,e2] at c;simp at c
  case p2=>
   have e: ¬ pr ds rs xs (fC xs) 20=0:=of_decide_eq_false e;have e2:(pr ds rs xs (fC xs) 20 != 0)=true:=by simpa using e
   refine⟨⟨ds,rs,ys,fC ys,20⟩,rfl,s2,ae.2 ⟨fun _=>ae.2 ⟨fun _=>ho,fun c=>?_⟩,fun _=>ae.2 ⟨fun _=>ho,fun c=>?_⟩⟩⟩
   ·exact absurd (e2.symm.trans c) (by simp)
   ·exact absurd (e2.symm.trans c) (by simp)
end Go.Proofs.YtioeffnadipbaaaGreatDoor
