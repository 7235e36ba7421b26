import Derived.Test.YtioeffnadipbaaaGreatDoorDePF
import Derived.Test.YtioeffnadipbaaaGreatDoorDeP9
namespace Go.Proofs.YtioeffnadipbaaaGreatDoor
open Go Go.Dn Go.Rl Go.Proofs
def mv t:=toStr (af (af t 1) 0)
def aq9(x y:vL) t:=(toInt (af t 0)=1->∀w,w∈x.at (mv t)->w∈y.at (mv t))/\(fv (toInt (af t 0))=true->toInt (af t 0)≠1->x.at (mv t)=y.at (mv t))
theorem Jq{x y}(c:x.r=y.r): ∀a e r,(∀k,k∈a->aq9 x y (nth x.r.bl k))->r∈mL x a e->r∈mL y a e
 |[],e,r,_,h=>by rw[mL] at h⊢;rwa [←c]
 | k::a,e,r,i,h=>by
  have j:=fun e=>Jq c a e r (fun k b=>i k (by simp[b]))
  have b:=i k (by simp);rw[mL] at h⊢;rw[←c];simp only at h⊢;unfold aq9 mv at b;generalize nth x.r.bl k=t at h b⊢
  cases f:toInt (af t 0)==1 with
  |true=>
   rw[f,aD2] at h;obtain⟨g,l,d⟩:=List.mem_flatMap.1 h;obtain⟨w,n,m⟩:=List.mem_filterMap.1 l;exact List.mem_flatMap.2 ⟨g,List.mem_filterMap.2 ⟨w,b.1 (by simpa using f) w n,m⟩,j g d⟩
  | false=>
   rw[f,aD0] at h;rw[aD0];cases d:fv (toInt (af t 0)) with
   |true=>
    grind
   |false=>
    unfold fv at d
    grind
def aA2 ds(A C:List RL) t:=(toInt (af t 0)=1->∀w,w∈A.getD (bu (mv t) ds).toNat []->w∈C.getD (bu (mv t) ds).toNat [])/\(fv (toInt (af t 0))=true->toInt (af t 0)≠1->A.getD (bu (mv t) ds).toNat []=C.getD (bu (mv t) ds).toNat [])
theorem OI{ds c a r A C}(l: ∀L,L∈A->gU L)(o: ∀L,L∈C->gU L)(h: ∀t,t∈r.bl->aA2 ds A C t) x(g:x∈dp ds c r A):x∈dp ds a r C:=by
 have i:gU (mL (AM ds c r A) (c6 (aL r)) []):=qo (sR l) _ EN;have j:gU (mL (AM ds a r C) (c6 (aL r)) []):=qo (sR o) _ EN;refine((jP j).2.1 x).2 (Jq (x:=AM ds c r A) (y:=AM ds a r C) rfl _ _ _ (fun k b=>?_) (((jP i).2.1 x).1 g));have b:=tF b;rw[fR] at b;obtain⟨m,n⟩:=h (nth r.bl k) (by rw[aV _ k b];simp);refine⟨fun e w d=>?_,fun p q=>?_⟩
 ·rw[rF] at d⊢
  obtain⟨L,f,rfl⟩:=List.mem_map.1 d;exact List.mem_map_of_mem (m e L f)
 ·rw[rF,rF]
  exact congrArg rws (n p q)
theorem tf: ∀{Y X},dg X=true->dg Y=true->(∀r,r∈X->r∈Y)->X.Sublist Y
 |[],[],_,_,_=> .slnil
 |[],a::X,_,_,h=>nomatch h a (by simp)
 |b::Y,[],_,_,_=>List.nil_sublist _
 | b::Y,a::X,d,f,h=>by
  obtain⟨j,g⟩:=dC.1 d;obtain⟨l,e⟩:=dC.1 f;have m:=fun c=>bX.swap a c
  rcases List.mem_cons.1 (h a (by simp)) with rfl|k
  ·refine(tf g e fun r i=>?_).cons_cons _
   grind
  ·refine(tf d e fun r i=>?_).cons _
   grind
def Le(A C:List RL):=∀i x,x∈A.getD i []->x∈C.getD i []
def Off(F:Nat->Prop)(A C:List RL):=∀i,¬ F i->A.getD i []=C.getD i []
theorem Le.refl A:Le A A:=fun _ _ h=>h
theorem Le.trans{A B C}(h:Le A B)(k:Le B C):Le A C:=fun i x a=>k i x (h i x a)
theorem mj{ds A}(h:dX ds A) i:gU (A.getD i [])/\dg (A.getD i [])=true:=by
 rcases Nat.lt_or_ge i _ with a|a
 ·exact⟨h.v _ (km a),h.r _ (km a)⟩
 ·rw[List.getD_eq_getElem?_getD,List.getElem?_eq_none a]
  exact⟨fun _ h=>(nomatch h),rfl⟩
theorem Le.sub{ds A C}(a:dX ds A)(b:dX ds C)(h:Le A C) i:(A.getD i []).Sublist (C.getD i []):=tf (mj a i).2 (mj b i).2 (h i)
theorem VC{A C:List RL}(a:A.length=C.length)(h: ∀i,A.getD i []=C.getD i []):A=C:=by
 refine List.ext_getElem a fun i c b=>?_
 have:=h i
 grind
variable {ds rs:List AV} {F:Nat->Prop} {g:List Int} {aZ:Nat}
theorem RG(h:gB ds rs){r}(b:r∈rs){A}(a:dX ds A) i x:x∈(iJ ds rs r A).getD i []↔x∈A.getD i []\/i=atR ds r/\x∈dp ds rs (cK r) A:=by
 have c:atR ds r<A.length:=by rw[a.len];exact(h.at b).2
 grind [gz,mj,nW,iJ]
theorem RH{r A}(h:F (atR ds r)):Off F (iJ ds rs r A) A:=fun i a=>by
 grind [iJ]
theorem M1(h:gB ds rs){r}(g:r∈rs){A}(c:dX ds A)(i: ¬ (A.getD (atR ds r) []).length<(eY (A.getD (atR ds r) []) (dp ds rs (cK r) A)).length):iJ ds rs r A=A/\∀x,x∈dp ds rs (cK r) A->x∈A.getD (atR ds r) []:=by
 obtain⟨b,d,_⟩:=nW h g c;have a:=mj c (atR ds r);have e:=(tf a.2 (lV a.1 b a.2 d) fun x f=>(gz a.1 b).2 (.inl f)).eq_of_length_le (by omega)
 grind [VC,iJ,List.length_set,gz]
def Clo ds a(g:List _) C:=∀r,r∈a->g.contains (bu (cK r).rel ds)=true->∀x,x∈dp ds a (cK r) C->x∈C.getD (atR ds r) []
theorem B3(h:gB ds rs)(d: ∀r,r∈rs->g.contains (bu (cK r).rel ds)=true->F (atR ds r)): ∀xs A m,(∀r,r∈xs->r∈rs)->dX ds A->Le A (ct ds rs g aZ xs A m).1/\Off F A (ct ds rs g aZ xs A m).1
 |[],A,m,_,_=>⟨Le.refl _,fun _ _=>rfl⟩
 | r::xs,A,m,f,e=>by
  have b: ∀r,r∈xs->r∈rs:=fun r a=>f r (by simp[a])
  have a:=f r (by simp);rw[ct];cases decide (aZ<cM A) with
  |true=>exact⟨Le.refl _,fun _ _=>rfl⟩
  | false=>
   rw[aD0];cases l:g.contains _ with
   |false=>exact B3 h d xs A m b e
   |true=>
    obtain⟨j,k⟩:=B3 h d xs (iJ ds rs r A) _ b (qK h a e).1;exact⟨fun i x c=>j i x ((RG h a e i x).2 (.inl c)),fun i c=>((RH (d r a l) i c).symm.trans (k i c))⟩
theorem Ck(h:gB ds rs)(c: ∀r,r∈rs->g.contains (bu (cK r).rel ds)=true->F (atR ds r)): ∀n A,dX ds A->Le A (eH ds rs g aZ n A)/\Off F A (eH ds rs g aZ n A)
 |0,A,_=>⟨Le.refl _,fun _ _=>rfl⟩
 | n+1,A,b=>by
  obtain⟨d,e⟩:=B3  h c rs A false (by simp) b;rw[eH];cases(ct ds rs g aZ rs A _).2 with
  |true=>
   obtain⟨f,j⟩:=Ck h c n _ (kZ h g aZ rs A false (by simp) b).1;exact⟨d.trans f,fun i a=>(e i a).trans (j i a)⟩
  |false=>grind
theorem uc: ∀xs A,(ct ds rs g aZ xs A true).2=false->aZ<cM (ct ds rs g aZ xs A true).1
 |[],A,h=>nomatch h
 | r::xs,A,h=>by
  rw[ct] at h⊢;by_cases c:aZ<cM A
  ·grind
  ·rw[aC9 c] at h⊢
   cases a:g.contains _ with
   |false=>rw[a] at h;exact uc _ A h
   |true=>rw[a] at h;exact uc xs _ h
theorem xL(h:gB ds rs): ∀xs A,(∀r,r∈xs->r∈rs)->dX ds A->(ct ds rs g aZ xs A false).2=false->cM (ct ds rs g aZ xs A false).1<=aZ->(ct ds rs g aZ xs A false).1=A/\∀r,r∈xs->g.contains (bu (cK r).rel ds)=true->∀x,x∈dp ds rs (cK r) A->x∈A.getD (atR ds r) []
 |[],A,_,_,_,_=>⟨rfl,fun _ h=>(nomatch h)⟩
 | r ::xs,A,k,j,b,a=>by
  have f: ∀r,r∈xs->r∈rs:=fun r i=>k r (by simp[i])
  have i:=k r (by simp);rw[ct] at b a⊢;by_cases c:aZ<cM A
  ·rw[aD1 c] at a
   exact absurd (show cM A<=aZ from a) (by omega)
  ·rw[aC9 c,aD0] at b a⊢
   cases l:g.contains (bu (cK r).rel ds) with
   |false=>
    rw[l] at b a;obtain⟨m,n⟩:=xL h xs A f j b a
    grind
   | true=>
    rw[l] at b a;simp only[Bool.not_true,aD0,Bool.false_or] at b a⊢;by_cases d:(A.getD (atR ds r) []).length<(eY (A.getD (atR ds r) []) (dp ds rs (cK r) A)).length
    ·rw[aD1 d] at b a
     have:=uc xs _ b
     omega
    ·rw[aC9 d] at b a⊢
     obtain⟨e,o⟩:=M1 h i j d;rw[e] at b a⊢;obtain⟨m,n⟩:=xL h xs A f j b a
     grind
theorem EE(h:gB ds rs): ∀n A,dX ds A->aZ<cM A+n->cM (eH ds rs g aZ n A)<=aZ->Clo ds rs g (eH ds rs g aZ n A)
 |0,A,_,i,a=>absurd (show cM A<=aZ from a) (by omega)
 | n+1,A,c,i,a=>by
  obtain⟨e,k,f,_⟩:=kZ h g aZ rs A false (by simp) c;rw[eH] at a⊢;cases b:(ct ds rs g aZ rs A false).2 with
  |true=>
   rw[b] at a;have:=(f b).resolve_left (by simp)
   exact EE h n _ e (by omega) a
  |false=>
   rw[b] at a;obtain⟨j,d⟩:=xL h rs A (by simp) c b a;rw[j];exact d
theorem VE{l}(h:fX l=true)(b:fv l.op=true)(a:l.op≠1):jn l.op=true:=by
 unfold jn;by_cases c:l.op=2
 ·grind
 ·rw[aC9 c,aD0,at3]
  grind [Int.lt_or_le,fv,fX]
section
variable {ds rs rs':List AV} {g:List Int} {aZ:Nat}
theorem ad0(h:gB ds rs){r}(a:r∈rs)(b:g.contains (bu (cK r).rel ds)=true):(atR ds r:Int)∈g:=by
 have:=(h.at a).1
 show((bu _ _).toNat:Int)∈g
 grind
end
end Go.Proofs.YtioeffnadipbaaaGreatDoor
namespace Go.Proofs.YtioeffnadipbaaaGreatDoor
open Go Go.Dn Go.Rl Go.Proofs
attribute [local irreducible] a8 vc
set_option maxRecDepth 20000
noncomputable abbrev Yd(A B:List AV):Dn.Obj:= .loop (jq Tryz.prog 22 5 .ready none (iO (bR 35) [(0, .ah 70 A),(1, .ah 70 B),(4, .nil),(5, .int 0),(6, .ptr 0 0 [] 0),(9, .ah 70 A),(10, .bool (dg (dh A))),(11, .bool !dg (dh A)),(12, .bool false),(13, .ah 70 B),(14, .bool (dg (dh B))),(15, .bool !dg (dh B)),(16, .bool false),(17, .ah 70 A),(18, .ah 70 B),(19, .bo 82 oS)]))
noncomputable abbrev we A B:=[.box 51 .nil, .box 51 (.ah 70 A), .box 51 (.ah 70 B),Yd A B]
noncomputable abbrev Cw A B:=[.box 51 (.ak 4 0 0), .dead, .dead,Yd A B, .row 70 []]
theorem sMz κ A B Q:(tidy (Pr κ).toProgram 4 (dF (we A B) (b7 (we A B) oS)) Q)=(
 Q (Cw A B)):=by kernel_rfl
theorem rMz κ A B t p q Q(K2:List Dn.Obj->Prop):(gx (vc (Z2 κ).E 12) 3 [.ah 72 t, .agg [.bool p, .bool q]] (Cw A B) (fun r st''=>match r with| .lit (.bool true)=>tidy (Pr κ).toProgram 4 st'' Q| .lit (.bool false)=>K2 st''|_=>False))=(
 aq (!p) (Q (Cw A B)) (aq q (Q (Cw A B)) (∃(a:List AV),([AV.ah 72 t],[])=Rq a/\a.length<=100000000/\Q [Obj.box 51 (AV.ak 4 0 1),Obj.dead,
 Obj.dead,Yd A B,Obj.row 70 [AV.ah 72 a]]))):=by kernel_rfl
theorem oMz A B:mi (we A B) oS=true:=by kernel_rfl
theorem kMz A B xs:(.cn 0::gf (iX (b7 (we A B) oS)) oS,.ext (some xs)::gJ (iX (b7 (we A B) oS)) (gF (we A B) (b7 (we A B) oS)))=([.cn 0, .ptr 1 0 [] 0, .ptr 2 0 [] 0], .ext (some xs)::oR A B):=by kernel_rfl
structure Xw(A B:List AV):Prop where
 a:fp A=true
 b:fp B=true
 s: ∀x,x∈gE (dh A) (dh B)->(x.2.1&& !x.2.2)=false
noncomputable def am5:eO:=fun a st K=>∃A B,(a,st)=(oS,we A B)/\Xw A B/\K (Cw A B)
theorem MM:am5.gl:=by
 rintro a st K f d ⟨A,B,c,e,b⟩;exact⟨A,B,c,e,d _ b⟩
theorem XI κ a st K(h:aM YU uO PT a st K):(Z2 κ).E.call 82 a st K:=h
theorem gMz κ:jf (Z2 κ).E 12 82 am5:=by
 rintro e st K ⟨A,B,r,j,n⟩;obtain⟨rfl,rfl⟩:=Prod.mk.inj (show(e,st)=(oS,we A B) from r);refine⟨Gj (gE (dh A) (dh B)),fun d st'=>∃c:List BI,d=Gj c/\st'=Cw A B/\∀x,x∈c->(x.2.1&& !x.2.2)=false,⟨oMz A B,?_,?_,?_,?_⟩⟩
 ·refine XI κ _ _ _ ⟨⟨A,B,Gj (gE (dh A) (dh B))⟩,?_,⟨rfl,j.a,j.b⟩,fun st' h=>h⟩
  rw[kMz];rfl
 ·rw[show(Z2 κ).E.P=Pr κ from rfl,show(we A B).length=4 from rfl,sMz]
  exact⟨_,rfl,rfl,j.s⟩
 ·rintro v k st' ⟨c,i,rfl,g⟩
  cases c with
  |nil=>cases i
  |cons x c=>
   obtain⟨t,p,q⟩:=x;obtain⟨o,rfl⟩:=List.cons.inj i;obtain rfl:=AV.aH.inj o;have l: ∃f:List BI,Gj c=Gj f/\Cw A B=Cw A B/\∀x,x∈f->(x.2.1&& !x.2.2)=false:=⟨c,rfl,rfl,fun x u=>g x (by simp[u])⟩
   have m:(p&& !q)=false:=g (t,p,q) (by simp);refine Eq.mpr (rMz κ A B t p q (fun st'=>∃f:List BI,Gj c=Gj f/\st'=Cw A B/\∀x,x∈f->(x.2.1&& !x.2.2)=false) K) ?_
   grind [ae]
 ·rintro st' ⟨c,i,rfl,g⟩
  exact n
noncomputable def Xa κ:=(Z2 _).range 22 5 MM (gMz κ) fun f=>jr f (82::Lz)
theorem yMz κ A B K:(a8 (Xa κ).E 12 22 [.ah 70 A, .ah 70 B] [] K)=(
 letI a:=K (AV.aH [AV.nil,AV.int 80]) []
 aW (fp A) (aq (!dg (dh A)) a (aW (fp B) (aq (!dg (dh B)) a (∃(e1:List AV),∃(e0:List AV),([AV.ptr 1 0 [] 0,AV.ptr 2 0 [] 0],we A B)=([AV.ptr 1 0 []
 0,AV.ptr 2 0 [] 0],we e1 e0)/\Xw e1 e0/\K (AV.aH [AV.ak 0 0 0,AV.int 0]) [Obj.row 70 []]))))):=by kernel_rfl
theorem S6 a b(cs c:RL):gE (a::cs) (b::c)=bif decide (bD a b<0) then(a,true,false)::gE cs (b::c) else bif decide (bD a b=0) then(a,true,true)::gE cs c else(b,false,true)::gE (a::cs) c:=rfl
theorem wz{A B}(j:gU A)(m:gU B)(l:dg A=true)(v:dg B=true)(h: ∀r,r∈A->r∈B): ∀x,x∈gE A B->(x.2.1&& !x.2.2)=false:=by
 match A,B with
 |[],B=>
  intro x c;obtain⟨b,_,rfl⟩:=List.mem_map.1 c;rfl
 |a::cs,[]=>exact nomatch h a (by simp)
 | a ::cs,b::p=>
  have i:gU cs:=fun s hs=>j s (by simp[hs])
  have d:gU p:=fun s hs=>m s (by simp[hs])
  obtain⟨n,u⟩:=dC.1 l;obtain⟨o,k⟩:=dC.1 v;rw[S6];by_cases q:bD a b<0
  ·exfalso
   rcases List.mem_cons.1 (h a (by simp)) with rfl|t
   ·have:=bX.self a;omega
   ·have w:=o a t
    have:=bX.swap a b;omega
  ·rw [aC9 q,aD0]
   by_cases f:bD a b=0
   ·obtain rfl:=qk (j a (by simp)) (m b (by simp)) f
    rw[aD1 f,aD2];intro x c;rcases List.mem_cons.1 c with rfl|c
    ·rfl
    ·refine wz i d u k (fun r e=>?_) x c
     grind
   ·rw [aC9 f,aD0]
    intro x c;rcases List.mem_cons.1 c with rfl|c
    ·rfl
    ·refine wz j d l k (fun r e=>?_) x c
     rcases List.mem_cons.1 (h r e) with rfl|g
     ·exfalso
      rcases List.mem_cons.1 e with rfl|e
      ·exact f (bX.self _)
      ·have:=n _ e
       have:=bX.swap a r;omega
     ·exact g
termination_by A.length+B.length
def Y6(x:Nq):List AV×List Dn.Obj:=([.ah 70 x.1, .ah 70 x.2],[])
structure wZ(x:Nq):Prop where
 f:Xw x.1 x.2
 a:dg (dh x.1)=true
 b:dg (dh x.2)=true
def aj6(_:Nq):Out (AV×List Dn.Obj):= .one (.aH [.ak 0 0 0, .int 0],[.row 70 []])
theorem cMz κ:bd (Xa κ).E 12 22 (aM Y6 wZ aj6):=by
 refine aQ ?_;rintro⟨A,B⟩ K ⟨c,e,f⟩ d;refine Eq.mpr (yMz _ A B K) (ai.2 ⟨c.a,?_⟩);rw[e];refine ai.2 ⟨c.b,?_⟩;rw[f];exact⟨A,B,rfl,c,d⟩
noncomputable def Zu(κ:Kp):EB:=((Xa κ).call (cMz κ)).calm [22]
end Go.Proofs.YtioeffnadipbaaaGreatDoor
namespace Go.Proofs.YtioeffnadipbaaaGreatDoor
open Go Go.Dn Go.Rl Go.Proofs
section
variable {ds rs:List AV} {aZ:Nat}
theorem Em(f:wX ds rs):Vq ds.length (qQ ds rs) (B0 ds rs) [] (v7 ds rs):=JB f.wg _ _ (Nat.le_refl _) FF
theorem ue{a}(h:fv a=true):cQ a=true:=by
 have:=xR h
 grind [Rl.cQ,cQ]
theorem TH(h:gB ds rs){r}(e:r∈rs){t}(d:t∈(cK r).bl)(b:fv (toInt (af t 0))=true):
  Fi (v7 ds rs) (bu (mv t) ds) 0<=Fi (v7 ds rs) (bu (cK r).rel ds) 0:=by
 have f:=ng h.c;have a:=nF h.c e;have g:=a.2 t d (ue b);exact(al7 f.wg _ _ (Nat.le_refl _) FF _ _ 0 a.1 g (by simp) (by simp)).2
  ⟨_,(JN f.ed a.1.1).2 (JG.2 ⟨r,e,t,d,ue b,rfl⟩), .refl _⟩
theorem Qh{a}: ∀b hs i,a∉b.flatten->Fi (b++hs) a i=Fi hs a (i+b.length)
 |[],hs,i,_=>by simp
 |g::b,hs,i,h=>by
  rw[List.flatten_cons,List.mem_append,not_or] at h;rw[List.cons_append,Fi,Qh _ _ _ h.2]
  grind
theorem al6{a b hs i}(h:a∈b.flatten):Fi (b++hs) a i<i+b.length:=by
 induction b generalizing i with
 |nil=>grind
 |cons g b c=>
  rw[List.cons_append,Fi]
  grind
theorem L3(h:gB ds rs){d b}(n:d++b=v7 ds rs){r}(m:r∈rs)(hd:bu (cK r).rel ds∈d.flatten):
  bu (cK r).rel ds∉b.flatten/\∀t,t∈(cK r).bl->fv (toInt (af t 0))=true->bu (mv t) ds∉b.flatten:=by
 have l:=Em (ng h.c);have f: ∀a,a∈d.flatten->a∉b.flatten:=fun a e o=>by
  have:=l.tH
  grind
 refine⟨f _ hd,fun t p q g=>?_⟩;have e:=TH h m p q;rw[←n] at e;have o:=al6 (hs:=b) (i:=0) hd;have j:=fun k=>f _ k g
 rw[Qh d _ 0 j] at e;have:=HR _ _ (0+d.length) g
 omega
theorem Ec(h:gB ds rs)(E:aZ<=50): ∀b c A,c++b=v7 ds rs->dX ds A->(∀g,g∈c->Clo ds rs g A)->cM (dR ds rs aZ b A)<=aZ->∀g,g∈v7 ds rs->Clo ds rs g (dR ds rs aZ b A)
 |[],c,A,k,_,m,_=>by
  rw[List.append_nil] at k;rw[←k];exact m
 | g::b,c,A,k,o,m,q=>by
  have p:=(sK h g aZ 99 A o).1;have q:cM (dR ds rs aZ b (eH ds rs g aZ 99 A))<=aZ:=q;have y:=(BP h aZ b _ p).2.1;have L:=EE (aZ:=aZ) (g:=g) h 99 A o (by omega) (by omega);obtain⟨C,D⟩:=Ck (aZ:=aZ) (F:=fun i=>(i:Int)∈g) h (fun r n m=>ad0 h n m) 99 A o;refine Ec h E b (c++[g]) _ (by rw[←k];simp) p (fun u d=>?_) q;rcases List.mem_append.1 d with d|d
  ·intro r n j x z
   have hd:bu (cK r).rel ds∈c.flatten:=List.mem_flatten.2 ⟨u,d,by simpa using j⟩;obtain⟨K,B⟩:=L3 h k n hd;have s: ∀a:Int,a∉(g::b).flatten->a∉g:=fun a l y=>l (by grind)
   refine C _ _ (m u d r n j x (OI p.v o.v (fun t H=>?_) x z));have f:fv (toInt (af t 0))=true->A.getD (bu (mv t) ds).toNat []=(eH ds rs g aZ 99 A).getD (bu (mv t) ds).toNat []:=fun l=>by
    refine D _ fun J=>s _ (B t H l) ?_
    grind [nF,ue,bu,mv,Int.toNat_of_nonneg]
   refine⟨fun e w I=>?_,fun l _=>(f l).symm⟩;rw[f (by rw[e];rfl)];exact I
  grind
theorem XX{A}(h:jS ds rs aZ A)(d:cM (dR ds rs aZ (v7 ds rs) A)<=aZ){r}(a:r∈rs) x(f:x∈dp ds rs (cK r) (dR ds rs aZ (v7 ds rs) A)):x∈(dR ds rs aZ (v7 ds rs) A).getD (atR ds r) []:=by
 have b:=(h.p.at a).1;have e:=Em (ng h.p.c);obtain⟨g,i,j⟩:=List.mem_flatten.1 (e.all _ b.1 b.2 (by simp));exact Ec h.p h.l _ [] A (by rfl) h.A (by simp) d g i r a (by grind) x f
theorem Aq(h:gB ds rs){A}(a:dX ds A)(c: ∀r,r∈rs->∀x,x∈dp ds rs (cK r) A->x∈A.getD (atR ds r) []){g}: ∀xs,(∀r,r∈xs->r∈rs)->cM A<=aZ->ct ds rs g aZ xs A false=(A,false)
 |[],_,_=>rfl
 | r::xs,d,b=>by
  have f:=d r (by simp);have e:=Aq h a c (g:=g) xs (by grind) b;rw[ct,aC9 (by omega)];cases g.contains _ with
  |false=>exact e
  |true=>
   obtain⟨j,i,_⟩:=nW h f a
   grind [mj,atR,uH,lV,gz,iJ,VC,List.length_set]
theorem tW(h:gB ds rs){A}(b:dX ds A)(c: ∀r,r∈rs->∀x,x∈dp ds rs (cK r) A->x∈A.getD (atR ds r) [])(d:cM A<=aZ): ∀a,dR ds rs aZ a A=A
 |[]=>rfl
 | g::a=>by
  have e:eH ds rs g aZ 99 A=A:=by
   simp_all[eH,Aq]
  show dR ds rs _ a (eH ds rs g aZ 99 A)=A
  rw[e];exact tW h b c d a
end
theorem EK{s}: ∀{l},s∈ar l->∃t,t∈l/\s∈t.vars
 | t::l,h=>by
  rw[ar,List.mem_append] at h;rcases h with h|h
  ·grind
  ·obtain⟨u,b,a⟩:=EK h
   grind
theorem zq{s t}: ∀{l},t∈l->s∈t.vars->s∈ar l
 |u::l,h,hs=>by
  rw[ar,List.mem_append];rcases List.mem_cons.1 h with rfl|h
  ·grind
  ·exact .inr (zq h hs)
theorem Fs{s t}: ∀{l},t∈l->5<=t.op->s∈t.vars->s∈dV l
 |u::l,h,a,hs=>by
  rw[dV,List.mem_append];rcases List.mem_cons.1 h with rfl|h
  ·grind [ar]
  ·exact .inr (Fs h a hs)
theorem u7{t}: ∀{h},au h t=true->∀{s},s∈t.vars->t.op=1/\t.s=s\/5<=t.op
 |0,b,_,_=>by grind [au]
 | h+1,b,s,hs=>by
  obtain⟨a,s',n,l⟩:=t;rw[qB] at b;cases f:iY a with
  |true=>
   right
   show 5<=a
   grind [iY]
  | false=>
   rw[f,aD0] at b;by_cases d:a=0
   ·grind
   rw[aC9 d,aD0,aC6] at b;have e:l=[]:=List.eq_nil_of_length_eq_zero (by grind);subst e;rw[Tm.vars,ar,List.append_nil] at hs;by_cases c:a=1
   ·rw[aD1 c,aD2,List.mem_singleton] at hs
    exact .inl ⟨c,hs.symm⟩
   grind
theorem JL{t}(h:JK t=true):t.vars=[]:=by
 obtain⟨c,s',n,l⟩:=t;simp only[JK,aC6,Tm.l] at h;obtain⟨⟨a,_⟩,b⟩:=h;obtain rfl:l=[]:=List.eq_nil_of_length_eq_zero (by grind);obtain rfl:=of_decide_eq_true a;rfl
theorem Yq{t}(h:t.op=1):t.s∈ar [t]:=by
 obtain⟨a,s',n,l⟩:=t;subst h;simp[ar,Tm.vars,Tm.s]
theorem s7{s t v}: ∀{e:dq},(e.put s v).has t=(decide (t=s)||e.has t)
 |[]=>by
  rfl
 | (u,w)::e=>by
  rw[dq.put];by_cases h:s=u
  ·grind [dq.has]
  ·rw[aC9 h,aD0,dq.has,dq.has,s7]
   grind
section
variable {σ:Type} {get:σ->ByteArray->Int} {st:σ}
def N4(get:σ->ByteArray->Int) st(e:dq):=∀x,x∈e->Bk x.2 (get st x.1)=true
theorem OH{s}: ∀{e},N4 get st e->e.has s=true->Bk (e.get s) (get st s)=true
 | (t,w)::e,a,hs=>by
  rw[dq.has] at hs;rw[dq.get];by_cases h:s=t
  ·subst h
   rw[aD1 rfl];exact a (s,w) (by simp)
  ·rw[aC9 h] at hs⊢
   exact OH (fun x b=>a x (by grind)) hs
theorem CT{s v}(c:Bk v (get st s)=true): ∀{e},N4 get st e->N4 get st (e.put s v)
 |[],_,x,a=>by
  grind [dq.put]
 | (t,w)::e,b,x,a=>by
  rw[dq.put] at a;by_cases h:s=t
  ·rw[aD1 h] at a
   rcases List.mem_cons.1 a with rfl|a
   ·omega
   ·exact b x (by grind)
  ·rw[aC9 h] at a
   rcases List.mem_cons.1 a with rfl|a
   ·exact b _ (by simp)
   ·exact CT c (fun y d=>b y (by grind)) x a
theorem Ym n:Bk ⟨false,n,ByteArray.mk #[]⟩ 1=true:=rfl
theorem XR a l:Bk (Tf a l) 1=true:=by
 unfold Tf;split<;>rfl
theorem RW{t w e}(a:t.fits get w st=true)(d:t.op≠4)(h:N4 get st e)(i:t.op=1->e.has t.s=true):Bk (bI e t) w=true:=by
 obtain⟨b,s,n,l⟩:=t;rw[Tm.fits] at a;rw[bI];have d:b≠4:=d;by_cases f:b=1
 ·subst f
  have a:=of_decide_eq_true a;rw[←a];exact OH h (i rfl)
 ·rw[aC9 f,aD0] at a
  rw[show(b==1)=false by simpa using f];by_cases g:b=2
  ·subst g
   have a:w=1:=of_decide_eq_true a;subst a;rfl
  ·rw[aC9 g,aD0] at a
   rw[show(b==2)=false by simpa using g,aD0];by_cases c:b=3
   ·subst c
    have a:w=2:=of_decide_eq_true a;subst a;rfl
   ·rw[aC9 c,aD0,aC9 d,aD0,aC6,at3] at a
    rw[show(b==3)=false by simpa using c,aD0,a.1];exact XR b _
def tyW row j(ws:List _):=∀i,i<ws.length->Bk (Ad (nth row (j+i))) (ws.getD i 0)=true
theorem wI{row}: ∀{l ws j g e},l.length=ws.length->tyW row j ws->gX get ws (aa l) st=true->N4 get st g->mM row l j g=some e->
  N4 get st e/\(∀s,g.has s=true->e.has s=true)/\∀t,t∈l->(cx t).op=1->e.has (cx t).s=true
 |[],ws,j,g,e,_,_,_,f,h=>by
  rw[mM,aC8] at h;subst h;exact⟨f,fun _ h=>h,fun t C=>nomatch C⟩
 |t::l,[],_,_,_,x,_,_,_,_=>nomatch x
 | t ::l,w::ws,j,g,e,x,B,k,f,h=>by
  have c:l.length=ws.length:=by simpa using x
  have b:tyW row (j+1) ws:=fun i E=>by
   have:=B (i+1) (by simp only[List.length_cons];omega)
   rw[show j+1+i=j+(i+1) by omega];simpa using this
  rw[aa,aE4,gX,aC6] at k;have e0:(cx t).op=toInt (af t 0):=by rw[cI];rfl
  have z:(cx t).s=(dQ t).s:=by rw[←gn];rfl
  rw[mM] at h;cases A:toInt (af t 0)==4 with
  |true=>
   rw[A] at h;obtain⟨v,o,r⟩:=wI c b k.2 f h
   grind
  | false=>
   rw[A,aD0] at h;cases a:dn g (dQ t) with
   | true=>
    rw[a,aD2] at h;have p:(cx t).op=1:=by
     simp only[dn,aC6,beq_iff_eq] at a;rw[e0];exact a.1
    have y:get st (dQ t).s=w:=by
     have d:=k.1;rw[←z];generalize cx t=u at d p
     obtain⟨op,s,n,m⟩:=u;have p:op=1:=p;subst p;rw[Tm.fits] at d;exact of_decide_eq_true d
    have D:Bk (Ad (nth row j)) (get st (dQ t).s)=true:=by
     rw[y];have:=B 0 (by simp)
     simpa using this
    obtain⟨v,o,r⟩:=wI c b k.2 (CT (s:=(dQ t).s) D f) h
    simp_all[s7,Bool.or_true,aE5,aD1]
   | false=>
    rw[a,aD0] at h;cases hs: !C5 (bI g (dQ t).tm) (nth row j) with
    |true=>rw[hs] at h;cases h
    | false=>
     rw[hs] at h;obtain⟨v,o,r⟩:=wI c b k.2 f h;refine⟨v,o,fun u q d=>?_⟩;rcases List.mem_cons.1 q with rfl|q
     ·rw[z]
      refine o _ ?_;simp only[dn,Bool.and_eq_false_iff,aD7,beq_eq_false_iff_ne] at a;rcases a with a|a
      ·rw[e0] at d;exact absurd d a
      ·exact a
     ·exact r u q d
end
section
variable {σ:Type} {get:σ->ByteArray->Int} {st:σ} {D:List Dc} {x:vL}
theorem qs{b u}(h:hasB b (ar [u])=true){s}(hs:s∈u.vars):s∈b:=kn.1 h s (zq (by simp) hs)
theorem F6{x y s}(h:s∈ar [x,y]):s∈x.vars\/s∈y.vars:=by
 grind [ar]
theorem U4{r k t b}(ht:ep r.body k=bQ t)(B:fX (bQ t)=true)(I:gS get D (bQ t) st=true)
  (A:fv (toInt (af t 0))=true->(bQ t).a.l.length=(bk D (bQ t).a.rel).length)
  (hx: ∀U w,w∈x.at U->tyW (ag w) 0 (bk D U)) (j:mS b r k=true) {e} (O:N4 get st e) (q: ∀s,s∈b->e.has s=true)
  {ks kk} (hkk:nth x.r.bl kk=t) {row} (d:row∈mL x (kk::ks) e):
  ∃e',N4 get st e'/\(∀s,s∈b++cE r k->e'.has s=true)/\row∈mL x ks e':=by
 have N:(bQ t).op=toInt (af t 0):=rfl;have P:cx (af t 2)=(bQ t).x:=rfl;have ey:cx (af t 3)=(bQ t).y:=rfl;have Q:(dQ (af t 2)).s=(bQ t).x.s/\(dQ (af t 2)).op=(bQ t).x.op:=by
  rw[←P,cI];exact⟨rfl,rfl⟩
 have uy:(dQ (af t 3)).s=(bQ t).y.s/\(dQ (af t 3)).op=(bQ t).y.op:=by
  rw[←ey,cI];exact⟨rfl,rfl⟩
 have i:(∀s,s∈cE r k->s∈b\/e.has s=true)->∀s,s∈b++cE r k->e.has s=true:=fun h s hs=>
  (List.mem_append.1 hs).elim (q s) fun hs=>(h s hs).elim (q s) id
 rw[mL] at d;simp only[hkk] at d;unfold mS at j;unfold cE at i⊢;rw[ht,N] at j i⊢;by_cases p:toInt (af t 0)=1
 ·rw [show(toInt (af t 0)==1)=true by simpa using p,aD2] at d
  obtain⟨g,C,T⟩:=List.mem_flatMap.1 d;obtain⟨w,h4,h5⟩:=List.mem_filterMap.1 C;have hfa:gX get (bk D (bQ t).a.rel) (bQ t).a.l st=true:=by
   unfold gS at I;rw[N,p] at I;exact I
  obtain⟨k1,k2,k3⟩:=wI (ws:=bk D (bQ t).a.rel) (by rw[←A (by rw[p];rfl)];exact(List.length_map _).symm) (hx _ w h4) hfa O h5;refine⟨g,k1,fun s hs=>?_,T⟩;rcases List.mem_append.1 hs with hs|hs
  ·exact k2 s (q s hs)
  ·rw[aC9 (show ¬ 7<=toInt (af t 0) by omega),aD0,dK,List.mem_append] at hs
   rw[aD1 p,aD2] at j;unfold fX at B;rw[N,aD1 p,Bool.true_or,aD2,aC6,aC6] at B;rcases hs with hs|hs
   ·rcases F6 hs with hs|hs
    ·rw[JL B.2.1] at hs;cases hs
    ·rw[JL B.2.2] at hs;cases hs
   ·obtain⟨u,hu,hs⟩:=EK hs
    have Z:=B.1;simp only[bm,aC6,List.all_eq_true] at Z;rcases u7 (Z.2 u hu) hs with⟨v1,rfl⟩|v5
    ·obtain⟨a,ha,rfl⟩:=List.mem_map.1 (show u∈(ag (af (af t 1) 1)).map cx from hu)
     exact k3 a ha v1
    ·exact k2 s (q s (kn.1 j s (Fs hu v5 hs)))
 ·rw [show(toInt (af t 0)==1)=false by simpa using p,aD0] at d
  rw[aC9 p,aD0] at j;by_cases C:toInt (af t 0)=2
  ·rw[show(toInt (af t 0)==2)=true by simpa using C,aD2] at d
   rw[aC9 (show ¬ toInt (af t 0)=3 by omega),aD0,aD1 C,Bool.true_or,aD2] at j;rw[aC9 (show ¬ 7<=toInt (af t 0) by omega),aD0] at i⊢
   grind [mL,mN,ag,af,toStr,kn]
  ·rw [show(toInt (af t 0)==2)=false by simpa using C,aD0] at d
   by_cases T:toInt (af t 0)=3\/toInt (af t 0)=4\/toInt (af t 0)=5\/toInt (af t 0)=6
   ·rw [show(toInt (af t 0)==3||(toInt (af t 0)==4||(toInt (af t 0)==5||toInt (af t 0)==6)))=true by simpa using T,aD2] at d
    rw[aC9 (show ¬ 7<=toInt (af t 0) by omega),aD0] at i⊢;have J:TU (bQ t).a=true/\(bQ t).x.op≠4/\(bQ t).y.op≠4:=by
     unfold fX at B
     grind
    have hv: ∀s,s∈dK (bQ t)->s∈(bQ t).x.vars\/s∈(bQ t).y.vars:=fun s hs=>by
     rw[dK,List.mem_append] at hs;rcases hs with hs|hs
     ·exact F6 hs
     ·have:=J.1
      simp only[TU,aC6,at3] at this;rw[List.eq_nil_of_length_eq_zero this.2] at hs;cases hs
    have R: ∃w,(bQ t).x.fits get w st=true/\(bQ t).y.fits get w st=true:=by
     unfold gS at I
     grind
    obtain⟨w,fx,fy⟩:=R;have nf: ∀{a:AV} {u:Tm},cx a=u->dn e (dQ a)=false->u.op=1->e.has u.s=true:=fun{a u} ha h f=>by
     subst ha;rw[cI] at f⊢;simp only[dn,Bool.and_eq_false_iff,aD7,beq_eq_false_iff_ne] at h;exact h.resolve_left fun c=>c f
    have fr: ∀{a:AV} {u:Tm},cx a=u->dn e (dQ a)=true->u.op=1/\e.has u.s=false:=fun{a u} ha h=>by
     subst ha;rw[cI];simp only[dn,aC6,Bool.not_eq_true',beq_iff_eq] at h;exact h
    have W: ∀{u:Tm},u.op=1->au 20 u=true->∀s,s∈u.vars->s=u.s:=fun{u} f hr s hs=>by
     rcases u7 hr hs with⟨_,e⟩|c
     ·exact e.symm
     ·omega
    have X:au 20 (bQ t).x=true/\au 20 (bQ t).y=true:=by
     unfold fX at B
     grind
    have vt: ∀{u:Tm},u.fits get w st=true->u.op≠4->(u.op=1->e.has u.s=true)->Bk (bI e u) w=true:=fun p C T=>RW p C O T
    have pt: ∀{u:Tm} {v:fe},u.op=1->u.fits get w st=true->Bk v w=true->N4 get st (e.put u.s v):=fun{u v} f E hvw=>by
     refine CT ?_ O;obtain⟨op,s,n,m⟩:=u;have f:op=1:=f;subst f;rw[Tm.fits] at E;have E:get st s=w:=of_decide_eq_true E;show Bk v (get st s)=true
     rw[E];exact hvw
    have H:(gR b (bQ t).x (bQ t).y=true/\toInt (af t 0)=3)\/(gR b (bQ t).y (bQ t).x=true/\toInt (af t 0)=3)\/hasB b (dK (bQ t))=true:=by
     grind
    have lx: ∀{s},s∈(bQ t).x.vars->s∈dK (bQ t):=fun hs=>by rw[dK,List.mem_append];left;simp[ar,hs]
    have ly: ∀{s},s∈(bQ t).y.vars->s∈dK (bQ t):=fun hs=>by rw[dK,List.mem_append];left;simp[ar,hs]
    have L: ∀{u:Tm},u.op=1->u.s∈u.vars:=fun{u} f=>by
     obtain⟨op,s,n,m⟩:=u;have f:op=1:=f;subst f;simp[Tm.vars,Tm.s]
    have bx:dn e (dQ (af t 2))=true->∀s,s∈(bQ t).y.vars->s∈b:=fun h s hs=>by
     obtain⟨f,A⟩:=fr P h;rcases H with⟨c,_⟩|⟨c,_⟩|c
     ·simp only[gR,aC6] at c
      exact qs c.2.2 hs
     ·simp only[gR,aC6] at c
      rw[q _ (qs c.2.2 (L f))] at A;cases A
     ·rw[q _ (kn.1 c _ (lx (L f)))] at A;cases A
    have by':dn e (dQ (af t 3))=true->∀s,s∈(bQ t).x.vars->s∈b:=fun h s hs=>by
     obtain⟨f,A⟩:=fr ey h;rcases H with⟨c,_⟩|⟨c,_⟩|c
     ·simp only[gR,aC6] at c
      rw[q _ (qs c.2.2 (L f))] at A;cases A
     ·simp only[gR,aC6] at c
      exact qs c.2.2 hs
     ·rw[q _ (kn.1 c _ (ly (L f)))] at A;cases A
    cases o:toInt (af t 0)==3&&dn e (dQ (af t 2)) with
    |true=>
     rw[o,aD2] at d;rw[aC6] at o;obtain⟨f,_⟩:=fr P o.2;rw[Q.1,gn,ey] at d;refine⟨_,pt f fx (vt fy J.2.2 fun hy=>q _ (bx o.2 _ (L hy))),fun s hs=>?_,d⟩;rw[s7]
     grind
    | false=>
     rw[o,aD0] at d;cases K:toInt (af t 0)==3&&dn e (dQ (af t 3)) with
     |true=>
      rw[K,aD2] at d;rw[aC6] at K;obtain⟨f,_⟩:=fr ey K.2;rw[uy.1,gn,P] at d;refine⟨_,pt f fy (vt fx J.2.1 fun hy=>q _ (by' K.2 _ (L hy))),fun s hs=>?_,d⟩;rw[s7]
      grind
     | false=>
      rw[K,aD0] at d;have d:row∈mL x ks e:=by
       cases Y:ik (toInt (af t 0)) (bI e (dQ (af t 2)).tm) (bI e (dQ (af t 3)).tm) with
       |true=>rw[Y] at d;exact d
       |false=>rw[Y] at d;cases d
      refine⟨e,O,i fun s hs=>?_,d⟩;rcases H with⟨c,c3⟩|⟨c,c3⟩|c
      ·simp only[gR,aC6,at3] at c
       rw[c3] at o;rcases hv s hs with hs|hs
       ·rw[W c.1 X.1 s hs];exact .inr (nf P (by simpa using o) c.1)
       ·exact .inl (qs c.2.2 hs)
      ·simp only[gR,aC6,at3] at c
       rw[c3] at K;rcases hv s hs with hs|hs
       ·exact .inl (qs c.2.2 hs)
       ·rw[W c.1 X.2 s hs];exact .inr (nf ey (by simpa using K) c.1)
      ·exact .inl (kn.1 c s hs)
   ·rw [show(toInt (af t 0)==3||(toInt (af t 0)==4||(toInt (af t 0)==5||toInt (af t 0)==6)))=false by simp;omega,aD0] at d
    have h7:7<=toInt (af t 0):=by
     have:=Es (VE B (show fv (toInt (af t 0))=true by simp only[fv,aD9,Bool.not_eq_true',Bool.or_eq_false_iff,beq_iff_eq,beq_eq_false_iff_ne];omega) p)
     rw[N] at this;unfold cQ at this;have hg:=VE B (show fv (toInt (af t 0))=true by simp only[fv,aD9,Bool.not_eq_true',Bool.or_eq_false_iff,beq_iff_eq,beq_eq_false_iff_ne];omega) p;unfold jn at hg;rw[N,aC9 C,aD0,at3] at hg;exact hg
    rw[aD1 h7,aD2] at i⊢;rw[aC9 (show ¬ toInt (af t 0)=3 by omega),aD0,show(decide (toInt (af t 0)=2)||(decide (toInt (af t 0)=4)||(decide (toInt (af t 0)=5)||decide (toInt (af t 0)=6))))=false by simp;omega,aD0,aC6,aC6] at j;have hX:TI (bQ t).x=true/\(bQ t).x.fits get 1 st=true/\au 20 (bQ t).x=true:=by
     refine⟨?_,?_,?_⟩
     ·unfold fX at B
      grind
     ·unfold gS at I
      rw[N,show eX (toInt (af t 0))=false by simp only[eX,Bool.and_eq_false_iff,aC7];omega,aD0,aC9 p,aC9 C,Bool.false_or,aD0,aC6,aC6] at I;exact I.1.2
     ·unfold fX at B
      grind
    have F: ∀s,s∈ar [(bQ t).x]++eI r k->s∈b\/((bQ t).x.op=1/\s=(bQ t).x.s):=fun s hs=>by
     rcases List.mem_append.1 hs with hs|hs
     ·right
      have hs:s∈(bQ t).x.vars:=by simpa[ar] using hs
      rcases u7 hX.2.2 hs with⟨v1,v2⟩|v5
      ·exact⟨v1,v2.symm⟩
      ·have:=hX.1
       simp only[TI,aD9,at3] at this;omega
     ·exact .inl (kn.1 j.2.1 s hs)
    generalize iA ((mN (ag (af (af t 1) 1)) (x.at (toStr (af (af t 1) 0))) e).map (mW (toInt (af t 0)) (dQ (af t 3))))=V at d
    cases hR: !oL (toInt (af t 0)) V with
    |true=>rw[hR] at d;cases d
    | false=>
     rw[hR,aD0] at d;cases o:dn e (dQ (af t 2)) with
     | true=>
      rw[o,aD2,Q.1] at d;have f:(bQ t).x.op=1:=by
       rw[←Q.2];simp only[dn,aC6,beq_iff_eq] at o;exact o.1
      refine⟨_,CT ?_ O,fun s hs=>?_,d⟩
      ·have z:=hX.2.1
       generalize (bQ t).x=u at f z
       obtain⟨op,s,n,m⟩:=u;have f:op=1:=f;subst f;rw[Tm.fits] at z;have z:get st s=1:=of_decide_eq_true z;show Bk _ (get st s)=true
       rw[z];exact Ym _
      ·rw[s7]
       rcases List.mem_append.1 hs with hs|hs
       ·rw[q s hs,Bool.or_true]
       ·rcases F s hs with hs|⟨_,rfl⟩
        ·rw[q s hs,Bool.or_true]
        ·rw[aD1 rfl];rfl
     | false=>
      rw[o,aD0] at d;have d:row∈mL x ks e:=by
       cases Y:(bI e (dQ (af t 2)).tm).n==nC (toInt (af t 0)) V with
       |true=>rw[Y] at d;exact d
       |false=>rw[Y] at d;cases d
      refine⟨e,O,i fun s hs=>?_,d⟩;rcases F s hs with hs|⟨f,rfl⟩
      ·exact .inl hs
      ·right
       simp only[dn,Bool.and_eq_false_iff,aD7,beq_eq_false_iff_ne] at o;rw[Q.1,Q.2] at o;exact o.resolve_left fun c=>c f
theorem X5(j:ba (aL x.r)=true)(k:kl get D (aL x.r) st=true)
  (o: ∀l,l∈(aL x.r).body->fv l.op=true->l.a.l.length=(bk D l.a.rel).length)
  (p: ∀f w,w∈x.at f->tyW (ag w) 0 (bk D f)): ∀n done b e,N4 get st e->(∀s,s∈b->e.has s=true)->(∀s,s∈ar (aL x.r).head.l->s∈b++eG (aL x.r) (lX (aL x.r) n done b))->
  ∀row,row∈mL x (lX (aL x.r) n done b) e->∃e',N4 get st e'/\(∀s,s∈ar (aL x.r).head.l->e'.has s=true)/\row=gH x.r.hl e':=by
 simp[ba] at j;simp[kl] at k;intro n;induction n with
 |zero=>
  grind [lX,mL,eG]
 | succ n A=>
  intro done b e y t i row g;rw[lX] at g i;cases c:decide (aF (aL x.r) done b<0) with
  |true=>
   grind [mL,eG]
  | false=>
   rw[c] at g i;rcases oh (aL x.r) done b with q|⟨z,q,_,u⟩
   ·grind
   ·have h:(aF (aL x.r) done b).toNat<x.r.bl.length:=by grind [fR]
    have d:=D5 h;have v:=j7 _ h;obtain⟨e',B,C,E⟩:=U4 v (j.2 _ d) (k.2 _ d) (fun m=>o _ d m) p u y t rfl g
    grind [eG]
end
theorem ET: ∀b ts,ts.length=b.length->CD b ts=true->∀t,t∈ts->M7 t=true
 |[],[],_,_,_,h=>nomatch h
 |n::b,t::ts,c,h,x,a=>by
  simp[CD] at h;rcases List.mem_cons.1 a with rfl|a
  ·grind
  ·exact ET _ _ (by grind) h.2 x a
theorem ay6{ds}(h:ds.all G1=true):Bz (cv ds):=by
 intro s w b;unfold bk at b;cases f:jX s (cv ds) with
 |none=>grind
 | some k=>
  rw[f] at b;simp only[List.getD_eq_getElem?_getD] at b;cases c:(cv ds)[k]? with
  |none=>grind
  |some d=>
   rw[c] at b;have e:=List.mem_of_getElem? c;obtain⟨x,g,rfl⟩:=List.mem_map.1 e;have a:=List.all_eq_true.1 h x g;have a:xq _ _ _=true:=a;simp[xq] at a;obtain⟨t,i,rfl⟩:=List.mem_map.1 b;have j:=ET _ _ a.1.2 a.2 t i
   grind [M7]
theorem RO: ∀{t ts},DE t ts=true->∀i,i<ts.length->Bk (Ad (nth t i)) (toInt (nth ts i))=true
 |[],[],_,i,h=>absurd h (by simp)
 |v::t,k::ts,h,i,a=>by
  simp[DE] at h;cases i with
  |zero=>exact h.1
  |succ i=>exact RO h.2 i (by grind)
theorem RP: ∀{t ts},t.length=ts.length->(∀i,i<ts.length->Bk (Ad (nth t i)) (toInt (nth ts i))=true)->DE t ts=true
 |[],[],_,_=>rfl
 |v::t,k::ts,b,h=>by
  simp[DE];exact⟨h 0 (by simp),RP (by grind) fun i a=>h (i+1) (by grind)⟩
theorem Ef{σ get}{st:σ}: ∀{ws l},gX get ws l st=true->∀i,i<ws.length->(a:i<l.length)->l[i].fits get (ws.getD i 0) st=true
 |[],_,_,i,h,_=>absurd h (by simp)
 |w::ws,[],_,i,_,h=>absurd h (by simp)
 |w::ws,t::l,h,i,c,b=>by
  rw[gX,aC6] at h;cases i with
  |zero=>grind
  |succ i=>exact Ef h.2 i (by grind) _
section
variable {ds rs:List AV} {aZ:Nat}
def oG ds(A:List RL):=∀i x,x∈A.getD i []->DE x (ag (af (nth ds i) 2))=true
theorem Lw(h:gB ds rs){r}(f:r∈rs): ∃τ,kl (ru (bK (aL (cK r)))) (cv ds) (aL (cK r)) τ=true:=by
 have d:=pb.1 h.c;have b:=d.1;simp only[fB,aC6] at b;have a:=d.2.2.1 r f;have i:=(sl h.s h.c f).r;have g:=RS _ (ay6 b.1.2) i;unfold ky at a;cases e:fB ds [aw (cK r)] with
 |false=>grind
 |true=>
  rw[e] at a;have a:(uY _ _).1=0:=a
  grind [IG]
theorem O1{a}(h:known (cv ds) a=0):a.l.length=(bk (cv ds) a.rel).length:=by
 grind [known]
theorem TE(h:gB ds rs){r}(o:r∈rs){A}(y:dX ds A)(O:oG ds A) x(p:x∈dp ds rs (cK r) A):DE x (ag (af (nth ds (atR ds r)) 2))=true:=by
 obtain⟨τ,E⟩:=Lw h o;have q:=sl h.s h.c o;have d:=CZ h.c o;have hl:=(nW h o y).2.2 x p;have K:gU (mL (AM ds rs (cK r) A) (c6 (aL (cK r))) []):=qo (sR y.v) _ EN;have T:=((jP K).2.1 x).1 p;have hs:=q.f;simp only[jZ,aC6] at hs;obtain⟨e',U,V,rfl⟩:=X5 (x:=AM ds rs (cK r) A) (D:=cv ds) q.r E (fun l hl N=>O1 (d.2 l hl N)) (fun rel w d=>by
  rw[rF] at d;obtain⟨L,P,rfl⟩:=List.mem_map.1 d;have H:=O _ L P;intro i a;cases e:jX rel (cv ds) with
  |none=>
   simp_all[e0,bk,cv,Nat.not_lt_zero]
  |some k=>
   have z:=qb e;rw[z,lb,List.length_map,Int.toNat_natCast] at a;rw[(lD e).2.1,Int.toNat_natCast] at H;have B:=RO H i a;rw[z,Nat.zero_add,lb,Int.toNat_natCast,List.getD_eq_getElem?_getD,List.getElem?_map,aE0 a];rw[aV _ i a] at B;exact B) _ _ [] [] (fun _ p=>nomatch p) (fun _ hs=>nomatch hs) (fun s t=>by
  rw[List.nil_append];exact kn.1 hs.2 s t) x T
 have j:=E;simp only[kl,aC6] at j;have F:=O1 d.1;refine RP hl fun i a=>?_
 have R:(aL (cK r)).head.l.length=(cK r).hl.length:=eS _;have g:i<(cK r).hl.length:=by
  have:(gH (cK r).hl e').length=(cK r).hl.length:=List.length_map _
  rw[←this];show i<(gH (AM ds rs (cK r) A).r.hl e').length
  rw[hl];exact a
 have m:bk (cv ds) (aL (cK r)).head.rel=(ag (af (nth ds (atR ds r)) 2)).map toInt:=by
  have b:=d.1;unfold known at b;cases e:jX (aL (cK r)).head.rel (cv ds) with
  |none=>rw[e] at b;cases b
  |some k=>
   rw[qb e,lb];have:bu (cK r).rel ds=k:=(lD e).2.1
   rw[atR,this]
 have Q:=Ef j.1 i (by rw[m,List.length_map];exact a) (by omega);have n:(aL (cK r)).head.l[i]'(by omega)∈(aL (cK r)).head.l:=List.getElem_mem _;have C:=q.r;simp only[ba,aC6,List.all_eq_true] at C;have I:=C.1.2 _ n;simp only[rA,aC6,Bool.not_eq_true',aC7] at I;have J:=RW Q I.1.1 U fun W=>V _ (zq n (by
  have:=Yq W
  simpa[ar] using this))
 rw[m,List.getD_eq_getElem?_getD,List.getElem?_map,aE0 a] at J;rw[aV _ i (show i<(gH (AM ds rs (cK r) A).r.hl e').length by rw[hl];exact a),aV _ i a];have X:(gH (AM ds rs (cK r) A).r.hl e')[i]'(by rw[hl];exact a)=fq (bI e' ((aL (cK r)).head.l[i]'(by omega))):=by
  have e8: ∀h:i<((cK r).hl.map cx).length,((cK r).hl.map cx)[i]=cx ((cK r).hl[i]'g):=fun h=>List.getElem_map _
  simp only[gH,List.getElem_map];rw[gn];exact(congrArg (fun u=>fq (bI e' u)) (e8 (by rw[List.length_map];exact g))).symm
 rw[X];exact J
theorem RI(h:gB ds rs){r}(d:r∈rs){A}(c:dX ds A)(b:oG ds A):oG ds (iJ ds rs r A):=fun i x a=>by
 rcases(RG h d c i x).1 a with a|⟨rfl,e⟩
 ·exact b i x a
 grind [TE]
theorem B4(h:gB ds rs) g: ∀xs A m,(∀r,r∈xs->r∈rs)->dX ds A->oG ds A->oG ds (ct ds rs g aZ xs A m).1
 |[],_,_,_,_,b=>b
 | r::xs,A,m,e,d,b=>by
  have a: ∀r,r∈xs->r∈rs:=fun r c=>e r (by grind)
  have c:=e r (by simp);rw[ct];cases decide (aZ<cM A) with
  |true=>grind
  |false=>
   cases g.contains _ with
   |false=>exact B4 h g _ A m a d b
   |true=>exact B4 h g _ _ _ a (qK h c d).1 (RI h c d b)
theorem JE(h:gB ds rs) g: ∀n A,dX ds A->oG ds A->oG ds (eH ds rs g aZ n A)
 |0,_,_,a=>a
 |n+1,A,b,a=>by
  have k:=B4 (aZ:=aZ) h g rs A false (by simp) b a;rw[eH];cases(ct _ _ g _ _ A _).2 with
  |true=>exact JE h g n _ (kZ h g _ _ A _ (by simp) b).1 k
  |false=>grind
theorem Je(h:gB ds rs): ∀b A,dX ds A->oG ds A->oG ds (dR ds rs aZ b A)
 |[],_,_,a=>a
 |g::b,A,c,a=>Je h b _ (sK h g _ _ A c).1 (JE h g _ A c a)
theorem Eg: ∀{xs ds},xs.length=ds.length->(∀i,i<xs.length->qW (ag (nth xs i)) (ag (af (nth ds i) 2))=true)->sq xs ds=true
 |[],_,_,_=>rfl
 |x::xs,[],a,_=>nomatch a
 |x::xs,d::ds,a,h=>by
  rw[sq,aC6];exact⟨h 0 (by simp),Eg (by grind) fun i b=>h (i+1) (by grind)⟩
theorem RE{xs}(hs:S1 xs)(g:xs.length<=60)(c:fT ds rs xs=true):oG ds ((gD xs).map dk):=by
 have h:=BR hs g c;simp[fT] at c;intro i x a;rcases Nat.lt_or_ge i (gD xs).length with b|b
 ·have d:=by simpa[gD] using b
  rw[List.getD_eq_getElem?_getD,List.getElem?_map,aE0 b] at a;have a:=((jP (h.i.f _ (by simp)).v).2.1 x).1 a;have e:(gD xs)[i]=dh (ag (nth xs i)):=by
   rw[←se,List.getD_eq_getElem?_getD,aE0 b];rfl
  rw[e] at a;obtain⟨w,k,rfl⟩:=List.mem_map.1 a;have j:=ss c.2.2 i d
  grind [qW,Wx]
 grind
theorem wE(h:gB ds rs){R}(a:dX ds R)(d:oG ds R):fT ds rs (aI R)=true:=by
 simp only[fT,aC6,at3];refine⟨(pb.1 h.c).1,by rw[dm];exact a.len,Eg (by rw[dm];exact a.len) fun i _=>?_⟩;rw[kR];simp only[qW,aC6,Wx,List.all_eq_true,iB];refine⟨fun r e=>?_,(mj a i).2⟩;obtain⟨L,b,rfl⟩:=List.mem_map.1 e;exact d i L b
end
end Go.Proofs.YtioeffnadipbaaaGreatDoor
