import Derived.Test.YtioeffnadipbaaaGreatDoorDePF
import Derived.Test.YtioeffnadipbaaaGreatDoorDeP9
namespace Go.Proofs.YtioeffnadipbaaaGreatDoor
open Go Go.Dn Go.Rl Go.Proofs
def pW t:=toStr (af (af t 1) 0)
def aa2(x y:va) t:=(toInt (af t 0)=1->∀w,w∈x.at (pW t)->w∈y.at (pW t))/\(iq (toInt (af t 0))=true->toInt (af t 0)≠1->x.at (pW t)=y.at (pW t))
theorem Jg{x y}(c:x.r=y.r): ∀a e r,(∀k,k∈a->aa2 x y (nth x.r.bl k))->r∈pQ x a e->r∈pQ y a e
 |[],e,r,_,h=>by rw[pQ] at h⊢;rwa [←c]
 | k::a,e,r,i,h=>by
  have j:=fun e=>Jg c a e r (fun k b=>i k (by simp[b]))
  have b:=i k (by simp);rw[pQ] at h⊢;rw[←c];simp only at h⊢;unfold aa2 pW at b;generalize nth x.r.bl k=t at h b⊢
  cases f:toInt (af t 0)==1 with
  |true=>
   rw[f,ao6] at h;obtain⟨g,l,d⟩:=List.mem_flatMap.1 h;obtain⟨w,n,m⟩:=List.mem_filterMap.1 l;exact List.mem_flatMap.2 ⟨g,List.mem_filterMap.2 ⟨w,b.1 (by simpa using f) w n,m⟩,j g d⟩
  | false=>
   rw[f,ao4] at h;rw[ao4];cases d:iq (toInt (af t 0)) with
   |true=>
    grind
   |false=>
    unfold iq at d
    grind
def am4 ds(A C:List RL) t:=(toInt (af t 0)=1->∀w,w∈A.getD (bw (pW t) ds).toNat []->w∈C.getD (bw (pW t) ds).toNat [])/\(iq (toInt (af t 0))=true->toInt (af t 0)≠1->A.getD (bw (pW t) ds).toNat []=C.getD (bw (pW t) ds).toNat [])
theorem NV{ds c a r A C}(l: ∀L,L∈A->iE L)(o: ∀L,L∈C->iE L)(h: ∀t,t∈r.bl->am4 ds A C t) x(g:x∈dG ds c r A):x∈dG ds a r C:=by
 have i:iE (pQ (E4 ds c r A) (cO (aM r)) []):=so (uS l) _ I8;have j:iE (pQ (E4 ds a r C) (cO (aM r)) []):=so (uS o) _ I8;refine((kW j).2.1 x).2 (Jg (x:=E4 ds c r A) (y:=E4 ds a r C) rfl _ _ _ (fun k b=>?_) (((kW i).2.1 x).1 g));have b:=rI b;rw[fY] at b;obtain⟨m,n⟩:=h (nth r.bl k) (by rw[aV _ k b];simp);refine⟨fun e w d=>?_,fun p q=>?_⟩
 ·rw[tv] at d⊢
  obtain⟨L,f,rfl⟩:=List.mem_map.1 d;exact List.mem_map_of_mem (m e L f)
 ·rw[tv,tv]
  exact congrArg rws (n p q)
theorem rL: ∀{Y X},dN X=true->dN Y=true->(∀r,r∈X->r∈Y)->X.Sublist Y
 |[],[],_,_,_=> .slnil
 |[],a::X,_,_,h=>nomatch h a (by simp)
 |b::Y,[],_,_,_=>List.nil_sublist _
 | b::Y,a::X,d,f,h=>by
  obtain⟨j,g⟩:=dW.1 d;obtain⟨l,e⟩:=dW.1 f;have m:=fun c=>b8.swap a c
  rcases List.mem_cons.1 (h a (by simp)) with rfl|k
  ·refine(rL g e fun r i=>?_).cons_cons _
   grind
  ·refine(rL d e fun r i=>?_).cons _
   grind
def Le(A C:List RL):=∀i x,x∈A.getD i []->x∈C.getD i []
def QY(F:Nat->Prop)(A C:List RL):=∀i,¬ F i->A.getD i []=C.getD i []
theorem Le.refl A:Le A A:=fun _ _ h=>h
theorem Le.trans{A B C}(h:Le A B)(k:Le B C):Le A C:=fun i x a=>k i x (h i x a)
theorem pt{ds A}(h:dC ds A) i:iE (A.getD i [])/\dN (A.getD i [])=true:=by
 rcases Nat.lt_or_ge i _ with a|a
 ·exact⟨h.v _ (mn a),h.r _ (mn a)⟩
 ·rw[List.getD_eq_getElem?_getD,List.getElem?_eq_none a]
  exact⟨fun _ h=>(nomatch h),rfl⟩
theorem Le.sub{ds A C}(a:dC ds A)(b:dC ds C)(h:Le A C) i:(A.getD i []).Sublist (C.getD i []):=rL (pt a i).2 (pt b i).2 (h i)
theorem SP{A C:List RL}(a:A.length=C.length)(h: ∀i,A.getD i []=C.getD i []):A=C:=by
 refine List.ext_getElem a fun i c b=>?_
 have:=h i
 grind
theorem Le.am3{ds A C}(b:dC ds A)(a:dC ds C)(h:Le A C)(k:Le C A):A=C:=
 SP (by rw[b.len,a.len]) fun i=>tf (pt b i).2 (pt a i).2 fun r=>⟨h i r,k i r⟩
theorem S8: ∀{A C},A.length=C.length->(∀i,(A.getD i []).length<=(C.getD i []).length)->cw A<=cw C
 |[],_,_,_=>Nat.zero_le _
 |a::A,[],b,_=>nomatch b
 |a::A,c::C,b,h=>by
  have e:=S8   (by grind) fun i=>h (i+1)
  have d:=h 0;simp[cw,List.sum_cons,List.getD_cons_zero] at e d⊢;omega
theorem Le.tot{ds A C}(a:dC ds A)(b:dC ds C)(h:Le A C):cw A<=cw C:=
 S8 (by rw[a.len,b.len]) fun i=>(h.sub a b i).length_le
variable {ds rs:List AV} {F:Nat->Prop} {g:List Int} {aQ:Nat}
theorem LH(h:gN ds rs){r}(b:r∈rs){A}(a:dC ds A) i x:x∈(iP ds rs r A).getD i []↔x∈A.getD i []\/i=atR ds r/\x∈dG ds rs (dg r) A:=by
 have c:atR ds r<A.length:=by rw[a.len];exact(h.at b).2
 grind [gy,pt,uV,iP]
theorem Cv{r A}(h:F (atR ds r)):QY F (iP ds rs r A) A:=fun i a=>by
 grind [iP]
theorem Kc(h:gN ds rs){r}(g:r∈rs){A}(c:dC ds A)(i: ¬ (A.getD (atR ds r) []).length<(ew (A.getD (atR ds r) []) (dG ds rs (dg r) A)).length):iP ds rs r A=A/\∀x,x∈dG ds rs (dg r) A->x∈A.getD (atR ds r) []:=by
 obtain⟨b,d,_⟩:=uV h g c;have a:=pt c (atR ds r);have e:=(rL a.2 (ml a.1 b a.2 d) fun x f=>(gy a.1 b).2 (.inl f)).eq_of_length_le (by omega)
 grind [SP,iP,List.length_set,gy]
def Abs ds a(g:List _) F C:=∀r,r∈a->g.contains (bw (dg r).rel ds)=true->F (atR ds r)/\∀A,dC ds A->Le A C->QY F A C->∀x,x∈dG ds a (dg r) A->x∈C.getD (atR ds r) []
def Clo ds a(g:List _) C:=∀r,r∈a->g.contains (bw (dg r).rel ds)=true->∀x,x∈dG ds a (dg r) C->x∈C.getD (atR ds r) []
theorem Au(h:gN ds rs){C}(f:Abs ds rs g F C): ∀xs A m,(∀r,r∈xs->r∈rs)->dC ds A->Le A C->QY F A C->Le (cu ds rs g aQ xs A m).1 C/\QY F (cu ds rs g aQ xs A m).1 C
 |[],A,m,_,_,d,e=>⟨d,e⟩
 | r::xs,A,m,k,j,d,e=>by
  have b: ∀r,r∈xs->r∈rs:=fun r c=>k r (by simp[c])
  have c:=k r (by simp);rw[cu];cases decide (aQ<cw A) with
  |true=>exact⟨d,e⟩
  | false=>
   rw[ao4];cases l:g.contains (bw (dg r).rel ds) with
   |false=>exact Au h f xs A m b j d e
   |true=>
    obtain⟨n,o⟩:=f r c l;refine Au h f xs _ _ b (pJ h c j).1 (fun i x a=>?_) (fun i a=>(Cv n i a).trans (e i a));rcases(LH h c j i x).1 a with a|⟨rfl,p⟩
    ·exact d i x a
    grind
theorem BX(h:gN ds rs){C}(c:Abs ds rs g F C): ∀n A,dC ds A->Le A C->QY F A C->Le (ej ds rs g aQ n A) C/\QY F (ej ds rs g aQ n A) C
 |0,A,_,a,b=>⟨a,b⟩
 |n+1,A,d,a,b=>by
  have k:=Au (aQ:=aQ) h c rs A false (by simp) d a b;rw[ej];cases(cu ds rs g aQ rs A _).2 with
  |true=>exact BX h c n _ (lL h g _ rs A _ (by simp) d).1 k.1 k.2
  |false=>exact k
theorem Aw(h:gN ds rs)(d: ∀r,r∈rs->g.contains (bw (dg r).rel ds)=true->F (atR ds r)): ∀xs A m,(∀r,r∈xs->r∈rs)->dC ds A->Le A (cu ds rs g aQ xs A m).1/\QY F A (cu ds rs g aQ xs A m).1
 |[],A,m,_,_=>⟨Le.refl _,fun _ _=>rfl⟩
 | r::xs,A,m,f,e=>by
  have b: ∀r,r∈xs->r∈rs:=fun r a=>f r (by simp[a])
  have a:=f r (by simp);rw[cu];cases decide (aQ<cw A) with
  |true=>exact⟨Le.refl _,fun _ _=>rfl⟩
  | false=>
   rw[ao4];cases l:g.contains _ with
   |false=>exact Aw h d xs A m b e
   |true=>
    obtain⟨j,k⟩:=Aw h d xs (iP ds rs r A) _ b (pJ h a e).1;exact⟨fun i x c=>j i x ((LH h a e i x).2 (.inl c)),fun i c=>((Cv (d r a l) i c).symm.trans (k i c))⟩
theorem AO(h:gN ds rs)(c: ∀r,r∈rs->g.contains (bw (dg r).rel ds)=true->F (atR ds r)): ∀n A,dC ds A->Le A (ej ds rs g aQ n A)/\QY F A (ej ds rs g aQ n A)
 |0,A,_=>⟨Le.refl _,fun _ _=>rfl⟩
 | n+1,A,b=>by
  obtain⟨d,e⟩:=Aw  h c rs A false (by simp) b;rw[ej];cases(cu ds rs g aQ rs A _).2 with
  |true=>
   obtain⟨f,j⟩:=AO h c n _ (lL h g aQ rs A false (by simp) b).1;exact⟨d.trans f,fun i a=>(e i a).trans (j i a)⟩
  |false=>grind
theorem sZ: ∀xs A,(cu ds rs g aQ xs A true).2=false->aQ<cw (cu ds rs g aQ xs A true).1
 |[],A,h=>nomatch h
 | r::xs,A,h=>by
  rw[cu] at h⊢;by_cases c:aQ<cw A
  ·grind
  ·rw[ao3 c] at h⊢
   cases a:g.contains _ with
   |false=>rw[a] at h;exact sZ _ A h
   |true=>rw[a] at h;exact sZ xs _ h
theorem x1(h:gN ds rs): ∀xs A,(∀r,r∈xs->r∈rs)->dC ds A->(cu ds rs g aQ xs A false).2=false->cw (cu ds rs g aQ xs A false).1<=aQ->(cu ds rs g aQ xs A false).1=A/\∀r,r∈xs->g.contains (bw (dg r).rel ds)=true->∀x,x∈dG ds rs (dg r) A->x∈A.getD (atR ds r) []
 |[],A,_,_,_,_=>⟨rfl,fun _ h=>(nomatch h)⟩
 | r ::xs,A,k,j,b,a=>by
  have f: ∀r,r∈xs->r∈rs:=fun r i=>k r (by simp[i])
  have i:=k r (by simp);rw[cu] at b a⊢;by_cases c:aQ<cw A
  ·rw[ao5 c] at a
   exact absurd (show cw A<=aQ from a) (by omega)
  ·rw[ao3 c,ao4] at b a⊢
   cases l:g.contains (bw (dg r).rel ds) with
   |false=>
    rw[l] at b a;obtain⟨m,n⟩:=x1 h xs A f j b a
    grind
   | true=>
    rw[l] at b a;simp only[Bool.not_true,ao4,Bool.false_or] at b a⊢;by_cases d:(A.getD (atR ds r) []).length<(ew (A.getD (atR ds r) []) (dG ds rs (dg r) A)).length
    ·rw[ao5 d] at b a
     have:=sZ xs _ b
     omega
    ·rw[ao3 d] at b a⊢
     obtain⟨e,o⟩:=Kc h i j d;rw[e] at b a⊢;obtain⟨m,n⟩:=x1 h xs A f j b a
     grind
theorem wo(h:gN ds rs): ∀n A,dC ds A->aQ<cw A+n->cw (ej ds rs g aQ n A)<=aQ->Clo ds rs g (ej ds rs g aQ n A)
 |0,A,_,i,a=>absurd (show cw A<=aQ from a) (by omega)
 | n+1,A,c,i,a=>by
  obtain⟨e,k,f,_⟩:=lL h g aQ rs A false (by simp) c;rw[ej] at a⊢;cases b:(cu ds rs g aQ rs A false).2 with
  |true=>
   rw[b] at a;have:=(f b).resolve_left (by simp)
   exact wo h n _ e (by omega) a
  |false=>
   rw[b] at a;obtain⟨j,d⟩:=x1 h rs A (by simp) c b a;rw[j];exact d
theorem Ds{n m L}(c:WG n m L): ∀f done g,g∈pM n m L f done->∀a b,a∈g->b∈g->gD n m L a b=true
 |0,_,_,h=>nomatch h
 | f+1,done,g,h=>by
  rw[pM] at h;cases e:decide (gi n m L done<0) with
  |true=>grind
  |false=>
   rw[e] at h;rcases List.mem_cons.1 h with rfl|h
   ·grind [Ix,JO,PN]
   ·exact Ds c f _ g h
theorem ab8{l}(h:jq l=true)(b:iq l.op=true)(a:l.op≠1):iv l.op=true:=by
 unfold iv;by_cases c:l.op=2
 ·grind
 ·rw[ao3 c,ao4,an9]
  grind [Int.lt_or_le,iq,jq]
theorem Rv{ds b}(h:gN ds b){r}(d:r∈b){t}(e:t∈(dg r).bl)(f:iq (toInt (af t 0))=true)(g:toInt (af t 0)≠1):iv (toInt (af t 0))=true:=by
 have a:=(vd h.s h.c d).r;simp[ba] at a;exact ab8 (a.2 _ (List.mem_map_of_mem e)) f g
section
variable {ds rs rs':List AV} {g:List Int} {aQ:Nat}
theorem NN(h:gN ds rs)(q:(gw ds rs).2=0)(b:g∈uZ ds rs){r}(d:r∈rs)(p:g.contains (bw (dg r).rel ds)=true){A C}(y:dC ds A)(E:dC ds C)(l:Le A C)(m:QY (fun i=>(i:Int)∈g) A C){k o} x(f:x∈dG ds k (dg r) A):x∈dG ds o (dg r) C:=by
 refine NV y.v E.v (fun t e=>⟨fun _ w u=>l _ w u,fun n z=>m _ fun B=>?_⟩) x f;have a:=Rv h d e n z;have D:=wz h.s h.c r d;have f:=D.at_ t e (xd a);have j:=((u5.1 (sC.1 q).2) r d).1;rw[yp,lp,List.any_eq_false] at j;refine j t e ?_;rw[a,ap5];refine Ds (jZ h.c).wg _ _ g b _ _ ?_ ?_
 ·show bw (dg r).rel ds∈g
  simpa using p
 grind [bw,pW,toStr,af,Int.toNat_of_nonneg]
theorem It(h:gN ds rs){r}(a:r∈rs)(b:g.contains (bw (dg r).rel ds)=true):(atR ds r:Int)∈g:=by
 have:=(h.at a).1
 show((bw _ _).toNat:Int)∈g
 grind
theorem GN(h:gN ds rs)(j:gN ds rs')(e: ∀r,r∈rs↔r∈rs')(q:(gw ds rs).2=0)(k:g∈uZ ds rs)(l:aQ<=50){A}(c:dC ds A)(p:cw (ej ds rs g aQ 99 A)<=aQ):ej ds rs' g aQ 99 A=ej ds rs g aQ 99 A:=by
 have m:=(q8 h g aQ 99 A c).1;have d:=(q8 j g aQ 99 A c).1;have y:=wo h 99 A c (by omega) p;obtain⟨z,v⟩:=AO (aQ:=aQ) (F:=fun i=>(i:Int)∈g) h (fun r b a=>It h b a) 99 A c;obtain⟨B,u⟩:=AO (aQ:=aQ) (F:=fun i=>(i:Int)∈g) j (fun r b a=>It j b a) 99 A c;have s:=(BX (aQ:=aQ) j (C:=ej ds rs g aQ 99 A)  (fun r b a=>⟨It j b a,fun w f l o x n=>y r ((e r).2 b) a x (NN h q k ((e r).2 b) a f m l o x n)⟩) 99 A c z v).1;have D:=wo j 99 A c (by omega) (Nat.le_trans (Le.tot d m s) p);have t:=(BX (aQ:=aQ) h (C:=ej ds rs' g aQ 99 A) (F:=fun i=>(i:Int)∈g) (fun r b a=>⟨It h b a,fun w f l o x n=>D r ((e r).1 b) a x (NN h q k b a f d l o x n)⟩) 99 A c B u).1;exact Le.am3 d m s t
theorem yh(h:gN ds rs)(i:gN ds rs')(b: ∀r,r∈rs↔r∈rs')(j:(gw ds rs).2=0)(f:aQ<=50): ∀a A,(∀g,g∈a->g∈uZ ds rs)->dC ds A->cw (fE ds rs aQ a A)<=aQ->fE ds rs' aQ a A=fE ds rs aQ a A
 |[],A,_,_,_=>rfl
 |g::a,A,d,k,c=>by
  have l:=(q8 h g aQ 99 A k).1;have c:cw (fE ds rs aQ a (ej ds rs g aQ 99 A))<=aQ:=c;have m:=(Bi h aQ a _ l).2.1;have e:=GN h i b j (d g (by simp)) f k (by omega);show fE ds rs' aQ a (ej ds rs' g aQ 99 A)=fE ds rs aQ a (ej ds rs g aQ 99 A)
  rw[e];exact yh h i b j f a _ (by grind) l c
theorem Cs{A}(h:ky ds rs aQ A)(c:gN ds rs')(a: ∀r,r∈rs↔r∈rs')(d:(gw ds rs).2=0)(b:uZ ds rs'=uZ ds rs)(e:cw (fE ds rs aQ (uZ ds rs) A)<=aQ):fE ds rs' aQ (uZ ds rs') A=fE ds rs aQ (uZ ds rs) A:=by
 rw[b];exact yh h.p c a d h.l _ _ (fun _ h=>h) h.A e
end
end Go.Proofs.YtioeffnadipbaaaGreatDoor
namespace Go.Proofs.YtioeffnadipbaaaGreatDoor
open Go Go.Dn Go.Rl Go.Proofs
attribute [local irreducible] a9 vc
set_option maxRecDepth 20000
theorem yMv(κ:Kp) ds rs xs(i k:Int) K:(a9 (BSx κ).E 12 5 [eg ds rs, .ah 51 xs, .int i, .int k] [] K)=(
 letI a:=AV.int
 letI b:=AV.agg
 letI c:=AV.bool
 letI d:=AV.str
 letI e:=AV.ah
 letI z1:=nth rs k.toNat
 letI z2:=nth rs i.toNat
 letI h:=toStr (af (af z1 0) 0)
 letI j:=toStr (af (af z2 0) 0)
 letI l:=ag (af (af z1 0) 1)
 letI m:=ag (af (af z2 0) 1)
 letI n:=toInt (af z1 2)
 letI o:=toInt (af z2 2)
 letI z9:=decide ((0:Int)<=i)&&decide (i<(↑(0+rs.length):Int))
 letI v:=decide ((0:Int)<=k)&&decide (k<(↑(0+rs.length):Int))
 letI w:=decide ((0:Int)<=k)&&decide (k<(↑(rs.length):Int))
 letI x:=decide ((0:Int)<=i)&&decide (i<(↑(rs.length):Int))
 letI f:=ag (af z1 1)
 letI g:=ag (af z2 1)
 letI y:=decide ((0+rs.length+1)*73<=70368744177664)
 letI z:=true&&decide ((Int.toNat (↑(rs.length):Int)+1)*73<=70368744177664)&&true
 ∃(e4:Unit),([],[])=ac6 e4/\True/\aR ((decide (ds.length<=9223372036854775807)&&List.all ds fun(e0:AV)=>decide (List.length (ag (af e0 1))<=9223372036854775807))&&c6 xs) (ak ((bif nt ds rs xs then(1:Int) else(0:Int))==(0:Int)) (K (c true) []) (ak (decide (i<(0:Int))) (K (c true) []) (ak (decide (k<(0:Int))) (K (c true) []) (ak (decide (i>=(↑(rs.length):Int))) (K (c true) []) (ak (decide (k>=(↑(rs.length):Int))) (K (c true) []) (aR z (aR y (aR w (aR z9 (aR x (aR v (∃(e3:yt),letI p:=gw e3.1 e3.2;letI q:=Prod.snd p != (0:Int);letI A:=(0:Int)==Prod.snd p;([eg ds rs],[])=Jx e3/\tj e3/\ak (decide (Prod.snd p=(0:Int))) (∃(e2:vq),letI B:=a8 (eW e2.ds e2.rs e2.all e2.aQ);letI C:=List.take (List.length B) (List.drop 0 B);([eg ds rs,e 51 xs,a 20],[])=ly e2/\dK e2/\ak (decide (fr e2.ds e2.rs e2.xs e2.all e2.aQ=(0:Int))) (∃(e1:vq),letI D:=a8 (eW e1.ds e1.rs e1.all e1.aQ);([eg ds (List.take (0+rs.length) (List.drop 0 (bt (bt ([]++rs) (0+i.toNat) (b [b [d h,e 38 l],e 80 f,a n])) (0+k.toNat) (b [b [d j,e 38 m],e 80 g,a o])))),e 51 xs,a 20],[])=ly e1/\dK e1/\ak (decide (fr e1.ds e1.rs e1.xs e1.all e1.aQ=(0:Int))) (∃(e0:List AV),([e 51 C,e 51 (List.take (List.length D) (List.drop 0 D))],[])=j5 e0/\c6 e0=true/\K (c true) []) (ak ((0:Int)==fr e1.ds e1.rs e1.xs e1.all e1.aQ) (∃(e0:List AV),([e 51 C,e 51 []],[])=j5 e0/\c6 e0=true/\K (c true) []) (K (c false) []))) (∃(e1:vq),letI F:=a8 (eW e1.ds e1.rs e1.all e1.aQ);([eg ds (List.take (0+rs.length) (List.drop 0 (bt (bt ([]++rs) (0+i.toNat) (b [b [d h,e 38 l],e 80 f,a n])) (0+k.toNat) (b [b [d j,e 38 m],e 80 g,a o])))),e 51 xs,a 20],[])=ly e1/\dK e1/\ak (decide (fr e1.ds e1.rs e1.xs e1.all e1.aQ=(0:Int))) (ak (fr e2.ds e2.rs e2.xs e2.all e2.aQ==(0:Int)) (∃(e0:List AV),([e 51 [],e 51 (List.take (List.length F) (List.drop 0 F))],[])=j5 e0/\c6 e0=true/\K (c true) []) (K (c false) [])) (ak (fr e2.ds e2.rs e2.xs e2.all e2.aQ==fr e1.ds e1.rs e1.xs e1.all e1.aQ) (∃(e0:List AV),([e 51 [],e 51 []],[])=j5 e0/\c6 e0=true/\K (c true) []) (K (c false) [])))) (∃(e2:vq),letI G:=a8 (eW e2.ds e2.rs e2.all e2.aQ);letI H:=List.take (List.length G) (List.drop 0 G);letI I:=fr e2.ds e2.rs e2.xs e2.all e2.aQ==Prod.snd p;([eg ds rs,e 51 xs,a 20],[])=ly e2/\dK e2/\ak (decide (fr e2.ds e2.rs e2.xs e2.all e2.aQ=(0:Int))) (∃(e1:vq),letI J:=a8 (eW e1.ds e1.rs e1.all e1.aQ);([eg ds (List.take (0+rs.length) (List.drop 0 (bt (bt ([]++rs) (0+i.toNat) (b [b [d h,e 38 l],e 80 f,a n])) (0+k.toNat) (b [b [d j,e 38 m],e 80 g,a o])))),e 51 xs,a 20],[])=ly e1/\dK e1/\ak (decide (fr e1.ds e1.rs e1.xs e1.all e1.aQ=(0:Int))) (ak q (ak A (K (c false) []) (K (c false) [])) (∃(e0:List AV),([e 51 H,e 51 (List.take (List.length J) (List.drop 0 J))],[])=j5 e0/\c6 e0=true/\K (c true) [])) (ak q (ak A (K (c (fr e1.ds e1.rs e1.xs e1.all e1.aQ != (0:Int))) []) (K (c false) [])) (ak ((0:Int)==fr e1.ds e1.rs e1.xs e1.all e1.aQ) (∃(e0:List AV),([e 51 H,e 51 []],[])=j5 e0/\c6 e0=true/\K (c true) []) (K (c false) [])))) (∃(e1:vq),letI L:=a8 (eW e1.ds e1.rs e1.all e1.aQ);([eg ds (List.take (0+rs.length) (List.drop 0 (bt (bt ([]++rs) (0+i.toNat) (b [b [d h,e 38 l],e 80 f,a n])) (0+k.toNat) (b [b [d j,e 38 m],e 80 g,a o])))),e 51 xs,a 20],[])=ly e1/\dK e1/\ak (decide (fr e1.ds e1.rs e1.xs e1.all e1.aQ=(0:Int))) (ak q (ak I (K (c false) []) (K (c false) [])) (ak (fr e2.ds e2.rs e2.xs e2.all e2.aQ==(0:Int)) (∃(e0:List AV),([e 51 [],e 51 (List.take (List.length L) (List.drop 0 L))],[])=j5 e0/\c6 e0=true/\K (c true) []) (K (c false) []))) (ak q (ak I (K (c (fr e1.ds e1.rs e1.xs e1.all e1.aQ != (0:Int))) []) (K (c false) [])) (ak (fr e2.ds e2.rs e2.xs e2.all e2.aQ==fr e1.ds e1.rs e1.xs e1.all e1.aQ) (∃(e0:List AV),([e 51 [],e 51 []],[])=j5 e0/\c6 e0=true/\K (c true) []) (K (c false) []))))))))))/\aR y (aR w (aR z9 (aR x (aR v (∃(e3:yt),letI r:=gw e3.1 e3.2;letI s:=Prod.snd r != (0:Int);letI M:=(0:Int)==Prod.snd r;([eg ds rs],[])=Jx e3/\tj e3/\ak (decide (Prod.snd r=(0:Int))) (∃(e2:vq),letI N:=a8 (eW e2.ds e2.rs e2.all e2.aQ);letI O:=List.take (List.length N) (List.drop 0 N);([eg ds rs,e 51 xs,a 20],[])=ly e2/\dK e2/\ak (decide (fr e2.ds e2.rs e2.xs e2.all e2.aQ=(0:Int))) (∃(e1:vq),letI P:=a8 (eW e1.ds e1.rs e1.all e1.aQ);([eg ds (List.take (0+rs.length) (List.drop 0 (bt (bt ([]++rs) (0+i.toNat) (b [b [d h,e 38 l],e 80 f,a n])) (0+k.toNat) (b [b [d j,e 38 m],e 80 g,a o])))),e 51 xs,a 20],[])=ly e1/\dK e1/\ak (decide (fr e1.ds e1.rs e1.xs e1.all e1.aQ=(0:Int))) (∃(e0:List AV),([e 51 O,e 51 (List.take (List.length P) (List.drop 0 P))],[])=j5 e0/\c6 e0=true/\K (c true) []) (ak ((0:Int)==fr e1.ds e1.rs e1.xs e1.all e1.aQ) (∃(e0:List AV),([e 51 O,e 51 []],[])=j5 e0/\c6 e0=true/\K (c true) []) (K (c false) []))) (∃(e1:vq),letI Q:=a8 (eW e1.ds e1.rs e1.all e1.aQ);([eg ds (List.take (0+rs.length) (List.drop 0 (bt (bt ([]++rs) (0+i.toNat) (b [b [d h,e 38 l],e 80 f,a n])) (0+k.toNat) (b [b [d j,e 38 m],e 80 g,a o])))),e 51 xs,a 20],[])=ly e1/\dK e1/\ak (decide (fr e1.ds e1.rs e1.xs e1.all e1.aQ=(0:Int))) (ak (fr e2.ds e2.rs e2.xs e2.all e2.aQ==(0:Int)) (∃(e0:List AV),([e 51 [],e 51 (List.take (List.length Q) (List.drop 0 Q))],[])=j5 e0/\c6 e0=true/\K (c true) []) (K (c false) [])) (ak (fr e2.ds e2.rs e2.xs e2.all e2.aQ==fr e1.ds e1.rs e1.xs e1.all e1.aQ) (∃(e0:List AV),([e 51 [],e 51 []],[])=j5 e0/\c6 e0=true/\K (c true) []) (K (c false) [])))) (∃(e2:vq),letI R:=a8 (eW e2.ds e2.rs e2.all e2.aQ);letI S:=List.take (List.length R) (List.drop 0 R);letI T:=fr e2.ds e2.rs e2.xs e2.all e2.aQ==Prod.snd r;([eg ds rs,e 51 xs,a 20],[])=ly e2/\dK e2/\ak (decide (fr e2.ds e2.rs e2.xs e2.all e2.aQ=(0:Int))) (∃(e1:vq),letI U:=a8 (eW e1.ds e1.rs e1.all e1.aQ);([eg ds (List.take (0+rs.length) (List.drop 0 (bt (bt ([]++rs) (0+i.toNat) (b [b [d h,e 38 l],e 80 f,a n])) (0+k.toNat) (b [b [d j,e 38 m],e 80 g,a o])))),e 51 xs,a 20],[])=ly e1/\dK e1/\ak (decide (fr e1.ds e1.rs e1.xs e1.all e1.aQ=(0:Int))) (ak s (ak M (K (c false) []) (K (c false) [])) (∃(e0:List AV),([e 51 S,e 51 (List.take (List.length U) (List.drop 0 U))],[])=j5 e0/\c6 e0=true/\K (c true) [])) (ak s (ak M (K (c (fr e1.ds e1.rs e1.xs e1.all e1.aQ != (0:Int))) []) (K (c false) [])) (ak ((0:Int)==fr e1.ds e1.rs e1.xs e1.all e1.aQ) (∃(e0:List AV),([e 51 S,e 51 []],[])=j5 e0/\c6 e0=true/\K (c true) []) (K (c false) [])))) (∃(e1:vq),letI V:=a8 (eW e1.ds e1.rs e1.all e1.aQ);([eg ds (List.take (0+rs.length) (List.drop 0 (bt (bt ([]++rs) (0+i.toNat) (b [b [d h,e 38 l],e 80 f,a n])) (0+k.toNat) (b [b [d j,e 38 m],e 80 g,a o])))),e 51 xs,a 20],[])=ly e1/\dK e1/\ak (decide (fr e1.ds e1.rs e1.xs e1.all e1.aQ=(0:Int))) (ak s (ak T (K (c false) []) (K (c false) [])) (ak (fr e2.ds e2.rs e2.xs e2.all e2.aQ==(0:Int)) (∃(e0:List AV),([e 51 [],e 51 (List.take (List.length V) (List.drop 0 V))],[])=j5 e0/\c6 e0=true/\K (c true) []) (K (c false) []))) (ak s (ak T (K (c (fr e1.ds e1.rs e1.xs e1.all e1.aQ != (0:Int))) []) (K (c false) [])) (ak (fr e2.ds e2.rs e2.xs e2.all e2.aQ==fr e1.ds e1.rs e1.xs e1.all e1.aQ) (∃(e0:List AV),([e 51 [],e 51 []],[])=j5 e0/\c6 e0=true/\K (c true) []) (K (c false) [])))))))))))/\aR z (aR y (aR w (aR z9 (aR x (aR v (∃(e3:yt),letI t:=gw e3.1 e3.2;letI u:=Prod.snd t != (0:Int);letI W:=(0:Int)==Prod.snd t;([eg ds rs],[])=Jx e3/\tj e3/\ak (decide (Prod.snd t=(0:Int))) (∃(e2:vq),letI X:=a8 (eW e2.ds e2.rs e2.all e2.aQ);letI Y:=List.take (List.length X) (List.drop 0 X);([eg ds rs,e 51 xs,a 20],[])=ly e2/\dK e2/\ak (decide (fr e2.ds e2.rs e2.xs e2.all e2.aQ=(0:Int))) (∃(e1:vq),letI Z:=a8 (eW e1.ds e1.rs e1.all e1.aQ);([eg ds (List.take (0+rs.length) (List.drop 0 (bt (bt ([]++rs) (0+i.toNat) (b [b [d h,e 38 l],e 80 f,a n])) (0+k.toNat) (b [b [d j,e 38 m],e 80 g,a o])))),e 51 xs,a 20],[])=ly e1/\dK e1/\ak (decide (fr e1.ds e1.rs e1.xs e1.all e1.aQ=(0:Int))) (∃(e0:List AV),([e 51 Y,e 51 (List.take (List.length Z) (List.drop 0 Z))],[])=j5 e0/\c6 e0=true/\K (c true) []) (ak ((0:Int)==fr e1.ds e1.rs e1.xs e1.all e1.aQ) (∃(e0:List AV),([e 51 Y,e 51 []],[])=j5 e0/\c6 e0=true/\K (c true) []) (K (c false) []))) (∃(e1:vq),letI z47:=a8 (eW e1.ds e1.rs e1.all e1.aQ);([eg ds (List.take (0+rs.length) (List.drop 0 (bt (bt ([]++rs) (0+i.toNat) (b [b [d h,e 38 l],e 80 f,a n])) (0+k.toNat) (b [b [d j,e 38 m],e 80 g,a o])))),e 51 xs,a 20],[])=ly e1/\dK e1/\ak (decide (fr e1.ds e1.rs e1.xs e1.all e1.aQ=(0:Int))) (ak (fr e2.ds e2.rs e2.xs e2.all e2.aQ==(0:Int)) (∃(e0:List AV),([e 51 [],e 51 (List.take (List.length z47) (List.drop 0 z47))],[])=j5 e0/\c6 e0=true/\K (c true) []) (K (c false) [])) (ak (fr e2.ds e2.rs e2.xs e2.all e2.aQ==fr e1.ds e1.rs e1.xs e1.all e1.aQ) (∃(e0:List AV),([e 51 [],e 51 []],[])=j5 e0/\c6 e0=true/\K (c true) []) (K (c false) [])))) (∃(e2:vq),letI z50:=a8 (eW e2.ds e2.rs e2.all e2.aQ);letI z48:=List.take (List.length z50) (List.drop 0 z50);letI z49:=fr e2.ds e2.rs e2.xs e2.all e2.aQ==Prod.snd t;([eg ds rs,e 51 xs,a 20],[])=ly e2/\dK e2/\ak (decide (fr e2.ds e2.rs e2.xs e2.all e2.aQ=(0:Int))) (∃(e1:vq),letI z51:=a8 (eW e1.ds e1.rs e1.all e1.aQ);([eg ds (List.take (0+rs.length) (List.drop 0 (bt (bt ([]++rs) (0+i.toNat) (b [b [d h,e 38 l],e 80 f,a n])) (0+k.toNat) (b [b [d j,e 38 m],e 80 g,a o])))),e 51 xs,a 20],[])=ly e1/\dK e1/\ak (decide (fr e1.ds e1.rs e1.xs e1.all e1.aQ=(0:Int))) (ak u (ak W (K (c false) []) (K (c false) [])) (∃(e0:List AV),([e 51 z48,e 51 (List.take (List.length z51) (List.drop 0 z51))],[])=j5 e0/\c6 e0=true/\K (c true) [])) (ak u (ak W (K (c (fr e1.ds e1.rs e1.xs e1.all e1.aQ != (0:Int))) []) (K (c false) [])) (ak ((0:Int)==fr e1.ds e1.rs e1.xs e1.all e1.aQ) (∃(e0:List AV),([e 51 z48,e 51 []],[])=j5 e0/\c6 e0=true/\K (c true) []) (K (c false) [])))) (∃(e1:vq),letI z52:=a8 (eW e1.ds e1.rs e1.all e1.aQ);([eg ds (List.take (0+rs.length) (List.drop 0 (bt (bt ([]++rs) (0+i.toNat) (b [b [d h,e 38 l],e 80 f,a n])) (0+k.toNat) (b [b [d j,e 38 m],e 80 g,a o])))),e 51 xs,a 20],[])=ly e1/\dK e1/\ak (decide (fr e1.ds e1.rs e1.xs e1.all e1.aQ=(0:Int))) (ak u (ak z49 (K (c false) []) (K (c false) [])) (ak (fr e2.ds e2.rs e2.xs e2.all e2.aQ==(0:Int)) (∃(e0:List AV),([e 51 [],e 51 (List.take (List.length z52) (List.drop 0 z52))],[])=j5 e0/\c6 e0=true/\K (c true) []) (K (c false) []))) (ak u (ak z49 (K (c (fr e1.ds e1.rs e1.xs e1.all e1.aQ != (0:Int))) []) (K (c false) [])) (ak (fr e2.ds e2.rs e2.xs e2.all e2.aQ==fr e1.ds e1.rs e1.xs e1.all e1.aQ) (∃(e0:List AV),([e 51 [],e 51 []],[])=j5 e0/\c6 e0=true/\K (c true) []) (K (c false) [])))))))))))))))))):=by kernel_rfl
theorem vG: ∀l k x,k<l.length->bt l k x=l.set k x
 |[],_,_,h=>nomatch h
 |_::_,0,_,_=>rfl
 |a::l,k+1,x,h=>by rw[bt,vG l k x (by grind)];rfl
theorem LM{l:List _}{i k}(b:i<l.length)(a:k<l.length) r:r∈(l.set i (nth l k)).set k (nth l i)↔r∈l:=by
 have f:nth l i=l[i]:=aV l i b;have e:nth l k=l[k]:=aV l k a;rw[f,e];constructor
 ·grind
 ·intro h
  obtain⟨j,g,rfl⟩:=List.mem_iff_getElem.1 h;by_cases c:j=i
  ·subst c
   exact List.mem_iff_getElem.2 ⟨k,by simpa using a,by simp⟩
  ·by_cases d:j=k
   ·subst d
    exact List.mem_iff_getElem.2 ⟨i,by simpa using b,by simp[List.getElem_set,c]⟩
   ·exact List.mem_iff_getElem.2 (by grind)
section
variable {ds rs q xs:List AV} {all:List RL} {aQ:Nat}
theorem z6(b: ∀r,r∈q↔r∈rs)(a:q.length=rs.length):iK ds q xs=iK ds rs xs:=by
 grind [iK,fc]
theorem La(a: ∀r,r∈q↔r∈rs)(j:q.length=rs.length)(h:dK ⟨ds,rs,xs,all,aQ⟩)(g:(gw ds q).2=0->(gw ds rs).2=0):dK ⟨ds,q,xs,all,aQ⟩:=by
 have d:=zF (fun r b=>(a r).1 b) (by omega) h.s;have m:iK ds q xs=iK ds rs xs:=z6 a j;refine⟨d,?_,fun c=>h.i (by grind),h.l,fun e k=>?_⟩
 ·have:=h.f
  grind
 ·have o:=h.o (g e) (by grind)
  exact⟨⟨d,(sC.1 e).1⟩,o.A,fun r b=>o.t r ((a r).1 b),o.l,o.n⟩
theorem Jy(g: ∀r,r∈q↔r∈rs)(l:q.length=rs.length)(h:dK ⟨ds,rs,xs,all,aQ⟩)(j:dK ⟨ds,q,xs,all,aQ⟩)(b:(gw ds rs).2=0)(d:(gw ds q).2=0):
  fr ds q xs all aQ=fr ds rs xs all aQ/\(fr ds rs xs all aQ=0->eW ds q all aQ=eW ds rs all aQ):=by
 have a:uZ ds q=uZ ds rs:=NY g (jZ (sC.1 d).1) (jZ (sC.1 b).1);have i:iK ds q xs=iK ds rs xs:=z6 g l;unfold fr;rw[ao5 b,ao5 d,i];cases f:iK ds rs xs with
 |false=>exact⟨rfl,fun e=>nomatch e⟩
 | true=>
  have o:=h.o b f;have o':=j.o d (i.trans f);simp only[Bool.not_true,ao4];by_cases c:aQ<cw (eW ds rs all aQ)
  ·have m:aQ<cw (eW ds q all aQ):=by
    rcases Nat.lt_or_ge aQ (cw (eW ds q all aQ)) with k|k
    ·exact k
    ·have e:eW ds rs all aQ=eW ds q all aQ:=Cs o' o.p g d a.symm k
     rwa [e] at c
   rw[ao5 c,ao5 m];exact⟨rfl,fun e=>nomatch e⟩
  ·have e:eW ds q all aQ=eW ds rs all aQ:=Cs o o'.p (fun r=>(g r).symm) b a (show cw (eW ds rs all aQ)<=aQ by omega)
   rw[e];exact⟨rfl,fun _=>rfl⟩
theorem Im(h:(gw ds rs).2≠0):fr ds rs xs all aQ=(gw ds rs).2:=by
 grind [fr]
end
theorem XL κ{ds a xs i k}(T:(decide (ds.length<=aW)&&ds.all fun d=>decide ((ag (af d 1)).length<=aW))=true)(D: ∀r,r∈a->au (dg r)=r)(F:ZZ xs){K}(j:K (.bool true) []):a9 (BSx κ).E 12 5 [eg ds a, .ah 51 xs, .int i, .int k] [] K:=by
 refine Eq.mpr (yMv κ ds a xs i k K) ⟨(),rfl,trivial,ai.2 ⟨by rw[F.f,Bool.and_true];exact T,?_⟩⟩;cases L:nt ds a xs with
 |false=>exact j
 | true=>
  refine ad.2 ⟨fun e=>absurd e (by decide),fun _=>ad.2 ⟨fun _=>j,fun H=>ad.2 ⟨fun _=>j,fun O=>ad.2 ⟨fun _=>j,fun P=>ad.2 ⟨fun _=>j,fun A=>?_⟩⟩⟩⟩⟩;have H:=of_decide_eq_false H;have O:=of_decide_eq_false O;have P:=of_decide_eq_false P;have A:=of_decide_eq_false A;have Q:a.length<=8:=by
   have h:=L;simp only[nt,ao0,an9] at h;omega
  have s1:=RK F L (aQ:=20) (by omega) (by omega);have B:nth a i.toNat∈a:=by rw[aV _ _ (by omega)];exact List.getElem_mem _
  have J:nth a k.toNat∈a:=by rw[aV _ _ (by omega)];exact List.getElem_mem _
  have y:=D _ B;have x:=D _ J;simp only[au,dg] at y x;have C:List.take a.length (bt (bt a i.toNat (nth a k.toNat)) k.toNat (nth a i.toNat))=(a.set i.toNat (nth a k.toNat)).set k.toNat (nth a i.toNat):=by
   rw[vG a _ _ (by omega),vG _ _ _ (by rw[List.length_set];omega)];exact List.take_of_length_le (by simp)
  have v:=LM (l:=a) (i:=i.toNat) (k:=k.toNat) (by omega) (by omega);have g:((a.set i.toNat (nth a k.toNat)).set k.toNat (nth a i.toNat)).length=a.length:=by simp
  simp only[Int.toNat_natCast,ao9,List.take_length,Nat.zero_add,List.nil_append,y,x,C];generalize (a.set i.toNat (nth a k.toNat)).set k.toNat (nth a i.toNat)=q at*
  clear C y x B J;have n:=s1.s;simp only at n;have z:=zF (fun r u=>(v r).1 u) (by omega) n;have R:(gw ds a).2=0->(gw ds q).2=0:=Nf (fun r u=>(v r).1 u) (by omega) n;have I:(gw ds q).2=0->(gw ds a).2=0:=Nf (fun r u=>(v r).2 u) (by omega) z;have s2:=La v g s1 I;by_cases b:(gw ds a).2=0
  ·obtain⟨p,w⟩:=Jy v g s1 s2 b (R b)
   by_cases t:fr ds a xs (iT xs) 20=0
   ·obtain⟨U,V,W,N⟩:=Re s1.o t
    simp only at U V W N
    repeat' first
     |refine⟨(ds,a),rfl,n,ad.2 ⟨fun _=>⟨⟨ds,a,xs,iT xs,20⟩,rfl,s1,ad.2 ⟨fun _=>⟨⟨ds,q,xs,iT xs,20⟩,rfl,s2,ad.2 ⟨fun _=>⟨a8 (eW ds a (iT xs) 20),by rw[w t];rfl,Ko N,j⟩,fun c=>absurd (p.trans t) (of_decide_eq_false c)⟩⟩,fun c=>absurd t (of_decide_eq_false c)⟩⟩,fun c=>absurd b (of_decide_eq_false c)⟩⟩
     |refine ai.2 ⟨?_,?_⟩
     |(simp only[ap5,Bool.and_true,ao0,an9];omega)
     |refine And.intro ?_ ?_
   ·repeat' first
     |refine⟨(ds,a),rfl,n,ad.2 ⟨fun _=>⟨⟨ds,a,xs,iT xs,20⟩,rfl,s1,ad.2 ⟨fun c=>absurd (of_decide_eq_true c) t,fun _=>⟨⟨ds,q,xs,iT xs,20⟩,rfl,s2,ad.2 ⟨fun c=>absurd (p.symm.trans (of_decide_eq_true c)) t,fun _=>ad.2 ⟨fun _=>⟨[],rfl,rfl,j⟩,fun c=>absurd (show(fr ds a xs (iT xs) 20==fr ds q xs (iT xs) 20)=false from c) (by rw[p];simp)⟩⟩⟩⟩⟩,fun c=>absurd b (of_decide_eq_false c)⟩⟩
     |refine ai.2 ⟨?_,?_⟩
     |(simp only[ap5,Bool.and_true,ao0,an9];omega)
     |refine And.intro ?_ ?_
  ·have m: ¬ (gw ds q).2=0:=fun h=>b (I h)
   have p:fr ds a xs (iT xs) 20=(gw ds a).2:=Im b;have w:fr ds q xs (iT xs) 20=(gw ds q).2:=Im m;have X:(fr ds q xs (iT xs) 20 != 0)=true:=by rw[w];simpa using m
   have e4:((gw ds a).2 != 0)=true:=by simpa using b
   repeat' first
    |refine⟨(ds,a),rfl,n,ad.2 ⟨fun c=>absurd (of_decide_eq_true c) b,fun _=>⟨⟨ds,a,xs,iT xs,20⟩,rfl,s1,ad.2 ⟨fun c=>absurd (p.symm.trans (of_decide_eq_true c)) b,fun _=>⟨⟨ds,q,xs,iT xs,20⟩,rfl,s2,ad.2 ⟨fun c=>absurd (w.symm.trans (of_decide_eq_true c)) m,fun _=>ad.2 ⟨fun _=>ad.2 ⟨fun _=>?_,fun c=>absurd (show(fr ds a xs (iT xs) 20==(gw ds a).2)=false from c) (by rw[p];simp)⟩,fun c=>absurd (show((gw ds a).2 != 0)=false from c) (by rw[e4];simp)⟩⟩⟩⟩⟩⟩⟩
    |(show K (.bool (fr ds q xs (iT xs) 20 != 0)) [];rw[X];exact j)
    |refine ai.2 ⟨?_,?_⟩
    |(simp only[ap5,Bool.and_true,ao0,an9];omega)
    |refine And.intro ?_ ?_
end Go.Proofs.YtioeffnadipbaaaGreatDoor
