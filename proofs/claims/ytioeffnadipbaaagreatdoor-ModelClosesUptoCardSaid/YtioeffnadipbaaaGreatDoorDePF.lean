import Derived.Test.YtioeffnadipbaaaGreatDoorDePE
import Derived.Test.YtioeffnadipbaaaGreatDoorDeP4
namespace Go.Proofs.YtioeffnadipbaaaGreatDoor
open Go Go.Dn Go.Rl Go.Proofs
theorem u0 A B:(eY A B).length<=A.length+B.length:=by
 match A,B with
 |[],B=>rw[DI];simp
 |a::c,[]=>
  have:=u0 c []
  grind [DH]
 |a::c,b::d=>
  have f:=u0 c (b::d);have g:=u0 c d;have e:=u0 (a::c) d;rw[DG]
  grind
termination_by A.length+B.length
def xm(l:List _):=(l.filter fun x=>toInt (af x 0)==1).length
def Nj r:=decide (xm (ag (af r 1))<=3)
theorem HB{p}: ∀n {l:List _},l.Nodup->(∀x,x∈l->x<n)->(l.filter p).length<=((List.range n).filter p).length:=by
 intro n l d e;have c:(l.filter p).Nodup:=d.filter _;have g: ∀x,x∈l.filter p->x∈(List.range n).filter p:=fun x h=>by
  grind
 generalize l.filter p=a at*
 generalize (List.range n).filter p=b at*
 clear d e;induction a generalizing b with
 |nil=>exact Nat.zero_le _
 |cons x a f=>
  rw[List.nodup_cons] at c;have:=f c.2 (b.erase x) (by grind)
  grind
theorem s8 q: ∀l:List _,((List.range l.length).filter fun k=>q (nth l k)).length=(l.filter q).length
 |[]=>rfl
 | a::l=>by
  have b:=s8 q l;rw[List.length_cons,List.range_succ_eq_map,List.filter_cons,List.filter_cons];have e:((List.range l.length).map Nat.succ).filter (fun k=>q (nth (a::l) k))=((List.range l.length).filter fun k=>q (nth l k)).map Nat.succ:=by
   rw[List.filter_map];rfl
  grind [nth]
theorem XT{ds b r a}:BJ (AM ds b r a) (c6 (aL r))<=xm r.bl:=by
 have h:=HB (p:=fun k=>toInt (af (nth r.bl k) 0)==1) _ (F9 (aL r)) fun x c=>by
  have:=tF c
  rwa [fR] at this
 rw[s8 (fun t=>toInt (af t 0)==1) _] at h;exact h
variable {ds rs:List AV}
theorem IK(h:gB ds rs) i:IJ ds i<=100:=by
 have b:=(pb.1 h.c).1;simp only[fB,aC6,List.all_eq_true] at b;rcases Nat.lt_or_ge i ds.length with a|a
 ·have:=b.1.2 _ (show nth ds i∈ds by grind [aV])
  grind [G1,xq,IJ]
 ·unfold IJ
  rw[gr _ i a];exact Nat.zero_le _
theorem ad1(h:gB ds rs){r}(a:r∈rs):(cK r).hl.length<=8:=by
 have b:=(sl h.s h.c a).r
 grind [ba,ow,aL,eS]
theorem I3(h:gB ds rs){r}(j:r∈rs)(d:Nj r=true){a}(i:cM a<=50):(K5.V ⟨ds,rs,cK r,a⟩).length<=125000:=by
 have f: ∀b,((AM ds rs (cK r) a).at b).length<=50:=fun b=>by
  rw[rF,eC];rcases Nat.lt_or_ge _ a.length with c|c
  ·exact Nat.le_trans (oD (km c)) i
  grind
 have g:=B1 f (by omega) (c6 (aL (cK r))) [];have e:BJ (AM ds rs (cK r) a) _<=3:=Nat.le_trans XT (of_decide_eq_true d);exact Nat.le_trans g (Nat.le_trans (Nat.pow_le_pow_right (by omega) e) (by decide))
theorem Vv(h:gB ds rs){r}(b:r∈rs)(j:Nj r=true){a}(e:dX ds a)(f:cM a<=50):oZ ⟨ds,rs,cK r,a⟩:=by
 have hl:=I3 h b j f;refine⟨sl h.s h.c b,Ow h.s h.c b e fun L i=>?_,⟨by grind,fun x g=>?_,qo (sR e.v) _ EN⟩⟩
 ·have:L.length<=cM a:=oD i
  omega
 ·have d:=B2 _ g
  have k:=ad1 h b;have d:x.length=(cK r).hl.length:=d;omega
theorem wy(h:gB ds rs){a}(b:dX ds a) i x(c:x∈a.getD i []):x.length<=100000000:=by
 have d:=b.w i x c
 grind [IK]
theorem ab5(h:gB ds rs){r}(e:r∈rs)(j:Nj r=true){a}(b:dX ds a)(m:cM a<=50):w5 (rws (a.getD (atR ds r) []),rws (dp ds rs (cK r) a)):=by
 obtain⟨g,k,f⟩:=nW h e b;have i:atR ds r<a.length:=by rw[b.len];exact(h.at e).2
 have d:=km i;have l:=I3 h e j m;have n:(dp ds rs (cK r) a).length<=125000:=Nat.le_trans (qH _) l;have p:=oD d;have o:=IK h (atR ds r);refine⟨⟨np (by omega) (wy h b _),np (by omega) (fun x c=>by have:=f x c;omega),?_,fun x c=>?_⟩,?_,?_⟩
 ·simp only[iB]
  have:=u0 (a.getD (atR ds r) []) (dp ds rs (cK r) a)
  rw[eY,List.length_map] at this;omega
 ·simp only[iB] at c
  have:x.1∈eY (a.getD (atR ds r) []) (dp ds rs (cK r) a):=List.mem_map_of_mem c
  rcases(gz (b.v _ d) g).1 this with h|h
  ·have:=b.w _ _ h;omega
  ·have:=f _ h;omega
 ·simp only[iB];exact b.r _ d
 ·simp only[iB];exact k
theorem FX(h:gB ds rs){r}(b:r∈rs)(c:Nj r=true){a}(d:dX ds a)(e:cM a<=50):cM (iJ ds rs r a)<=200000:=by
 obtain⟨_,_,f⟩:=qK h b d;have g:=u0 (a.getD (atR ds r) []) (dp ds rs (cK r) a);have i:(dp ds rs (cK r) a).length<=125000:=Nat.le_trans (qH _) (I3 h b c e);omega
end Go.Proofs.YtioeffnadipbaaaGreatDoor
namespace Go.Proofs.YtioeffnadipbaaaGreatDoor
open Go Go.Dn Go.Rl Go.Proofs
attribute [local irreducible] a8 vc
set_option maxRecDepth 20000
structure R3 where
 ds:List AV
 rs:List AV
 g:List Int
 aZ:Nat
 all:List RL
 more:Bool
 i:Nat
abbrev nG(a:List RL):Dn.Obj:= .row 51 (aI a)
abbrev Ug(r:AV):AV:= .agg [.agg [.lit (.string (toStr (af (af r 0) 0))), .ah 38 (ag (af (af r 0) 1))], .ah 80 (ag (af r 1)), .int (toInt (af r 2))]
abbrev Nl ds b g c n aZ i a:=sp 71 [(1, .ah 3 g),(2, .ak 0 0 n),(3, .int aZ),(4, .ptr 1 0 [] 0),(9, .bool a),(16, .ah 48 b),(17, .int b.length),(18, .int i)] [.row 51 c, .box 25 (eg ds b)]
abbrev MX(x:R3):=Nl x.ds x.rs (iA x.g) (aI x.all) (aI x.all).length x.aZ x.i x.more
def Q6:dN:=fun b st K=>∃a,(b,st)=IA a/\oZ a/\K (.ah 70 (rws (dp a.ds a.rs a.r a.all))) st
theorem Iu:Q6.gl:=fun _ _ _ _ c ⟨a,d,e,b⟩=>⟨a,d,e,c _ _ b⟩
theorem X6 b st K(h:Q6 b st K):aM IA oZ VS b st K:=by
 obtain⟨a,d,e,c⟩:=h;obtain⟨rfl,rfl⟩:=Prod.mk.inj d;exact⟨a,rfl,e,c⟩
theorem XN κ a st K(h:Q6 a st K):(BUn κ).E.call 50 a st K:=X6 _ _ K h
noncomputable def Xm κ:=EB.Zj _ Iu (XN κ)
theorem xGw(κ:Kp)(x:R3) I(N:Nat) K:(vc (Xm κ).E 12 46 none 1 (ad (Pr κ).toProgram 46 3) (MX x) (bg (Xm κ).E 46 3 1 I N K))=(
 letI a:=Obj.box
 letI b:=AV.ah
 letI c:=List.length (aI x.all)
 letI f:=IntKind.wrap IntKind.i64 ((↑(x.i):Int)+(1:Int))
 letI j:=nth x.rs (Int.toNat (↑(x.i):Int))
 letI l:=a 25 (eg x.ds x.rs)=a 25 (eg x.ds x.rs)/\a 48 (Ug j)=a 48 (Ug j)/\True
 letI m:=List.take c (List.drop 0 (aI x.all))
 letI n:=(↑(x.i):Int)<(↑(x.rs.length):Int)
 aq (decide n) (aW (true&&decide n) (∃(e3:List AV×ByteArray),letI d:=decide ((0:Int)<=bu e3.2 e3.1)&&decide (bu e3.2 e3.1<(↑c:Int));letI e:=bu e3.2 e3.1;letI k:=ag (nth (aI x.all) (0+Int.toNat e));([b 43 x.ds,AV.str (toStr (af (af j 0) 0))],[])=Bh e3/\gZ e3/\aW (decide (List.length m<=100000)&&decide (jd m<=1000000000)) (aq (decide ((↑(jd m):Int)>(↑(x.aZ):Int))) (K Exit.ret (sp 71 [(8,AV.bool false)] [nG x.all])) (aW (decide (List.length (iA x.g)<=9223372036854775807)) (aq (!inI e (iA x.g)) (∃(e0:Nat),e0<N/\I e0 (Nl x.ds x.rs (iA x.g) (aI x.all) c (↑(x.aZ):Int) f x.more)) (aW d (aW d ((∃(e2:K5),([eg x.ds x.rs,Ug j,AV.ak 0 0 c],[nG x.all])=IA e2/\oZ e2/\l/\∃(e1:Nq),letI g:=bP (aI x.all) (0+Int.toNat e) (b 70 (List.take (List.length (eY (dh e1.1) (dh e1.2))) (List.drop 0 (rws (eY (dh e1.1) (dh e1.2))))));([b 70 k,b 70 (rws (dp e2.ds e2.rs e2.r e2.all))],[])=U2 e1/\w5 e1/\aW d (aq x.more (∃(e0:Nat),e0<N/\I e0 (Nl x.ds x.rs (iA x.g) g c (↑(x.aZ):Int) f true)) (aW d (∃(e0:Nat),e0<N/\I e0 (Nl x.ds x.rs (iA x.g) g c (↑(x.aZ):Int) f (decide ((↑(List.length (ag (nth g (0+Int.toNat e)))):Int)>(↑(List.length k):Int))))))))/\∃(e2:K5),([eg x.ds x.rs,Ug j,AV.ak 0 0 c],[nG x.all])=IA e2/\oZ e2/\l/\∃(e1:Nq),letI h:=bP (aI x.all) (0+Int.toNat e) (b 70 (List.take (List.length (eY (dh e1.1) (dh e1.2))) (List.drop 0 (rws (eY (dh e1.1) (dh e1.2))))));([b 70 k,b 70 (rws (dp e2.ds e2.rs e2.r e2.all))],[])=U2 e1/\w5 e1/\aW d (aq x.more (∃(e0:Nat),e0<N/\I e0 (Nl x.ds x.rs (iA x.g) h c (↑(x.aZ):Int) f true)) (aW d (∃(e0:Nat),e0<N/\I e0 (Nl x.ds x.rs (iA x.g) h c (↑(x.aZ):Int) f (decide ((↑(List.length (ag (nth h (0+Int.toNat e)))):Int)>(↑(List.length k):Int))))))))/\∃(e2:K5),([eg x.ds x.rs,Ug j,AV.ak 0 0 c],[nG x.all])=IA e2/\oZ e2/\l/\aW d (∃(e1:Nq),letI i:=bP (aI x.all) (0+Int.toNat e) (b 70 (List.take (List.length (eY (dh e1.1) (dh e1.2))) (List.drop 0 (rws (eY (dh e1.1) (dh e1.2))))));([b 70 k,b 70 (rws (dp e2.ds e2.rs e2.r e2.all))],[])=U2 e1/\w5 e1/\aW d (aq x.more (∃(e0:Nat),e0<N/\I e0 (Nl x.ds x.rs (iA x.g) i c (↑(x.aZ):Int) f true)) (aW d (∃(e0:Nat),e0<N/\I e0 (Nl x.ds x.rs (iA x.g) i c (↑(x.aZ):Int) f (decide ((↑(List.length (ag (nth i (0+Int.toNat e)))):Int)>(↑(List.length k):Int))))))))))))))) (K (Exit.exit 0) (sp 71 [(9,AV.bool x.more)] [nG x.all]))):=by kernel_rfl
theorem dm a:(aI a).length=a.length:=by simp
theorem RM W:(rws W).take W.length=rws W:=by grind [eC]
theorem FB W: ∀a k,bP (aI a) k (.ah 70 (rws W))=aI (a.set k W)
 |[],0=>rfl
 |[],_+1=>rfl
 |_::_,0=>rfl
 |L::a,k+1=>by
  have:=FB W a k
  grind [bP]
def zj(ds b:List AV)(g:List Int)(aZ:Nat):List AV->List RL->Bool
 |[],_=>false
 |r::xs,a=>bif decide (aZ<cM a) then true
  else bif !g.contains (bu (cK r).rel ds) then zj ds b g aZ xs a
  else zj ds b g aZ xs (iJ ds b r a)
theorem uV{ds d g aZ}: ∀xs a m,zj ds d g aZ xs a=true->(ct ds d g aZ xs a m).2=false
 |[],_,_,h=>by cases h
 | r::xs,a,m,h=>by
  rw[zj] at h;rw[ct];cases c:decide (aZ<cM _) with
  |true=>rfl
  |false=>
   rw[c] at h;cases b: !g.contains _ with
   |true=>rw[b] at h;exact uV xs _ m h
   |false=>rw[b] at h;exact uV _ _ _ h
structure o0(x:R3):Prop where
 p:gB x.ds x.rs
 A:dX x.ds x.all
 t: ∀r,r∈x.rs->Nj r=true
 l:x.aZ<=50
 n:cM x.all<=200000
 g:x.g.length<=100000
 i:x.i<=x.rs.length
def yG(x:R3):Out (Exit×S):= .aq (zj x.ds x.rs x.g x.aZ (x.rs.drop x.i) x.all)
 (.one (.ret,sp 71 [(8, .bool false)] [nG (ct x.ds x.rs x.g x.aZ (x.rs.drop x.i) x.all x.more).1]))
 (.one (.exit 0,sp 71 [(9, .bool (ct x.ds x.rs x.g x.aZ (x.rs.drop x.i) x.all x.more).2)] [nG (ct x.ds x.rs x.g x.aZ (x.rs.drop x.i) x.all x.more).1]))
theorem tV{ds a}(h:gB ds a):ds.length<=60:=by
 have b:=(pb.1 h.c).1
 grind [fB]
theorem lGw κ:aU (Xm κ).E 12 46 3 (aG 1 MX o0 yG):=by
 refine aC (fun x=>x.rs.length - x.i) ?_;rintro⟨ds,b,g,aZ,a,j,i⟩ K r f;have k:=r.p;have v:=r.A;have O:=r.l;have Q:=r.n;have F:=r.g;have I:=r.i;have J:=k.s.2.1;have hdl:ds.length<=60:=tV k;have o:=v.len;simp only[aX] at k v O Q F I J o;rw[show(Xm κ).E.P=Pr κ from rfl];refine Eq.mpr (xGw κ ⟨ds,b,g,aZ,a,j,i⟩ _ _ K) ?_;simp only[Int.toNat_natCast,aD5,List.take_length,Nat.zero_add];rw[ae,at3,aC7];refine⟨fun h=>?_,fun h=>?_⟩
 ·have H:i<b.length:=by omega
  have w:nth b i∈b:=by rw[aV _ i H];exact List.getElem_mem _
  have C:=k.at w;have L:=r.t _ w;have hd:b.drop i=nth b i::b.drop (i+1):=by rw[aD6 H,←aV b i H]
  have Y:IntKind.wrap .i64 ((i:Int)+1)=((i+1:Nat):Int):=by rw[az (by omega) (by omega)];omega
  have q: ∀d z,dX ds d->cM d<=200000->((yG ⟨ds,b,g,aZ,d,z,i+1⟩).run fun y=>K y.1 y.2)->∃m,m<b.length - i/\eW MX o0 yG (fun x=>x.rs.length - x.i) K m (Nl ds b (iA g) (aI d) (aI d).length aZ (IntKind.wrap .i64 ((i:Int)+1)) z):=fun d z V T Z=>
   ⟨_,by simp only;omega,⟨ds,b,g,aZ,d,z,i+1⟩,by rw[Y],⟨k,V,r.t,O,T,F,H⟩,rfl,Z⟩
  unfold yG at f;simp only[hd] at f;rw[zj,ct] at f;refine ai.2 ⟨by simp;omega,⟨ds,(cK (nth b i)).rel⟩,rfl,k.s.1,ai.2 ⟨?_,?_⟩⟩
  ·rw[tB,dm,aC6,at3,at3];omega
  ·simp only[tB]
   rw[ae,at3,aC7];refine⟨fun c=>?_,fun c=>?_⟩
   ·rw[aD1 (show aZ<cM a by omega)] at f
    exact f
   ·have c: ¬ aZ<cM a:=by omega
    rw[aC9 c,aD0,aD0] at f;refine ai.2 ⟨by rw[at3,jG];omega,?_⟩;rw[OQ,ae];refine⟨fun e=>?_,fun e=>?_⟩
    ·rw[e,aD2,aD2] at f
     exact q a j v Q f
    ·rw[e,aD0,aD0] at f
     have B:(decide (0<=bu (cK (nth b i)).rel ds)&&decide (bu (cK (nth b i)).rel ds<((aI a).length:Int)))=true:=by
      rw[dm,o,aC6,at3,at3];exact C.1
     obtain⟨s1,s2,s3⟩:=qK k w v;have U:=Vv k w L v (by omega);have R:=ab5 k w L v (by omega);have X:=FX k w L v (by omega);have D:(aI (iJ ds b (nth b i) a)).length=(aI a).length:=by rw[dm,dm,s1.len,o]
     have N:atR ds (nth b i)<a.length:=by rw[o];exact C.2
     have u:=fun z=>q (iJ ds b (nth b i) a) z s1 X
     rw[D] at u;have hd:decide (((ag (nth (aI (a.set (atR ds (nth b i)) (eY (a.getD (atR ds (nth b i)) []) (dp ds b (cK (nth b i)) a)))) (atR ds (nth b i)))).length:Int)>((ag (nth (aI a) (atR ds (nth b i)))).length:Int))=decide ((a.getD (atR ds (nth b i)) []).length<(eY (a.getD (atR ds (nth b i)) []) (dp ds b (cK (nth b i)) a)).length):=by
      have F: ∀W:RL,(a.set (atR ds (nth b i)) W).getD (atR ds (nth b i)) []=W:=fun W=>by
       rw[List.getD_eq_getElem?_getD,List.getElem?_set_self N];rfl
      rw[kR,kR,eC,eC,F];exact decide_eq_decide.2 (by omega)
     refine ai.2 ⟨B,ai.2 ⟨B,?_,?_⟩,?_⟩
     all_goals
      refine⟨⟨ds,b,cK (nth b i),a⟩,rfl,U,(by refine⟨?_,?_,trivial⟩<;>first|exact trivial|rfl),?_⟩
      first
      |refine⟨(rws (a.getD (atR ds (nth b i)) []),rws (dp ds b (cK (nth b i)) a)),by rw[←kR];rfl,R,ai.2 ⟨B,?_⟩⟩
      |refine ai.2 ⟨B,⟨(rws (a.getD (atR ds (nth b i)) []),rws (dp ds b (cK (nth b i)) a)),by rw[←kR];rfl,R,ai.2 ⟨B,?_⟩⟩⟩
      simp only[iB,RM];change aq j (∃m,m<b.length - i/\eW MX o0 yG (fun x=>x.rs.length - x.i) K m (Nl ds b (iA g) (bP (aI a) (atR ds (nth b i)) (.ah 70 (rws (eY (a.getD (atR ds (nth b i)) []) (dp ds b (cK (nth b i)) a))))) (aI a).length aZ (IntKind.wrap .i64 ((i:Int)+1)) true)) (aW _ (∃m,m<b.length - i/\eW MX o0 yG (fun x=>x.rs.length - x.i) K m (Nl ds b (iA g) (bP (aI a) (atR ds (nth b i)) (.ah 70 (rws (eY (a.getD (atR ds (nth b i)) []) (dp ds b (cK (nth b i)) a))))) (aI a).length aZ (IntKind.wrap .i64 ((i:Int)+1)) (decide (((ag (nth (bP (aI a) (atR ds (nth b i)) (.ah 70 (rws (eY (a.getD (atR ds (nth b i)) []) (dp ds b (cK (nth b i)) a))))) (atR ds (nth b i)))).length:Int)>((ag (nth (aI a) (atR ds (nth b i)))).length:Int))))));rw[FB,hd];cases j with
      |true=>exact u true f
      |false=>exact ai.2 ⟨B,u _ f⟩
 ·unfold yG at f
  rw[aD3 (by simp only;omega)] at f;exact f
noncomputable def WV κ:=(Xm κ).loop (lGw _)
theorem yGw κ(x:R3) K:(a8 (WV κ).E 12 46 [eg x.ds x.rs, .ah 3 (iA x.g), .ak 0 0 (aI x.all).length, .int x.aZ] [nG x.all] K)=(
 ad (Pg.toProgram (Env.P (EB.E (Xm κ)))) 46 3=ad (Pg.toProgram (Env.P (EB.E (Xm κ)))) 46 3/\∃a,letI b:=ct a.ds a.rs a.g a.aZ (List.drop a.i a.rs) a.all a.more;Nl x.ds x.rs (iA x.g) (aI x.all) (List.length (aI x.all)) ↑(x.aZ) 0 false=MX a/\o0 a/\aq (zj a.ds a.rs a.g a.aZ (List.drop a.i a.rs) a.all) (K (AV.bool false) [nG (Prod.fst b)]) (K (AV.bool (Prod.snd b)) [nG (Prod.fst b)])):=by kernel_rfl
def RF(x:R3):=([eg x.ds x.rs, .ah 3 (iA x.g), .ak 0 0 (aI x.all).length, .int x.aZ],[nG x.all])
def Yx(x:R3):Out (AV×List Dn.Obj):= .one (.bool (ct x.ds x.rs x.g x.aZ x.rs x.all false).2,[nG (ct x.ds x.rs x.g x.aZ x.rs x.all false).1])
theorem cGw κ:bd (WV κ).E 12 46 (aM RF o0 Yx):=by
 refine aQ ?_;rintro⟨ds,e,g,aZ,b,d,i⟩ K a c
 replace c:K _ _:=c
 refine Eq.mpr (yGw κ _ K) ⟨rfl,⟨ds,e,g,aZ,b,_,0⟩,rfl,⟨a.p,a.A,a.t,a.l,a.n,a.g,Nat.zero_le _⟩,?_⟩
 grind [ae,uV]
noncomputable def Sh κ:=(WV κ).call (cGw _)
abbrev evS ds c xs a b aZ i n:=sp 67 [(2, .int aZ),(3, .ptr 0 0 [] 0),(8, .ak 1 0 (iM b).length),(11, .ak 2 0 n),(38, .ah 51 xs),(39, .int xs.length),(40, .int i)] [.box 25 (eg ds c), .row 35 (iM b), .row 51 a]
theorem xEa κ ds rs xs ALL gs aZ(i:Nat) I N K:(vc (Sh κ).E 12 19 none 0 (ad (Pr κ).toProgram 19 10) (evS ds rs xs ALL gs aZ i ALL.length) (bg (Sh κ).E 19 10 0 I N K))=(
 letI a:=↑i<(↑(xs.length):Int)
 aq (decide a) (aW (true&&decide a) (∃e1,([.ah 70 (ag (nth xs (Int.toNat ↑i)))],[])=RB e1/\vO e1/\aW (decide ((ALL.length+1+1)*
 25<=70368744177664)) (∃e0,e0<N/\I e0 (evS ds rs xs (List.take ALL.length ALL++[.ah 70 (rws (dk e1))]) gs aZ (IntKind.wrap .i64 (↑i+1)) (ALL.length+1))))) (K (.exit 1) (sp 67 [(2,AV.int aZ),(3,.ptr 0 0 [] 0),(8,.ak 1 0 (List.length (iM gs))),(11,.ak 2 0
 ALL.length)] [.box 25 (eg ds rs),.row 35 (iM gs),.row 51 ALL]))):=by kernel_rfl
structure ZO where
 ds:List AV
 rs:List AV
 xs:List AV
 gs:List (List Int)
 aZ:Int
 all:List RL
 i:Nat
abbrev UC(x:ZO):=evS x.ds x.rs x.xs (aI ((x.all.take x.i).map dk)) x.gs x.aZ x.i (aI ((x.all.take x.i).map dk)).length
structure InX(xs:List AV)(all:List RL):Prop where
 len:xs.length=all.length
 n:all.length<=100000
 a: ∀i,ag (nth xs i)=rws (all.getD i [])
 f: ∀L,L∈all->vO L
def Ib(x:ZO):=x.i<=x.xs.length/\InX x.xs x.all
def ah4(x:ZO):Out (Exit×S):= .one (.exit 1,sp 67 [(2, .int x.aZ),(3, .ptr 0 0 [] 0),(8, .ak 1 0 (iM x.gs).length),(11, .ak 2 0 (aI (x.all.map dk)).length)] [.box 25 (eg x.ds x.rs), .row 35 (iM x.gs),nG (x.all.map dk)])
theorem lEa κ:aU (Sh κ).E 12 19 10 (aG 0 UC Ib ah4):=by
 refine aC (fun x=>x.xs.length - x.i) ?_;rintro⟨ds,j,xs,k,aZ,b,i⟩ K ⟨o,c⟩ d;simp only at o c;rw[show(Sh κ).E.P=Pr κ from rfl];refine Eq.mpr (xEa κ ds j xs (aI ((b.take i).map dk)) k aZ i _ _ K) ?_;simp only[Int.toNat_natCast,List.take_length];have r:=c.n;have q:=c.len;rw[ae,at3,aC7];refine⟨fun h=>?_,fun h=>?_⟩
 ·have g:i<b.length:=by omega
  have p:(b.take (i+1)).map dk=(b.take i).map dk++[dk (b.getD i [])]:=by
   rw[List.take_add_one,List.map_append];simp[g,List.getD_eq_getElem?_getD]
  have m:(aI ((b.take i).map dk)).length<=100000:=by rw[dm,List.length_map,List.length_take];omega
  refine ai.2 ⟨by simp;omega,b.getD i [],by rw[c.a];rfl,c.f _ (km g),ai.2 ⟨by rw[at3];omega,_,?_,⟨ds,j,xs,k,aZ,b,i+1⟩,?_,⟨by simp only;omega,c⟩,rfl,d⟩⟩
  ·simp only;omega
  ·have e:aI ((b.take (i+1)).map dk)=aI ((b.take i).map dk)++[.ah 70 (rws (dk (b.getD i [])))]:=by rw[p,aI,List.map_append];rfl
   simp only[UC,e,aE1,List.length_singleton];rw[az (n:=(i:Int)+1) (by omega) (by omega)];rfl
 ·have l:b.take i=b:=List.take_of_length_le (by omega)
  simp only[l];exact d
noncomputable def WQ κ:=(Sh κ).loop (lEa _)
abbrev ewS ds c b g a aZ i n:=sp 67 [(2, .int aZ),(3, .ptr 0 0 [] 0),(11, .ak 1 0 n),(15, .ah 3 g),(50, .ak 2 0 (iM a).length),(51, .int (iM a).length),(52, .int i)] [.box 25 (eg ds c), .row 51 b, .row 35 (iM a)]
abbrev XV ds c b a aZ i n:=sp 67 [(2, .int aZ),(3, .ptr 0 0 [] 0),(11, .ak 1 0 n),(50, .ak 2 0 (iM a).length),(51, .int (iM a).length),(52, .int i)] [.box 25 (eg ds c), .row 51 b, .row 35 (iM a)]
structure AEw where
 ds:List AV
 rs:List AV
 gs:List (List Int)
 aZ:Nat
 all:List RL
 g:List Int
 i:Nat
 n:Nat
abbrev UD(x:AEw):=ewS x.ds x.rs (aI x.all) (iA x.g) x.gs x.aZ x.i (aI x.all).length
theorem xEw κ x I N K:(vc (WQ κ).E 12 19 none 0 (ad (Pr κ).toProgram 19 17) (UD x) (bg (WQ κ).E 19 17 0 I N K))=(
 letI a:=List.length (aI x.all)
 ∃e1,letI b:=ct e1.ds e1.rs e1.g e1.aZ e1.rs e1.all false;([eg x.ds x.rs,.ah 3 (iA x.g),.ak 0 0 a,AV.int ↑(x.aZ)],[nG x.all])=RF e1/\o0 e1/\aq (Prod.snd b) (∃e0,e0<N/\I e0 (ewS x.ds x.rs (aI (Prod.fst b)) (iA x.g) x.gs ↑(x.aZ) ↑(x.i) a)) (K (.exit 5) (XV x.ds x.rs (aI (Prod.fst b)) x.gs ↑(x.aZ) ↑(x.i) a))):=by kernel_rfl
theorem xM{ds e}(h:gB ds e)(i: ∀r,r∈e->Nj r=true){aZ}(k:aZ<=50) g: ∀xs a m,(∀r,r∈xs->r∈e)->dX ds a->cM a<=200000->cM (ct ds e g aZ xs a m).1<=200000
 |[],_,_,_,_,f=>f
 | r::xs,a,m,l,j,f=>by
  have d: ∀r,r∈xs->r∈e:=fun r b=>l r (by simp[b])
  have b:=l r (by simp);rw[ct];by_cases c:aZ<cM a
  ·grind
  ·rw[aC9 c]
   cases !g.contains _ with
   |true=>exact xM h i k g xs a m d j f
   |false=>exact xM h i k g xs _ _ d (qK h b j).1 (FX h b (i r b) j (by omega))
theorem Ap{ds b g aZ a}(h:aZ<cM a): ∀xs,(ct ds b g aZ xs a false).2=false
 |[]=>rfl
 |r::xs=>by grind [ct]
structure jS(ds rs:List AV)(aZ:Nat)(all:List RL):Prop where
 p:gB ds rs
 A:dX ds all
 t: ∀r,r∈rs->Nj r=true
 l:aZ<=50
 n:cM all<=200000
theorem jS.grow{ds b aZ a}(h:jS ds b aZ a) g:jS ds b aZ (ct ds b g aZ b a false).1:=
 ⟨h.p,(kZ h.p g _ _ _ _ (by simp) h.A).1,h.t,h.l,xM h.p h.t h.l g _ _ _ (by simp) h.A h.n⟩
theorem jS.loop{ds b aZ} g: ∀n {a},jS ds b aZ a->jS ds b aZ (eH ds b g aZ n a)
 |0,_,h=>h
 |n+1,a,h=>by
  rw[eH];cases(ct _ _ g _ _ _ _).2 with
  |true=>exact jS.loop g n (h.grow g)
  |false=>exact h.grow g
structure N1(x:AEw):Prop where
 o:jS x.ds x.rs x.aZ x.all
 g:x.g.length<=100000
 f:x.aZ+2<=x.n+cM x.all/\1<=x.n
def ah6(x:AEw):Out (Exit×S):= .one (.exit 5,XV x.ds x.rs (aI (eH x.ds x.rs x.g x.aZ x.n x.all)) x.gs x.aZ x.i (aI x.all).length)
theorem lEw κ:aU (WQ κ).E 12 19 17 (aG 0 UD N1 ah6):=by
 refine aC (fun x=>x.n) ?_;rintro⟨ds,b,j,aZ,a,g,i,n⟩ K ⟨h,k,r,s⟩ f;simp only at h k r s;rw[show(WQ κ).E.P=Pr κ from rfl];obtain⟨n,rfl⟩: ∃m,n=m+1:=⟨n - 1,by omega⟩
 have f:K (.exit 5) (XV ds b (aI (eH ds b g aZ (n+1) a)) j aZ i (aI a).length):=f;rw[eH] at f;obtain⟨q,y,u,_⟩:=kZ h.p g aZ b a false (fun _ o=>o) h.A;refine Eq.mpr (xEw κ ⟨ds,b,j,aZ,a,g,i,n+1⟩ _ _ K) ⟨⟨ds,b,g,aZ,a,false,0⟩,rfl,⟨h.p,h.A,h.t,h.l,h.n,k,Nat.zero_le _⟩,?_⟩;have d:(aI (ct ds b g aZ b a false).1).length=(aI a).length:=by rw[dm,dm,q.len,h.A.len]
 rw[ae];refine⟨fun e=>?_,fun e=>?_⟩
 ·have e:(ct ds b g aZ b a false).2=true:=e
  rw[e,aD2,←d] at f;have w:=(u e).resolve_left (by simp);have v: ¬ aZ<cM a:=fun c=>by rw[Ap c] at e;cases e
  refine⟨n,Nat.lt_succ_self n,⟨ds,b,j,aZ,(ct ds b g aZ b a false).1,g,i,n⟩,by simp only[UD,d],⟨h.grow g,k,by simp only;omega,by simp only;omega⟩,rfl,f⟩
 grind
noncomputable def Sf κ:=(WQ κ).loop (lEw _)
structure ZP where
 ds:List AV
 rs:List AV
 gs:List (List Int)
 aZ:Nat
 all:List RL
 i:Nat
abbrev Rr(x:ZP):=XV x.ds x.rs (aI x.all) x.gs x.aZ x.i (aI x.all).length
theorem xEf κ x I N K:(vc (Sf κ).E 12 19 none 0 (ad (Pr κ).toProgram 19 15) (Rr x) (bg (Sf κ).E 19 15 0 I N K))=(
 letI a:=↑(x.i)<(↑(List.length (iM x.gs)):Int)
 letI b:=Pg.toProgram (Env.P (EB.E (WQ κ)))
 aq (decide a) (aW (true&&decide a) (ad b 19 17=ad b 19 17/\∃e1,ewS x.ds x.rs (aI x.all) (ag (nth (iM x.gs) (0+Int.toNat ↑(x.i))))
 x.gs ↑(x.aZ) ↑(x.i) (List.length (aI x.all))=UD e1/\N1 e1/\∃e0,e0<N/\I e0 (XV e1.ds e1.rs (aI (eH e1.ds e1.rs e1.g e1.aZ e1.n
 e1.all)) e1.gs ↑(e1.aZ) (IntKind.wrap .i64 (↑(e1.i)+1)) (List.length (aI e1.all))))) (K (.exit 3) (sp 67 [(2,AV.int
 ↑(x.aZ)),(11,.ak 0 0 (List.length (aI x.all)))] [nG x.all]))):=by kernel_rfl
structure GI(x:ZP):Prop where
 o:jS x.ds x.rs x.aZ x.all
 g: ∀g,g∈x.gs->g.length<=100000
 i:x.i<=x.gs.length
 n:x.gs.length<=100000
def ah5(x:ZP):Out (Exit×S):= .one (.exit 3,sp 67 [(2, .int x.aZ),(11, .ak 0 0 (aI x.all).length)] [nG (dR x.ds x.rs x.aZ (x.gs.drop x.i) x.all)])
theorem OA a i h:ag (nth (iM a) i)=iA a[i]:=by
 grind [aV,iM,ag]
theorem lEf κ:aU (Sf κ).E 12 19 15 (aG 0 Rr GI ah5):=by
 refine aC (fun x=>x.gs.length - x.i) ?_;rintro⟨ds,f,b,aZ,a,i⟩ K ⟨h,j,o,m⟩ e;simp only at h j o m;rw[show(Sf κ).E.P=Pr κ from rfl];refine Eq.mpr (xEf κ ⟨ds,f,b,aZ,a,i⟩ _ _ K) ?_;simp only[Int.toNat_natCast,Nat.zero_add,BZ];have e:K (.exit 3) (sp 67 [(2, .int aZ),(11, .ak 0 0 (aI a).length)] [nG (dR ds f aZ (b.drop i) a)]):=e;rw[ae,at3,aC7];refine⟨fun c=>?_,fun c=>?_⟩
 ·have k:i<b.length:=by omega
  have g:=jS.loop b[i] 99 h;have d:(aI (eH ds f b[i] aZ 99 a)).length=(aI a).length:=by rw[dm,dm,g.A.len,h.A.len]
  rw[aD6 k] at e;rw[←d] at e;have p:=h.l;refine ai.2 ⟨by simp;omega,trivial,⟨ds,f,b,aZ,a,b[i],i,99⟩,by rw[OA b i k],⟨h,j _ (List.getElem_mem _),by simp only;omega,by simp only;omega⟩,_,?_,⟨ds,f,b,aZ,eH ds f b[i] aZ 99 a,i+1⟩,?_,⟨g,j,k,m⟩,rfl,e⟩
  ·simp only;omega
  ·simp only[Rr,d]
   rw[az (n:=(i:Int)+1) (by omega) (by omega)];rfl
 ·rw[aD3 (by omega)] at e
  exact e
noncomputable def BEf κ:=(Sf κ).loop (lEf _)
theorem yEv κ ds rs xs(aZ:Nat) K:(a8 (BEf κ).E 12 19 [eg ds rs, .ah 51 xs, .int aZ] [] K)=(
 letI a:=AV.int
 letI b:=AV.aH
 letI c:=AV.nil
 letI l:=Pg.toProgram (Env.P (EB.E (Sh κ)))
 letI m:=Pg.toProgram (Env.P (EB.E (Sf κ)))
 letI n:=K (b [c,a 2]) []
 letI p:=decide (↑aZ>(2147483647:Int))
 letI q:=decide (↑aZ<(1:Int))
 letI r:=K (b [c,a 90]) []
 letI s:=K (b [c,a 91]) []
 letI t:=List.all rs ei&&fS xs
 ∃e2,letI o:=ub e2.1 e2.2;([eg ds rs],[])=UG e2/\Di e2/\aq (decide (Prod.snd o=0)) (aq q n (aq p n (aW t (aq (!fT ds rs xs) r (ad l 19 10=ad l 19 10/\∃e1,letI f:=aI (List.map dk e1.all);evS ds rs xs [] (v7 e2.1 e2.2) ↑aZ 0 0=UC e1/\Ib e1/\ad m 19 15=ad m 19 15/\∃e0,letI g:=dR e0.ds e0.rs e0.aZ (List.drop e0.i e0.gs) e0.all;letI h:=List.length (aI e0.all);letI d:=List.take h (List.drop 0 (aI g));XV e1.ds e1.rs f e1.gs e1.aZ 0 (List.length f)=Rr e0/\GI e0/\aW (decide (List.length d<=100000)&&decide (jd d<=1000000000)) (aq (decide ((↑(jd d))>(↑(e0.aZ):Int))) s (K (b [.ak 0 0 h,a 0]) [nG g]))))))) (aq (Prod.snd o != 0) (K (b [c,a (Prod.snd o)]) []) (aq q n (aq p n (aW t (aq (!fT ds rs xs) r (ad l 19 10=ad l 19 10/\∃e1,letI i:=aI (List.map dk e1.all);sp 67 [(2,a ↑aZ),(3,.ptr 0 0 [] 0),(8,c),(11,.ak 1 0 0),(38,.ah 51 xs),(39,a ↑(xs.length)),(40,a 0)] [.box 25 (eg ds rs),.row 51 []]=UC e1/\Ib e1/\ad m 19 15=ad m 19 15/\∃e0,letI j:=dR e0.ds e0.rs e0.aZ (List.drop e0.i e0.gs) e0.all;letI k:=List.length (aI e0.all);letI e:=List.take k (List.drop 0 (aI j));XV e1.ds e1.rs i e1.gs e1.aZ 0 (List.length i)=Rr e0/\GI e0/\aW (decide (List.length e<=100000)&&decide (jd e<=1000000000)) (aq (decide ((↑(jd e))>(↑(e0.aZ):Int))) s (K (b [.ak 0 0 k,a 0]) [nG j]))))))))):=by kernel_rfl
theorem xQ{n m L}: ∀f done,(zG n m L f done).length<=f/\∀g,g∈zG n m L f done->g.length<=n
 |0,_=>⟨Nat.le_refl _,fun g a=>(nomatch a)⟩
 | f+1,done=>by
  rw[zG];cases decide (dL n m L done<0) with
  |true=>simp
  |false=>
   rw[aD0];obtain⟨c,b⟩:=xQ (n:=n) (m:=m) (L:=L) f (sa done (dY n m L (dL n m L done)));refine⟨by grind,fun g a=>?_⟩;rcases List.mem_cons.1 a with rfl|a
   ·exact Nat.le_trans (List.length_filter_le _ _) (by simp[iH])
   ·exact b g a
structure WE where
 ds:List AV
 rs:List AV
 xs:List AV
 all:List RL
 aZ:Nat
def ke ds b(a:List _) aZ:=dR ds b aZ (v7 ds b) (a.map dk)
def tJ ds a xs b aZ:=bif !decide ((ub ds a).2=0) then(ub ds a).2 else bif !fT ds a xs then 90 else bif decide (aZ<cM (ke ds a b aZ)) then 91 else 0
def MU(x:WE):List AV×List Dn.Obj:=([eg x.ds x.rs, .ah 51 x.xs, .int x.aZ],[])
structure nM(x:WE):Prop where
 s:oN x.ds x.rs
 f:(x.rs.all ei&&fS x.xs)=true
 i:fT x.ds x.rs x.xs=true->InX x.xs x.all
 l:1<=x.aZ/\x.aZ<=50
 o:(ub x.ds x.rs).2=0->fT x.ds x.rs x.xs=true->jS x.ds x.rs x.aZ (x.all.map dk)
def VN(x:WE):Out (AV×List Dn.Obj):= .aq (decide (tJ x.ds x.rs x.xs x.all x.aZ=0))
 (.one (.aH [.ak 0 0 (aI (ke x.ds x.rs x.all x.aZ)).length, .int 0],[nG (ke x.ds x.rs x.all x.aZ)]))
 (.one (.aH [.nil, .int (tJ x.ds x.rs x.xs x.all x.aZ)],[]))
theorem jS.eval{ds b aZ}: ∀c {a},jS ds b aZ a->jS ds b aZ (dR ds b aZ c a)
 |[],_,h=>h
 |g::c,_,h=>jS.eval c (jS.loop g _ h)
theorem cEv κ:bd (BEf κ).E 12 19 (aM MU nM VN):=by
 refine aQ ?_;rintro⟨ds,b,xs,a,aZ⟩ K q d;have v:=q.f;have r:=q.i;have y:=q.l;have w:=q.o;simp only at v r y w;have d:aq (decide (tJ ds b xs a aZ=0)) (K (.aH [.ak 0 0 (aI (ke ds b a aZ)).length, .int 0]) [nG (ke ds b a aZ)]) (K (.aH [.nil, .int (tJ ds b xs a aZ)]) []):=d;refine Eq.mpr (yEv κ ds b xs aZ K) ⟨(ds,b),rfl,q.s,ae.2 ⟨fun e=>?_,fun e=>?_⟩⟩
 ·have e:(ub ds b).2=0:=of_decide_eq_true e
  unfold tJ at d;rw[aD1 e,Bool.not_true,aD0] at d;refine ae.2 ⟨fun c=>?_,fun _=>ae.2 ⟨fun c=>?_,fun _=>ai.2 ⟨v,ae.2 ⟨fun c=>?_,fun c=>?_⟩⟩⟩⟩
  ·have:=of_decide_eq_true c;omega
  ·have:=of_decide_eq_true c;omega
  ·rw[c] at d;exact d
  ·rw[c,aD0] at d
   have j:=w e (by simpa using c);have r:=r (by simpa using c);have h:=jS.eval (v7 ds b) j;have t:=tV j.p;have x:=xQ (n:=ds.length) (m:=qQ ds b) (L:=B0 ds b);have k:(aI (ke ds b a aZ)).length=(aI (a.map dk)).length:=by
    rw[dm,dm,show(ke ds b a aZ).length=_ from h.A.len,j.A.len]
   refine⟨rfl,⟨ds,b,xs,v7 ds b,aZ,a,0⟩,rfl,⟨Nat.zero_le _,r⟩,rfl,⟨ds,b,v7 ds b,aZ,a.map dk,0⟩,rfl,⟨j,fun g u=>Nat.le_trans ((x _ _).2 g u) (by omega),Nat.zero_le _,Nat.le_trans (x _ _).1 ?_⟩,?_⟩
   ·have:=DJ ds.length []
    omega
   ·have B:List.take (aI (a.map dk)).length (List.drop 0 (aI (ke ds b a aZ)))=aI (ke ds b a aZ):=by rw[aD5,←k,List.take_length]
    have z:(aI (ke ds b a aZ)).length<=60:=by rw[dm,show(ke ds b a aZ).length=_ from h.A.len];exact t
    have C:cM (ke ds b a aZ)<=200000:=h.n;show aW (decide ((List.take (aI (a.map dk)).length (List.drop 0 (aI (ke ds b a aZ)))).length<=100000)&&decide (jd (List.take (aI (a.map dk)).length (List.drop 0 (aI (ke ds b a aZ))))<=1000000000)) (aq (decide ((jd (List.take (aI (a.map dk)).length (List.drop 0 (aI (ke ds b a aZ)))):Int)>aZ)) (K (.aH [.nil, .int 91]) []) (K (.aH [.ak 0 0 (aI (a.map dk)).length, .int 0]) [nG (ke ds b a aZ)]))
    rw[B,tB];refine ai.2 ⟨by rw[aC6,at3,at3];omega,ae.2 ⟨fun c=>?_,fun c=>?_⟩⟩
    ·have c:=of_decide_eq_true c
     rw[aD1 (show aZ<cM (ke ds b a aZ) by omega)] at d;exact d
    ·have c:=of_decide_eq_false c
     rw[aC9 (show ¬ aZ<cM (ke ds b a aZ) by omega),aD0,k] at d;exact d
 ·have e:(ub ds b).2≠0:=of_decide_eq_false e
  unfold tJ at d;rw[aC9 e,Bool.not_false,aD2,aC9 e] at d;refine ae.2 ⟨fun _=>d,fun c=>absurd c (by simpa using e)⟩
noncomputable def WR κ:=((BEf κ).call (cEv _)).calm [19]
def Cf v:=decide (((toStr (af v 2)).size:Int)>1000)
abbrev UJ(x:List _×Nat):=sp 17 [(0, .ah 72 x.1),(3, .int x.2)] []
theorem xLg κ x I n K:(vc (WR κ).E 12 30 none 0 (ad (Pr κ).toProgram 30 2) (UJ x) (bg (WR κ).E 30 2 0 I n K))=(
 letI a:=↑(x.2)<(↑(x.1.length):Int)
 aq (decide a) (aW (true&&decide a) (aq (decide ((↑(ByteArray.size (toStr (af (nth x.1 (Int.toNat ↑(x.2))) 2))))>(1000:Int))) (K .ret
 (sp 17 [(2,AV.int 1)] [])) (∃e0,e0<n/\I e0 (sp 17 [(0,.ah 72 x.1),(3,AV.int (IntKind.wrap .i64 (↑(x.2)+1)))] []))))
 (K (.exit 0) (sp 17 [] []))):=by kernel_rfl
def ai7(x:List AV×Nat):Out (Exit×S):= .aq ((x.1.drop x.2).any Cf) (.one (.ret,sp 17 [(2, .int 1)] [])) (.one (.exit 0,sp 17 [] []))
theorem lLg κ:aU (WR κ).E 12 30 2 (aG 0 UJ (fun x=>x.2<=x.1.length/\x.1.length<=100000000) ai7):=by
 refine aC (fun x=>x.1.length - x.2) ?_;rintro⟨r,i⟩ K ⟨f,d⟩ b;simp only at f d;rw[show(WR κ).E.P=Pr κ from rfl];refine Eq.mpr (xLg κ (r,i) _ _ K) ?_;simp only[Int.toNat_natCast];have b:aq ((r.drop i).any Cf) (K .ret (sp 17 [(2, .int 1)] [])) (K (.exit 0) (sp 17 [] [])):=b;rw[ae,at3,aC7];refine⟨fun h=>?_,fun h=>?_⟩
 ·have c:i<r.length:=by omega
  have a:=b;rw[aD6 c,List.any_cons,←aV r i c] at a;refine ai.2 ⟨by simp;omega,ae.2 ⟨fun e=>?_,fun e=>⟨_,?_,(r,i+1),?_,⟨c,d⟩,rfl,?_⟩⟩⟩
  ·rw[show Cf (nth r i)=true from e] at a;exact a
  ·simp only;omega
  ·simp only[UJ]
   grind [az]
  ·rw[show Cf (nth r i)=false from e,Bool.false_or] at a;exact a
 ·rw[aD3 (by omega)] at b
  exact b
noncomputable def WX κ:=(WR κ).loop (lLg _)
theorem yLg κ r K:(a8 (WX κ).E 12 30 [.ah 72 r] [] K)=(
 letI a:=Pg.toProgram (Env.P (EB.E (WR κ)))
 ad a 30 2=ad a 30 2/\∃e0,sp 17 [(0,.ah 72 r),(3,AV.int 0)] []=UJ e0/\(e0.2<=e0.1.length/\e0.1.length<=100000000)/\aq
 (List.any (List.drop e0.2 e0.1) Cf) (K (AV.int 1) []) (K (AV.int 0) [])):=by kernel_rfl
def gLg:List AV->Option (Bool×AV)
 |[.ah 72 r]=>some (decide (r.length<=100000000), .int (bif r.any Cf then 1 else 0))
 |_=>none
theorem pLg κ:cm (WX κ).E 12 30 gLg:=by
 intro b x a;unfold gLg at a;split at a
 ·rename_i r
  simp   at a;obtain⟨c,rfl⟩:=a;refine⟨_,rfl,rfl,Eq.mpr (yLg κ r _) ⟨rfl,(r,0),rfl,by grind,?_⟩⟩;rw[aD5];cases r.any _<;>exact rfl
 grind
noncomputable def WZ κ:=EB.Hf ((WX κ).pure (pLg _)) [30]
theorem mC{ds a}(h:oA ds a=true):oN ds a:=by
 simp only[oA,aC6,at3] at h;obtain⟨_,c,d,f⟩:=h;refine⟨by simp only[aX];omega,by simp only[aX];omega,fun x g=>?_⟩;have b:=Be (a.map y1) 2000 (by omega) c (y1 x) (by grind);have e:y1 x=aL (cK x):=rfl;rw[e,fR] at b;refine⟨?_,by omega⟩
 grind [H5,cK,A9,aL]
structure ALk where
 xs:List AV
 ds:List AV
 rs:List AV
 i:Nat
 n:Nat
 k:Nat
abbrev Y3(x:ALk):=sp 91 [(1, .ah 51 x.xs),(2, .ptr 0 0 [] 0),(5, .int x.i),(6, .int x.n),(7, .int x.k)] [.box 25 (eg x.ds x.rs)]
theorem xLk κ x I n K:(vc (WZ κ).E 12 12 none 0 (ad (Pr κ).toProgram 12 8) (Y3 x) (bg (WZ κ).E 12 8 0 I n K))=(
 letI a:=IntKind.wrap .i64
 letI b:=AV.ptr 0 0 []
 letI c:=AV.int
 letI e:=ag (af (nth x.rs (Int.toNat ↑(x.i))) 1)
 letI f:=true&&decide (↑(x.i)<(↑(x.rs.length):Int))
 letI g:=a (↑(x.k)+1)
 letI h:=↑(x.k)<(↑(List.length e):Int)
 letI d:=eg x.ds x.rs
 aW f (aq (decide h) (aW f (aW (true&&decide h) (aq (toInt (af (nth e (Int.toNat ↑(x.k))) 0)==1) (∃e0,e0<n/\I e0 (sp 91
 [(1,.ah 51 x.xs),(2,b 0),(5,c ↑(x.i)),(6,c (a (↑(x.n)+1))),(7,c g)]
 [.box 25 d])) (∃e0,e0<n/\I e0 (sp 91 [(1,.ah 51 x.xs),(2,b 0),(5,c ↑(x.i)),(6,c ↑(x.n)),(7,
 c g)] [.box 25 d]))))) (K (.exit 2) (sp 91 [(1,.ah 51 x.xs),(2,b 0),(5,c ↑(x.i)),(6,c ↑(x.n))]
 [.box 25 d])))):=by kernel_rfl
def QN(x:ALk):=x.i<x.rs.length/\x.k<=(ag (af (nth x.rs x.i) 1)).length/\(ag (af (nth x.rs x.i) 1)).length<=100000/\x.n<=x.k
def P6(x:ALk):Out (Exit×S):= .one (.exit 2,sp 91 [(1, .ah 51 x.xs),(2, .ptr 0 0 [] 0),(5, .int x.i),(6, .int (x.n+xm ((ag (af (nth x.rs x.i) 1)).drop x.k):Nat))] [.box 25 (eg x.ds x.rs)])
theorem lLk κ:aU (WZ κ).E 12 12 8 (aG 0 Y3 QN P6):=by
 refine aC (fun x=>(ag (af (nth x.rs x.i) 1)).length - x.k) ?_;rintro⟨xs,ds,b,i,n,k⟩ K ⟨d,j,f,g⟩ a;simp only at d j f g;rw[show(WZ κ).E.P=Pr κ from rfl];refine Eq.mpr (xLk κ ⟨xs,ds,b,i,n,k⟩ _ _ K) ?_;simp only[Int.toNat_natCast];refine ai.2 ⟨by simp;omega,?_⟩;rw[ae,at3,aC7];simp only[P6,Out.run] at a;refine⟨fun h=>ai.2 ⟨by simp;omega,ai.2 ⟨by simp;omega,?_⟩⟩,fun h=>?_⟩
 ·have c:k<(ag (af (nth b i) 1)).length:=by omega
  rw[az (n:=(k:Int)+1) (by omega) (by omega),az (n:=(n:Int)+1) (by omega) (by omega)];have hd:xm ((ag (af (nth b i) 1)).drop k)=(bif toInt (af (nth (ag (af (nth b i) 1)) k) 0)==1 then 1 else 0)+xm ((ag (af (nth b i) 1)).drop (k+1)):=by
   rw[aD6 c,←aV _ k c];unfold xm
   grind
  rw[hd] at a;rw[ae];refine⟨fun e=>?_,fun e=>?_⟩
  ·rw[e,aD2] at a
   refine⟨_,?_,⟨xs,ds,b,i,n+1,k+1⟩,rfl,⟨d,c,f,by simp only;omega⟩,rfl,?_⟩
   ·simp only;omega
   ·simp only[P6,Out.run]
    rw[Nat.add_assoc];exact a
  ·rw[e,aD0,Nat.zero_add] at a
   refine⟨_,?_,⟨xs,ds,b,i,n,k+1⟩,rfl,⟨d,c,f,by simp only;omega⟩,rfl,a⟩;simp only;omega
 ·rw[aD3 (by omega)] at a
  exact a
noncomputable def WY κ:=(WZ κ).loop (lLk _)
abbrev ap0 xs ds a(i:Nat):=sp 91 [(1, .ah 51 xs),(2, .ptr 0 0 [] 0),(5, .int i)] [.box 25 (eg ds a)]
theorem xLr κ xs ds rs i I n K:(vc (WY κ).E 12 12 none 0 (ad (Pr κ).toProgram 12 4) (ap0 xs ds rs i) (bg (WY κ).E 12 4 0 I n K))=(
 letI a:=AV.int
 letI b:=Pg.toProgram (Env.P (EB.E (WZ κ)))
 aq (decide (↑i<(↑(rs.length):Int))) (ad b 12 8=ad b 12 8/\∃e1,sp 91 [(1,.ah 51 xs),(2,.ptr 0 0 [] 0),(5,a ↑i),
 (6,a 0),(7,a 0)] [.box 25 (eg ds rs)]=Y3 e1/\QN e1/\aq (decide ((↑(e1.n+xm (List.drop e1.k (ag (af (nth e1.rs e1.i) 1)))))>(3:
 Int))) (K .ret (sp 91 [(4,a 0)] [])) (∃e0,e0<n/\I e0 (sp 91 [(1,.ah 51 e1.xs),(2,.ptr 0 0 [] 0),(5,a (IntKind.wrap
 .i64 (↑(e1.i)+1)))] [.box 25 (eg e1.ds e1.rs)]))) (K (.exit 0) (sp 91 [(1,.ah 51 xs)] []))):=by kernel_rfl
structure ALr where
 xs:List AV
 ds:List AV
 rs:List AV
 i:Nat
abbrev Wj(x:ALr):=ap0 x.xs x.ds x.rs x.i
def QO(x:ALr):=x.i<=x.rs.length/\x.rs.length<=100000/\∀r,r∈x.rs->(ag (af r 1)).length<=100000
def P7(x:ALr):Out (Exit×S):= .aq ((x.rs.drop x.i).all Nj) (.one (.exit 0,sp 91 [(1, .ah 51 x.xs)] [])) (.one (.ret,sp 91 [(4, .int 0)] []))
theorem lLr κ:aU (WY κ).E 12 12 4 (aG 0 Wj QO P7):=by
 refine aC (fun x=>x.rs.length - x.i) ?_;rintro⟨xs,ds,a,i⟩ K ⟨j,f,d⟩ b;simp only at j f d;rw[show(WY κ).E.P=Pr κ from rfl];refine Eq.mpr (xLr κ xs ds a i _ _ K) ?_;simp only[P7,Out.run,ae] at b;rw[ae,at3,aC7];refine⟨fun h=>?_,fun h=>?_⟩
 ·have c:i<a.length:=by omega
  have g:nth a i∈a:=by rw[aV _ _ c];exact List.getElem_mem _
  rw[aD6 c,←aV _ i c,aE3] at b;refine⟨rfl,⟨xs,ds,a,i,0,0⟩,rfl,⟨c,Nat.zero_le _,d _ g,Nat.le_refl _⟩,?_⟩;simp only[aD5,Nat.zero_add];rw[az (n:=(i:Int)+1) (by omega) (by omega),ae,at3,aC7];refine⟨fun e=>b.2 ?_,fun e=>⟨_,?_,⟨xs,ds,a,i+1⟩,rfl,⟨c,f,d⟩,rfl,?_⟩⟩
  ·rw[show Nj (nth a i)=false from aC9 (by omega),Bool.false_and]
  ·simp only;omega
  ·simp only[P7,Out.run,ae]
   rw[show Nj (nth a i)=true from aD1 (by omega),aE2] at b;exact b
 ·rw[aD3 (by omega)] at b
  exact b.1 rfl
noncomputable def W0 κ:=(WY κ).loop (lLr _)
structure Vf where
 xs:List AV
 n:Nat
 i:Nat
 k:Nat
abbrev UK(x:Vf):=sp 91 [(1, .ah 51 x.xs),(8, .int x.n),(9, .int x.i),(10, .int x.k)] []
theorem xLv κ x I n K:(vc (W0 κ).E 12 12 none 0 (ad (Pr κ).toProgram 12 22) (UK x) (bg (W0 κ).E 12 22 0 I n K))=(
 letI a:=AV.int
 letI b:=ag (nth x.xs (Int.toNat (↑(x.i):Int)))
 letI c:=true&&decide ((↑(x.i):Int)<(↑(x.xs.length):Int))
 letI d:=(↑(x.k):Int)<(↑(List.length b):Int)
 letI e:=ag (nth b (Int.toNat (↑(x.k):Int)))
 aW c (aq (decide d) (aW c (aW (true&&decide d) (aW (decide (List.length e<=100000000)) (aq ((bif List.any e Cf then(1:Int) else(0:Int))==(1:
 Int)) (K Exit.ret (sp 91 [(4,a 0)] [])) (∃(e0:Nat),e0<n/\I e0 (sp 91 [(1,AV.ah 51 x.xs),(8,a (↑(x.n):Int)),(9,a (↑(x.i):Int)),
 (10,a (IntKind.wrap IntKind.i64 ((↑(x.k):Int)+(1:Int))))] [])))))) (K (Exit.exit 6) (sp 91 [(1,AV.ah 51 x.xs),(8,a (↑(x.n):Int)),(9,
 a (↑(x.i):Int))] [])))):=by kernel_rfl
def L1 r:=(ag r).any Cf
def QP(x:Vf):=x.i<x.xs.length/\x.k<=(ag (nth x.xs x.i)).length/\fS x.xs=true
def ai8(x:Vf):Out (Exit×S):= .aq (((ag (nth x.xs x.i)).drop x.k).any L1) (.one (.ret,sp 91 [(4, .int 0)] [])) (.one (.exit 6,sp 91 [(1, .ah 51 x.xs),(8, .int x.n),(9, .int x.i)] []))
theorem lLv κ:aU (W0 κ).E 12 12 22 (aG 0 UK QP ai8):=by
 refine aC (fun x=>(ag (nth x.xs x.i)).length - x.k) ?_;rintro⟨xs,n,i,k⟩ K ⟨f,j,d⟩ b;simp only at f j d;rw[show(W0 κ).E.P=Pr κ from rfl];refine Eq.mpr (xLv κ ⟨xs,n,i,k⟩ _ _ K) ?_;simp only[Int.toNat_natCast];have g:=nk d i;have l:=kj g;have b:aq (((ag (nth xs i)).drop k).any L1) (K .ret (sp 91 [(4, .int 0)] [])) (K (.exit 6) (sp 91 [(1, .ah 51 xs),(8, .int n),(9, .int i)] [])):=b;refine ai.2 ⟨by simp;omega,?_⟩;rw[ae,at3,aC7];refine⟨fun h=>?_,fun h=>?_⟩
 ·have c:k<(ag (nth xs i)).length:=by omega
  have a:=b;rw[aD6 c,List.any_cons,←aV _ k c] at a;refine ai.2 ⟨by simp;omega,ai.2 ⟨by simp;omega,ai.2 ⟨aD1 (mg g k),?_⟩⟩⟩;cases e:(ag (nth (ag (nth xs i)) k)).any Cf with
  |true=>
   rw[show L1 (nth (ag (nth xs i)) k)=true from e] at a;exact a
  | false=>
   rw[show L1 (nth (ag (nth xs i)) k)=false from e,Bool.false_or] at a;refine⟨_,?_,⟨xs,n,i,k+1⟩,?_,⟨f,c,d⟩,rfl,a⟩
   ·simp only;omega
   ·simp only[UK]
    rw[az (n:=(k:Int)+1) (by omega) (by omega)];rfl
 ·rw[aD3 (by omega)] at b
  exact b
noncomputable def W1 κ:=(W0 κ).loop (lLv _)
abbrev UL(x:Vf):=sp 91 [(1, .ah 51 x.xs),(8, .int x.n),(9, .int x.i)] []
theorem xLw κ x I n K:(vc (W1 κ).E 12 12 none 0 (ad (Pr κ).toProgram 12 16) (UL x) (bg (W1 κ).E 12 16 0 I n K))=(
 letI a:=IntKind.wrap .i64
 letI b:=AV.int
 letI c:=↑(x.n)+(↑(List.length (ag (nth x.xs (Int.toNat ↑(x.i))))):Int)
 letI d:=↑(x.i)<(↑(x.xs.length):Int)
 letI e:=K .ret (sp 91 [(4,b 0)] [])
 letI f:=Pg.toProgram (Env.P (EB.E (W0 κ)))
 aq (decide d) (aW (true&&decide d) (aq (decide (a c>20)) e (ad f 12 22=ad f 12 22/\∃e1,sp 91 [(1,.ah 51
 x.xs),(8,b (a c)),(9,b ↑(x.i)),(10,b 0)] []=UK e1/\QP e1/\aq (List.any (List.drop e1.k (ag (nth e1.xs
 e1.i))) L1) e (∃e0,e0<n/\I e0 (sp 91 [(1,.ah 51 e1.xs),(8,b ↑(e1.n)),(9,b (a (↑(e1.i)+1)))] []))))) (K (.exit 4) (sp 91 [] []))):=by kernel_rfl
def BQ:List AV->Nat->Bool
 |[],_=>true
 |x::xs,n=>decide (n+(ag x).length<=20)&&(!(ag x).any L1&&BQ xs (n+(ag x).length))
def QQ(x:Vf):=x.i<=x.xs.length/\x.n<=20/\fS x.xs=true
def ai9(x:Vf):Out (Exit×S):= .aq (BQ (x.xs.drop x.i) x.n) (.one (.exit 4,sp 91 [] [])) (.one (.ret,sp 91 [(4, .int 0)] []))
theorem lLw κ:aU (W1 κ).E 12 12 16 (aG 0 UL QQ ai9):=by
 refine aC (fun x=>x.xs.length - x.i) ?_;rintro⟨xs,n,i,k⟩ K ⟨m,o,b⟩ d;simp only at m o b;rw[show(W1 κ).E.P=Pr κ from rfl];refine Eq.mpr (xLw κ ⟨xs,n,i,k⟩ _ _ K) ?_;simp only[Int.toNat_natCast];have p:=nk b i;have q:=kj p;have l:xs.length<=100000000:=by simp only[fS,aC6,at3] at b;exact b.1
 have d:aq (BQ (xs.drop i) n) (K (.exit 4) (sp 91 [] [])) (K .ret (sp 91 [(4, .int 0)] [])):=d;rw[ae,at3,aC7];refine⟨fun h=>?_,fun h=>?_⟩
 ·have f:i<xs.length:=by omega
  have a:=d;rw[aD6 f,←aV xs i f,BQ] at a;have g:=az (n:=(n:Int)+(ag (nth xs i)).length) (by omega) (by omega);refine ai.2 ⟨by simp;omega,ae.2 ⟨fun c=>?_,fun c=>⟨trivial,⟨xs,n+(ag (nth xs i)).length,i,0⟩,by rw[g];rfl,⟨f,Nat.zero_le _,b⟩,?_⟩⟩⟩
  all_goals
   have j:=c
   first
   |have c:=of_decide_eq_true j
    rw[g] at c
   |have c:=of_decide_eq_false j
    rw[g] at c
  ·rw[aC9 (show ¬ n+(ag (nth xs i)).length<=20 by omega),Bool.false_and] at a
   exact a
  ·rw[aD1 (show n+(ag (nth xs i)).length<=20 by omega),aE2] at a
   simp only[aD5];rw[ae];refine⟨fun e=>?_,fun e=>?_⟩
   ·rw[e] at a;exact a
   ·rw[e,Bool.not_false,aE2] at a
    refine⟨_,?_,⟨xs,n+(ag (nth xs i)).length,i+1,k⟩,?_,⟨f,by simp only;omega,b⟩,rfl,a⟩
    ·simp only;omega
    ·simp only[UL]
     rw[az (n:=(i:Int)+1) (by omega) (by omega)];rfl
 ·rw[aD3 (by omega)] at d
  exact d
noncomputable def BLw κ:=(W1 κ).loop (lLw _)
theorem yLw κ ds rs xs K:(a8 (BLw κ).E 12 12 [eg ds rs, .ah 51 xs] [] K)=(
 letI a:=AV.int
 letI b:=Pg.toProgram (Env.P (EB.E (WY κ)))
 letI c:=Pg.toProgram (Env.P (EB.E (W1 κ)))
 aW (decide (ds.length<=9223372036854775807)&&List.all ds fun(e0:AV)=>decide (List.length (ag (af e0 1))<=9223372036854775807)) (aq ((bif oA ds rs then
 (1:Int) else(0:Int))==(0:Int)) (K (a 0) []) (aq (decide ((↑(rs.length):Int)>(8:Int))) (K (a 0) []) (aq (decide ((↑(xs.length):Int)>
 (60:Int))) (K (a 0) []) (ad b 12 4=ad b 12 4/\∃(e1:ALr),sp 91 [(1,AV.ah 51 xs),(2,AV.ptr 0 0 [] 0),(5,a 0)] [Obj.box 25 (eg ds rs)]=
 Wj e1/\QO e1/\aq (List.all (List.drop e1.i e1.rs) Nj) (ad c 12 16=ad c 12 16/\∃(e0:Vf),sp 91 [(1,AV.ah 51 e1.xs),(8,a 0),(9,a 0)] []=
 UL e0/\QQ e0/\aq (BQ (List.drop e0.i e0.xs) e0.n) (K (a 1) []) (K (a 0) [])) (K (a 0) [])))))):=by kernel_rfl
def lI ds a xs:=oA ds a&&(decide (a.length<=8)&&(decide (xs.length<=60)&&(a.all Nj&&BQ xs 0)))
def gLw:List AV->Option (Bool×AV)
 |[.agg [.ah 43 ds, .ah 48 a], .ah 51 xs]=>some (decide (ds.length<=aX)&&ds.all (fun d=>decide ((ag (af d 1)).length<=aX))&&fS xs, .int (bif lI ds a xs then 1 else 0))
 |_=>none
theorem pLw κ:cm (BLw κ).E 12 12 gLw:=by
 intro f x b;unfold gLw at b;split at b
 ·rename_i ds a xs
  simp only[aC8,aD4] at b;obtain⟨c,rfl⟩:=b;rw[aC6] at c;obtain⟨c,g⟩:=c;refine⟨_,rfl,rfl,?_⟩;refine Eq.mpr (yLw κ ds a xs _) ?_;refine ai.2 ⟨c,?_⟩;unfold lI;cases h:oA ds a with
  |false=>exact rfl
  | true=>
   rw[aE2];refine ae.2 ⟨fun e=>absurd e (by decide),fun _=>?_⟩;rw[ae,at3,aC7];refine⟨fun e=>?_,fun e=>?_⟩
   ·rw[aC9 (show ¬ a.length<=8 by omega)];rfl
   ·rw[aD1 (show a.length<=8 by omega),aE2]
    rw[ae,at3,aC7];refine⟨fun e=>?_,fun e=>⟨rfl,⟨xs,ds,a,0⟩,rfl,⟨Nat.zero_le _,by show a.length<=100000;omega,fun r i=>(mC h).2.2 r i|>.2⟩,?_⟩⟩
    ·rw[aC9 (show ¬ xs.length<=60 by omega)];rfl
    ·rw[aD1 (show xs.length<=60 by omega),aE2,aD5]
     rw[ae];refine⟨fun d=>⟨rfl,⟨xs,0,0,0⟩,rfl,⟨Nat.zero_le _,Nat.zero_le _,g⟩,?_⟩,fun d=>?_⟩
     ·rw[d,aE2,aD5]
      cases BQ xs 0<;>exact rfl
     ·rw[d];rfl
 ·cases b
noncomputable def Zt κ:=(BLw κ).pure (pLw _)
end Go.Proofs.YtioeffnadipbaaaGreatDoor
namespace Go.Proofs.YtioeffnadipbaaaGreatDoor
open Go Go.Dn Go.Rl Go.Proofs
attribute [local irreducible] a8 vc
set_option maxRecDepth 20000
structure K6 where
 A:List AV
 i:Nat
 k:Nat
abbrev UY(x:K6):=sp 53 [(0, .ah 70 x.A),(1, .ah 70 x.A),(5, .int x.i),(6, .int x.k)] []
theorem xSe κ x I n K:(vc (Zt κ).E 12 16 none 0 (ad (Pr κ).toProgram 16 9) (UY x) (bg (Zt κ).E 16 9 0 I n K))=(
 letI b:=true&&decide (↑(x.i)<(↑(x.A.length):Int))
 letI d:=ag (nth x.A (Int.toNat ↑(x.i)))
 letI a:=nth d (Int.toNat ↑(x.k))
 letI c:=↑(x.k)<(↑(List.length d):Int)
 aW b (aq (decide c) (aW b (aW (true&&decide c) (aW b (aW (true&&decide c) (aq (!(Dn.toBool (af a 0)==Dn.toBool (af a 0)&&(toInt (af a 1)==
 toInt (af a 1)&&(ByteArray.toList (toStr (af a 2))==ByteArray.toList (toStr (af a 2))&&true)))) (K .ret (sp 53 [(4,AV.bool false)] [])) (∃e0,e0<n/\I e0 (sp 53 [(0,.ah 70 x.A),(1,.ah 70 x.A),(5,AV.int ↑(x.i)),(6,AV.int (IntKind.wrap .i64 (↑(x.k)+1)))] []))))))) (K (.exit 2) (sp 53 [(0,.ah 70 x.A),(1,.ah 70 x.A),(5,AV.int ↑(x.i))] [])))):=by kernel_rfl
def QX(x:K6):=x.i<x.A.length/\x.k<=(ag (nth x.A x.i)).length/\(ag (nth x.A x.i)).length<=100000000
def ak2(x:K6):Out (Exit×S):= .one (.exit 2,sp 53 [(0, .ah 70 x.A),(1, .ah 70 x.A),(5, .int x.i)] [])
theorem lSe κ:aU (Zt κ).E 12 16 9 (aG 0 UY QX ak2):=by
 refine aC (fun x=>(ag (nth x.A x.i)).length - x.k) ?_;rintro⟨A,i,k⟩ K ⟨e,f,d⟩ c;simp only at e f d;refine Eq.mpr (xSe κ ⟨A,i,k⟩ _ _ K) ?_;simp only[Int.toNat_natCast,beq_self_eq_true,Bool.and_self,Bool.not_true];have a:(true&&decide ((i:Int)<(A.length:Int)))=true:=by simp;omega
 refine ai.2 ⟨a,?_⟩;rw[ae,at3,aC7];refine⟨fun h=>?_,fun h=>c⟩;have b:(true&&decide ((k:Int)<((ag (nth A i)).length:Int)))=true:=by simp;omega
 refine ai.2 ⟨a,ai.2 ⟨b,ai.2 ⟨a,ai.2 ⟨b,_,?_,⟨A,i,k+1⟩,?_,⟨e,by simp only;omega,d⟩,rfl,c⟩⟩⟩⟩
 ·simp only;omega
 ·simp only[UY]
  grind [az]
noncomputable def Zy κ:=(Zt κ).loop (lSe _)
abbrev Rz(x:K6):=sp 53 [(0, .ah 70 x.A),(1, .ah 70 x.A),(5, .int x.i)] []
theorem xSf κ x I n K:(vc (Zy κ).E 12 16 none 0 (ad (Pr κ).toProgram 16 4) (Rz x) (bg (Zy κ).E 16 4 0 I n K))=(
 letI a:=↑(x.i)<(↑(x.A.length):Int)
 letI b:=List.length (ag (nth x.A (Int.toNat ↑(x.i))))
 letI c:=Pg.toProgram (Env.P (EB.E (Zt κ)))
 aq (decide a) (aW (true&&decide a) (aW (true&&decide a) (aq (↑b != (↑b:Int)) (K .ret (sp 53 [(4,AV.bool false)] [])) (ad c 16 9=ad c
 16 9/\∃e1,sp 53 [(0,.ah 70 x.A),(1,.ah 70 x.A),(5,AV.int ↑(x.i)),(6,AV.int 0)] []=UY e1/\QX e1/\∃e0,e0<n/\I e0 (sp
 53 [(0,.ah 70 e1.A),(1,.ah 70 e1.A),(5,AV.int (IntKind.wrap .i64 (↑(e1.i)+1)))] []))))) (K (.exit 0) (sp 53 [] []))):=by kernel_rfl
def Ir(x:K6):=x.i<=x.A.length/\fp x.A=true
def V9(_:K6):Out (Exit×S):= .one (.exit 0,sp 53 [] [])
theorem lSf κ:aU (Zy κ).E 12 16 4 (aG 0 Rz Ir V9):=by
 refine aC (fun x=>x.A.length - x.i) ?_;rintro⟨A,i,k⟩ K ⟨e,a⟩ c;simp only at e a;refine Eq.mpr (xSf κ ⟨A,i,k⟩ _ _ K) ?_;simp only[Int.toNat_natCast,bne_self_eq_false];have f:=kj a;rw[ae,at3,aC7];refine⟨fun h=>?_,fun h=>c⟩;have d:(true&&decide ((i:Int)<(A.length:Int)))=true:=by simp;omega
 have b: ∃m,m<A.length - i/\eW Rz Ir V9 (fun x=>x.A.length - x.i) K m (sp 53 [(0, .ah 70 A),(1, .ah 70 A),(5, .int (IntKind.wrap .i64 ((i:Int)+1)))] []):=by
  refine⟨_,?_,⟨A,i+1,k⟩,?_,⟨by simp only;omega,a⟩,rfl,c⟩
  ·simp only;omega
  ·simp only[Rz]
   grind [az]
 exact ai.2 ⟨d,ai.2 ⟨d,trivial,⟨A,i,0⟩,rfl,⟨by simp only;omega,Nat.zero_le _,mg a i⟩,b⟩⟩
noncomputable def BSf κ:=(Zy κ).loop (lSf _)
theorem ySf κ A K:(a8 (BSf κ).E 12 16 [.ah 70 A, .ah 70 A] [] K)=(
 letI a:=Pg.toProgram (Env.P (EB.E (Zy κ)))
 aq (↑(A.length) != (↑(A.length):Int)) (K (AV.bool false) []) (ad a 16 4=ad a 16 4/\∃e0,sp 53 [(0,.ah 70 A),(1,.ah 70 A),(5,
 AV.int 0)] []=Rz e0/\Ir e0/\K (AV.bool true) [])):=by kernel_rfl
def MY(A:List AV):List AV×List Dn.Obj:=([.ah 70 A, .ah 70 A],[])
def V8(_:List AV):Out (AV×List Dn.Obj):= .one (.bool true,[])
theorem cS8 κ:bd (BSf κ).E 12 16 (aM MY (fun A=>fp A=true) V8):=by
 refine aQ ?_;intro A K h a;refine Eq.mpr (ySf _ A K) ?_;simp only[bne_self_eq_false];exact⟨trivial,⟨A,0,0⟩,rfl,⟨Nat.zero_le _,h⟩,a⟩
noncomputable def Vh κ:=(BSf κ).call (cS8 _)
abbrev RA(x:K6):=sp 29 [(0, .ah 51 x.A),(1, .ah 51 x.A),(5, .int x.i)] []
theorem xSg κ x I n K:(vc (Vh κ).E 12 20 none 0 (ad (Pr κ).toProgram 20 4) (RA x) (bg (Vh κ).E 20 4 0 I n K))=(
 letI a:=↑(x.i)<(↑(x.A.length):Int)
 letI b:=ag (nth x.A (Int.toNat ↑(x.i)))
 aq (decide a) (aW (true&&decide a) (aW (true&&decide a) (∃e1,([.ah 70 b,.ah 70 b],[])=MY e1/\fp e1=true/\∃e0,e0<n
 /\I e0 (sp 29 [(0,.ah 51 x.A),(1,.ah 51 x.A),(5,AV.int (IntKind.wrap .i64 (↑(x.i)+1)))] [])))) (K (.exit 0) (sp 29 [] []))):=by kernel_rfl
def Is(x:K6):=x.i<=x.A.length/\fS x.A=true
def ak3(_:K6):Out (Exit×S):= .one (.exit 0,sp 29 [] [])
theorem lSg κ:aU (Vh κ).E 12 20 4 (aG 0 RA Is ak3):=by
 refine aC (fun x=>x.A.length - x.i) ?_;rintro⟨A,i,k⟩ K ⟨d,a⟩ c;refine Eq.mpr (xSg κ ⟨A,i,k⟩ _ _ K) ?_;simp only;have e:=by simp only[fS,aC6] at a;exact a.1
 rw[ae,at3];refine⟨fun h=>?_,fun h=>c⟩;have b:(true&&decide ((i:Int)<(A.length:Int)))=true:=by simp;omega
 refine ai.2 ⟨b,ai.2 ⟨b,_,rfl,nk a i,_,?_,⟨A,i+1,k⟩,?_,⟨by simp only;omega,a⟩,rfl,c⟩⟩
 ·simp only;omega
 ·simp only[RA]
  grind [az]
noncomputable def BSg κ:=(Vh κ).loop (lSg _)
theorem ySg κ A K:(a8 (BSg κ).E 12 20 [.ah 51 A, .ah 51 A] [] K)=(
 letI a:=Pg.toProgram (Env.P (EB.E (Vh κ)))
 aq (↑(A.length) != (↑(A.length):Int)) (K (AV.bool false) []) (ad a 20 4=ad a 20 4/\∃e0,sp 29 [(0,.ah 51 A),(1,.ah 51 A),(5,
 AV.int 0)] []=RA e0/\Is e0/\K (AV.bool true) [])):=by kernel_rfl
def aA1(A:List AV):List AV×List Dn.Obj:=([.ah 51 A, .ah 51 A],[])
theorem cS9 κ:bd (BSg κ).E 12 20 (aM aA1 (fun A=>fS A=true) V8):=by
 refine aQ ?_;intro A K h a;refine Eq.mpr (ySg _ A K) ?_;simp only[bne_self_eq_false];exact⟨trivial,⟨A,0,0⟩,rfl,⟨Nat.zero_le _,h⟩,a⟩
noncomputable def BS9 κ:=(BSg κ).call (cS9 _)
abbrev chP(c:UInt8):AV:= .lit (.string (ByteArray.mk #[c]))
abbrev vP(c:UInt8):AV:= .agg [.int 1,chP c, .int 0, .nil]
abbrev zP:AV:= .agg [.int 0, .lit (.string (ByteArray.mk #[])), .int 0, .nil]
abbrev dP(c:UInt8):AV:= .agg [chP c, .ah 9 [chP 97,chP 98], .ah 3 [.int 1, .int 1], .bool false, .bool false, .int 0]
abbrev aP(r a b:UInt8):AV:= .agg [chP r, .ah 38 [vP a,vP b]]
abbrev lP(r a b:UInt8):AV:= .agg [.int 1,aP r a b,zP,zP]
abbrev G5:List AV:=[dP 101,dP 112]
abbrev H3:List AV:=[.agg [aP 112 120 121, .ah 80 [lP 101 120 121], .int 0], .agg [aP 112 120 122, .ah 80 [lP 112 120 121,lP 101 121 122], .int 0]]
abbrev rP(a b:Int):List AV:=[.agg [.bool false, .int a, .lit (.string (ByteArray.mk #[]))], .agg [.bool false, .int b, .lit (.string (ByteArray.mk #[]))]]
abbrev R7:List AV:=[.ah 70 [.ah 72 (rP 1 2), .ah 72 (rP 2 3)], .nil]
abbrev WA:List AV:=[.ah 72 (rP 1 2), .ah 72 (rP 1 3), .ah 72 (rP 2 3)]
theorem aB8 κ a b K:(a8 (BS9 κ).E 12 40 [.int a, .int b] [] K)=(
 K (.ah 72 (rP a b)) []):=by kernel_rfl
def ac9:List AV->Option (Bool×AV)
 |[.int a, .int b]=>some (true, .ah 72 (rP a b))
 |_=>none
theorem as1 κ:Bu (BS9 κ).E 12 40 ac9:=by
 intro d x c;unfold ac9 at c;split at c
 ·rename_i a b
  simp   at c;subst c;exact⟨rfl,Eq.mpr (aB8 _ a b _) rfl⟩
 grind
noncomputable def Xf κ:=EB.inline (EB.Hf ((BS9 κ).fresh (as1 _)) [40]) [41,83]
theorem ySx κ K:(a8 (Xf κ).E 12 17 [] [] K)=(
 letI a:=AV.ah
 letI c:=AV.bool false
 letI b:=(K c []/\K c [])/\K c []
 letI e:=AV.bool true
 ∃e2,letI d:=aI (ke e2.ds e2.rs e2.all e2.aZ);letI f:=[a 70 (ag (nth d 1)),a 70 WA];letI g:=∃e0,(f,[])=MY e0/\fp e0=true/\K e [];letI h:=true&&decide (1<(↑(List.length d):Int));letI i:=tJ e2.ds e2.rs e2.xs e2.all e2.aZ==0;([.agg [a 43 G5,a 48 H3],a 51 R7,AV.int 5],[])=MU e2/\nM e2/\aq (decide (tJ e2.ds e2.rs e2.xs e2.all e2.aZ=0)) (∃e1,([.agg [a 43 G5,a 48 H3],a 51 R7,AV.int 4],[])=MU e1/\nM e1/\aq (decide (tJ e1.ds e1.rs e1.xs e1.all e1.aZ=0)) b (aq (tJ e1.ds e1.rs e1.xs e1.all e1.aZ==91) (aq ((↑(List.length d))==(2:Int)) (aW h (g/\∃e0,(f,[])=MY e0/\fp e0=true/\K e [])/\aW h g) b) b)) (∃e0,([.agg [a 43 G5,a 48 H3],a 51 R7,AV.int 4],[])=MU e0/\nM e0/\aq (decide (tJ e0.ds e0.rs e0.xs e0.all e0.aZ=0)) (aq i b b) (aq i (aq (tJ e0.ds e0.rs e0.xs e0.all e0.aZ==91) b b) b))):=by kernel_rfl
abbrev sc:List RL:=[[rP 1 2,rP 2 3],[]]
theorem Um:oA G5 H3=true:=by kernel_rfl
theorem prP:gB G5 H3:=⟨mC Um,by kernel_rfl⟩
theorem Qj a b:wi (rP a b):=fun v c=>by
 rcases List.mem_cons.1 c with rfl|c
 ·exact⟨rfl,rfl⟩
 ·rcases List.mem_cons.1 c with rfl|c
  ·exact⟨rfl,rfl⟩
  grind
theorem ac7: ∀L,L∈sc->vO L:=fun L b=>by
 rcases List.mem_cons.1 b with rfl|b
 ·refine⟨by decide,fun r a=>?_,fun r a=>?_⟩
  ·grind
  ·rcases List.mem_cons.1 a with rfl|a
   ·exact Qj 1 2
   simp_all[Qj]
 ·rcases List.mem_cons.1 b with rfl|b
  ·exact⟨Nat.zero_le _,by simp,fun r a=>(nomatch a)⟩
  ·cases b
theorem oU:InX R7 sc:=⟨rfl,by simp,fun i=>by
 match i with
 |0=>rfl
 |1=>rfl
 |i+2=>rfl,ac7⟩
theorem evP aZ(h:aZ<=50):jS G5 H3 aZ (sc.map dk):=by
 have c:sc.map dk=sc:=by kernel_rfl
 rw[c];refine⟨prP,⟨rfl,fun L b=>(ac7 L b).v,fun L b=>?_,fun i r a=>?_⟩,fun r a=>?_,h,by decide⟩
 ·rcases List.mem_cons.1 b with rfl|b
  ·kernel_rfl
  ·rcases List.mem_cons.1 b with rfl|b
   ·rfl
   ·cases b
 ·match i,a with
  | 0,a=>
   rcases List.mem_cons.1 a with rfl|a
   ·rfl
   ·rcases List.mem_cons.1 a with rfl|a
    ·rfl
    ·cases a
  |1,a=>cases a
  |i+2,a=>cases a
 ·rcases List.mem_cons.1 a with rfl|a
  ·kernel_rfl
  ·rcases List.mem_cons.1 a with rfl|a
   ·kernel_rfl
   ·cases a
theorem QV aZ(a:1<=aZ)(h:aZ<=50):nM ⟨G5,H3,R7,sc,aZ⟩:=
 ⟨prP.s,by rfl,fun _=>oU,⟨a,h⟩,fun _ _=>evP _ h⟩
theorem e5:tJ G5 H3 R7 sc 5=0:=by kernel_rfl
theorem e4:tJ G5 H3 R7 sc 4=91:=by kernel_rfl
theorem r5:aI (ke G5 H3 sc 5)=[.ah 70 (rws [rP 1 2,rP 2 3]), .ah 70 WA]:=by kernel_rfl
def aq5(_:Unit):List AV×List Dn.Obj:=([],[])
def ak7(_:Unit):Out (AV×List Dn.Obj):= .one (.bool true,[])
theorem cSx κ:bd (Xf κ).E 12 17 (aM aq5 (fun _=>True) ak7):=by
 refine aQ ?_;rintro⟨⟩ K _ a
 replace a:K (.bool true) []:=a
 refine Eq.mpr (ySx κ K) ⟨⟨G5,H3,R7,sc,5⟩,rfl,QV 5 (by decide) (by decide),?_⟩;refine ae.2 ⟨fun _=>⟨⟨G5,H3,R7,sc,4⟩,rfl,QV 4 (by decide) (by decide),ae.2 ⟨fun e=>?_,fun _=>ae.2 ⟨fun _=>?_,fun e=>?_⟩⟩⟩,fun e=>?_⟩
 ·rw[e4] at e;cases e
 ·have b:([AV.ah 70 (ag (nth (aI (ke G5 H3 sc 5)) 1)),AV.ah 70 WA],[])=MY WA:=by rw[r5];rfl
  have c:fp WA=true:=by kernel_rfl
  have d:(true&&decide ((1:Int)<((aI (ke G5 H3 sc 5)).length:Int)))=true:=by rw[r5];rfl
  refine ae.2 ⟨fun _=>⟨ai.2 (by grind),ai.2 ⟨d,WA,b,c,a⟩⟩,fun e=>?_⟩;rw[r5] at e;cases e
 ·rw[e4] at e;cases e
 ·have e: ¬ tJ G5 H3 R7 sc 5=0:=of_decide_eq_false e
  exact absurd e5 e
noncomputable def Z2 κ:=(Xf κ).call (cSx _)
structure ALm where
 R:List RL
 aZ:Int
 i:Nat
structure S1(xs:List AV):Prop where
 f:fS xs=true
 r: ∀x,x∈xs->∀r,r∈ag x->r= .ah 72 (ag r)
 v: ∀x,x∈xs->∀r,r∈ag x->∀v,v∈ag r->v=fq (Ad v)
def gD(xs:List _):=xs.map fun x=>dh (ag x)
theorem Ke: ∀{l},(∀r,r∈l->r= .ah 72 (ag r))->rws (dh l)=l
 |[],_=>rfl
 |a::l,h=>by
  have c:=h a (by simp);have b:=Ke (l:=l) (by grind);show AV.ah _ _::rws (dh l)=a::l
  grind
theorem RQ: ∀{t b},DE t b=true->(∀v,v∈t->v=fq (Ad v))->wi t
 |[],[],_,_,v,c=>nomatch c
 | v::t,k::b,h,d,w,a=>by
  simp only[DE,aC6] at h;rcases List.mem_cons.1 a with rfl|a
  ·refine⟨d _ (by simp),?_⟩
   grind [Bk]
  ·exact RQ h.2 (by grind) w a
theorem ss: ∀{xs ds},sq xs ds=true->∀i,i<xs.length->qW (ag (nth xs i)) (ag (af (nth ds i) 2))=true
 |[],_,_,i,a=>absurd a (by simp)
 |x::xs,[],h,_,_=>by cases h
 |x::xs,d::ds,h,i,a=>by
  rw[sq,aC6] at h;cases i with
  |zero=>exact h.1
  |succ i=>exact ss h.2 i (by grind)
theorem se xs i:(gD xs).getD i []=dh (ag (nth xs i)):=by
 grind [aV,gD,gr,ag,dh]
structure aa0(ds rs xs:List AV):Prop where
 i:InX xs (gD xs)
 l:xs.length=ds.length
 w: ∀i r,r∈(gD xs).getD i []->r.length=IJ ds i
theorem BR{ds n xs}(l:S1 xs)(t:xs.length<=60)(h:fT ds n xs=true):aa0 ds n xs:=by
 simp only[fT,aC6,at3] at h;obtain⟨_,s,p⟩:=h;have d: ∀i,i<xs.length->nth xs i∈xs:=fun i a=>by rw[aV _ i a];exact List.getElem_mem _
 have ty:=fun i a r b=>by
  have m:=ss p i a;simp only[qW,aC6,Wx,List.all_eq_true] at m;exact m.1 r b
 have e: ∀L,L∈gD xs->∃i,i<xs.length/\L=dh (ag (nth xs i)):=fun L j=>by
  obtain⟨i,a,rfl⟩:=List.getElem_of_mem j;have g:i<xs.length:=by simpa[gD] using a
  exact⟨i,g,by rw[←se];simp[List.getD_eq_getElem?_getD,a]⟩
 refine⟨⟨by simp[gD],by simp[gD];omega,fun i=>?_,fun L j=>?_⟩,s,fun i r b=>?_⟩
 ·rw[se]
  rcases Nat.lt_or_ge i xs.length with a|a
  ·exact(Ke fun r b=>l.r _ (d i a) r b).symm
  ·rw[gr _ i a];rfl
 ·obtain⟨i,a,rfl⟩:=e L j
  have o:=nk l.f i;refine⟨by rw[my];exact kj o,fun r b=>?_,fun r b=>?_⟩
  ·obtain⟨x,c,rfl⟩:=List.mem_map.1 b
   obtain⟨k,q,rfl⟩:=List.getElem_of_mem c;have:=mg o k
   rwa [aV _ k q] at this
  ·obtain⟨x,c,rfl⟩:=List.mem_map.1 b
   exact RQ (ty i a x c) (l.v _ (d i a) x c)
 ·rw[se] at b
  rcases Nat.lt_or_ge i xs.length with a|a
  ·obtain⟨x,c,rfl⟩:=List.mem_map.1 b
   exact DF _ _ (ty i a x c)
  ·rw[gr _ i a] at b;cases b
theorem Jg: ∀xs n,BQ xs n=true->n<=20->n+cM (gD xs)<=20
 |[],n,_,h=>h
 |x::xs,n,h,_=>by
  simp[BQ] at h;have:=Jg _ _ h.2.2 h.1
  grind [cM,gD,my]
theorem KR: ∀a,cM (a.map dk)<=cM a
 |[]=>Nat.le_refl _
 |L::a=>by
  have b:=KR a
  grind [qH,cM]
theorem ad2{ds b xs}(p:S1 xs)(a:lI ds b xs=true)(h:(ub ds b).2=0)(s:fT ds b xs=true){aZ}(q:aZ<=50):jS ds b aZ ((gD xs).map dk):=by
 simp only[lI,aC6,at3,List.all_eq_true] at a;obtain⟨j,x,m,n,o⟩:=a;have c:=BR p m s;have k:(lA ds b).2=0:=by
  unfold ub at h
  grind
 have t:=Jg xs 0 o (by omega);have u:=KR (gD xs);refine⟨⟨mC j,k⟩,⟨?_,fun L a=>?_,fun L a=>?_,fun i r g=>?_⟩,n,q,by omega⟩
 ·rw[List.length_map,gD,List.length_map];exact c.l
 ·obtain⟨M,e,rfl⟩:=List.mem_map.1 a
  exact(jP (c.i.f M e).v).2.2
 ·obtain⟨M,e,rfl⟩:=List.mem_map.1 a
  exact(jP (c.i.f M e).v).1
 ·refine c.w i r ?_
  rcases Nat.lt_or_ge i (gD xs).length with d|d
  ·rw[List.getD_eq_getElem?_getD,List.getElem?_map,aE0 d] at g
   rw[List.getD_eq_getElem?_getD,aE0 d];exact((jP (c.i.f _ (List.getElem_mem d)).v).2.1 r).1 g
  grind
theorem KA{ds d xs}(a:S1 xs)(b:lI ds d xs=true){aZ}(k:1<=aZ)(e:aZ<=50):nM ⟨ds,d,xs,gD xs,aZ⟩:=by
 have h:=b;simp[lI] at h;have g:=mC h.1;exact⟨g,by rw[qm g,a.f];rfl,fun c=>(BR a h.2.2.1 c).i,⟨k,e⟩,fun l j=>ad2 a b l j e⟩
theorem To{ds b xs a n}(i:(ub ds b).2=0->fT ds b xs=true->jS ds b n (a.map dk))(h:tJ ds b xs a n=0):tJ ds b xs a (n+1)=0/\ke ds b a (n+1)=ke ds b a n/\cM (ke ds b a n)<=n/\jS ds b n (ke ds b a n):=by
 unfold tJ at h⊢;by_cases g:(ub ds b).2=0
 ·rw[aD1 g,Bool.not_true,aD0] at h⊢
  cases f:fT ds b xs with
  |false=>rw[f] at h;cases h
  | true=>
   rw[f,Bool.not_true,aD0] at h;have d:=i g f;by_cases c:n<cM (ke ds b a n)
   ·grind
   ·have e:=(BP d.p n (v7 ds b) (a.map dk) d.A).2.2 (show cM (ke ds b a n)<=n by omega)
    grind [ke,jS.eval]
 grind
theorem m9{ds c n R}(h:jS ds c n R):fS (aI R)=true:=by
 have hd:=tV h.p;have d:=h.A.len;have f:=h.n;simp only[fS,aC6,at3,List.all_eq_true];refine⟨by grind,fun x b=>?_⟩;obtain⟨L,a,rfl⟩:=List.mem_map.1 b;obtain⟨i,g,rfl⟩:=List.getElem_of_mem a;refine np ?_ fun r e=>wy h.p h.A i r ?_
 ·have:=oD a;omega
 grind
end Go.Proofs.YtioeffnadipbaaaGreatDoor
