import Derived.Test.YtioeffnadipbaaaGreatDoorDePE
import Derived.Test.YtioeffnadipbaaaGreatDoorDeP4
namespace Go.Proofs.YtioeffnadipbaaaGreatDoor
open Go Go.Dn Go.Rl Go.Proofs
theorem tg A B:(er A B).length<=A.length+B.length:=by
 match A,B with
 |[],B=>rw[Ar];simp
 |a::c,[]=>
  have:=tg c []
  grind [Bv]
 |a::c,b::d=>
  have f:=tg c (b::d);have g:=tg c d;have e:=tg (a::c) d;rw[zY]
  grind
termination_by A.length+B.length
def vG(l:List _):=(l.filter fun x=>toInt (ag x 0)==1).length
def Ln r:=decide (vG (af (ag r 1))<=3)
theorem Gp{p}: ∀n {l:List _},l.Nodup->(∀x,x∈l->x<n)->(l.filter p).length<=((List.range n).filter p).length:=by
 intro n l d e;have c:(l.filter p).Nodup:=d.filter _;have g: ∀x,x∈l.filter p->x∈(List.range n).filter p:=fun x h=>by
  grind
 generalize l.filter p=a at*
 generalize (List.range n).filter p=b at*
 clear d e;induction a generalizing b with
 |nil=>exact Nat.zero_le _
 |cons x a f=>
  rw[List.nodup_cons] at c;have:=f c.2 (b.erase x) (by grind)
  grind
theorem rl q: ∀l:List _,((List.range l.length).filter fun k=>q (nth l k)).length=(l.filter q).length
 |[]=>rfl
 | a::l=>by
  have b:=rl q l;rw[List.length_cons,List.range_succ_eq_map,List.filter_cons,List.filter_cons];have e:((List.range l.length).map Nat.succ).filter (fun k=>q (nth (a::l) k))=((List.range l.length).filter fun k=>q (nth l k)).map Nat.succ:=by
   rw[List.filter_map];rfl
  grind [nth]
theorem UL{ds b r a}:AZ (Fv ds b r a) (cQ (aQ r))<=vG r.bl:=by
 have h:=Gp (p:=fun k=>toInt (ag (nth r.bl k) 0)==1) _ (Cd (aQ r)) fun x c=>by
  have:=sl c
  rwa [gh] at this
 rw[rl (fun t=>toInt (ag t 0)==1) _] at h;exact h
variable {ds rs:List AV}
theorem Nt(h:iQ ds rs) i:GC ds i<=100:=by
 have b:=(tq.1 h.c).1;simp only[fB,ap7,List.all_eq_true] at b;rcases Nat.lt_or_ge i ds.length with a|a
 ·have:=b.1.2 _ (show nth ds i∈ds by grind [aM])
  grind [JH,DP,GC]
 ·unfold GC
  rw[eV _ i a];exact Nat.zero_le _
theorem ae6(h:iQ ds rs){r}(a:r∈rs):(dr r).hl.length<=8:=by
 have b:=(uP h.s h.c a).r
 grind [a8,nk,aQ,eD]
theorem Lz(h:iQ ds rs){r}(j:r∈rs)(d:Ln r=true){a}(i:cC a<=50):(Lr.V ⟨ds,rs,dr r,a⟩).length<=125000:=by
 have f: ∀b,((Fv ds rs (dr r) a).at b).length<=50:=fun b=>by
  rw[sO,dX];rcases Nat.lt_or_ge _ a.length with c|c
  ·exact Nat.le_trans (rn (k9 c)) i
  grind
 have g:=Bp f (by omega) (cQ (aQ (dr r))) [];have e:AZ (Fv ds rs (dr r) a) _<=3:=Nat.le_trans UL (of_decide_eq_true d);exact Nat.le_trans g (Nat.le_trans (Nat.pow_le_pow_right (by omega) e) (by decide))
theorem Z0(h:iQ ds rs){r}(b:r∈rs)(j:Ln r=true){a}(e:dU ds a)(f:cC a<=50):qi ⟨ds,rs,dr r,a⟩:=by
 have hl:=Lz h b j f;refine⟨uP h.s h.c b,OK h.s h.c b e fun L i=>?_,⟨by grind,fun x g=>?_,rq (vn e.v) _ Im⟩⟩
 ·have:L.length<=cC a:=rn i
  omega
 ·have d:=BL _ g
  have k:=ae6 h b;have d:x.length=(dr r).hl.length:=d;omega
theorem HZ(h:iQ ds rs){a}(b:dU ds a) i x(c:x∈a.getD i []):x.length<=100000000:=by
 have d:=b.w i x c
 grind [Nt]
theorem Yj(h:iQ ds rs){r}(e:r∈rs)(j:Ln r=true){a}(b:dU ds a)(m:cC a<=50):vV (rws (a.getD (atR ds r) []),rws (dF ds rs (dr r) a)):=by
 obtain⟨g,k,f⟩:=u6 h e b;have i:atR ds r<a.length:=by rw[b.len];exact(h.at e).2
 have d:=k9 i;have l:=Lz h e j m;have n:(dF ds rs (dr r) a).length<=125000:=Nat.le_trans (sk _) l;have p:=rn d;have o:=Nt h (atR ds r);refine⟨⟨rz (by omega) (HZ h b _),rz (by omega) (fun x c=>by have:=f x c;omega),?_,fun x c=>?_⟩,?_,?_⟩
 ·simp only[jK]
  have:=tg (a.getD (atR ds r) []) (dF ds rs (dr r) a)
  rw[er,List.length_map] at this;omega
 ·simp only[jK] at c
  have:x.1∈er (a.getD (atR ds r) []) (dF ds rs (dr r) a):=List.mem_map_of_mem c
  rcases(gq (b.v _ d) g).1 this with h|h
  ·have:=b.w _ _ h;omega
  ·have:=f _ h;omega
 ·simp only[jK];exact b.r _ d
 ·simp only[jK];exact k
theorem Ce(h:iQ ds rs){r}(b:r∈rs)(c:Ln r=true){a}(d:dU ds a)(e:cC a<=50):cC (iK ds rs r a)<=200000:=by
 obtain⟨_,_,f⟩:=pe h b d;have g:=tg (a.getD (atR ds r) []) (dF ds rs (dr r) a);have i:(dF ds rs (dr r) a).length<=125000:=Nat.le_trans (sk _) (Lz h b c e);omega
end Go.Proofs.YtioeffnadipbaaaGreatDoor
namespace Go.Proofs.YtioeffnadipbaaaGreatDoor
open Go Go.Dn Go.Rl Go.Proofs
attribute [local irreducible] a0 vc
set_option maxRecDepth 20000
structure Qf where
 ds:List AV
 rs:List AV
 g:List Int
 bc:Nat
 all:List RL
 more:Bool
 i:Nat
abbrev qS(a:List RL):Dn.Obj:= .row 51 (bh a)
abbrev RY(r:AV):AV:= .agg [.agg [.lit (.string (toStr (ag (ag r 0) 0))), .ah 38 (af (ag (ag r 0) 1))], .ah 80 (af (ag r 1)), .int (toInt (ag r 2))]
abbrev Lg ds b g c n bc i a:=sp 71 [(1, .ah 3 g),(2, .ak 0 0 n),(3, .int bc),(4, .ptr 1 0 [] 0),(9, .bool a),(16, .ah 48 b),(17, .int b.length),(18, .int i)] [.row 51 c, .box 25 (eG ds b)]
abbrev JX(x:Qf):=Lg x.ds x.rs (iA x.g) (bh x.all) (bh x.all).length x.bc x.i x.more
def PN:dM:=fun b st K=>∃a,(b,st)=KT a/\qi a/\K (.ah 70 (rws (dF a.ds a.rs a.r a.all))) st
theorem G0:PN.fY:=fun _ _ _ _ c ⟨a,d,e,b⟩=>⟨a,d,e,c _ _ b⟩
theorem VZ b st K(h:PN b st K):aO KT qi TT b st K:=by
 obtain⟨a,d,e,c⟩:=h;obtain⟨rfl,rfl⟩:=Prod.mk.inj d;exact⟨a,rfl,e,c⟩
theorem Wa κ a st K(h:PN a st K):(BUn κ).E.call 50 a st K:=VZ _ _ K h
noncomputable def Ve κ:=EB.VK _ G0 (Wa κ)
theorem xGw(κ:Kp)(x:Qf) I(N:Nat) K:(vc (Ve κ).E 12 46 none 1 (ad (Pr κ).toProgram 46 3) (JX x) (bj (Ve κ).E 46 3 1 I N K))=(
 letI a:=Obj.box
 letI b:=AV.ah
 letI c:=List.length (bh x.all)
 letI f:=IntKind.wrap IntKind.i64 ((↑(x.i):Int)+(1:Int))
 letI j:=nth x.rs (Int.toNat (↑(x.i):Int))
 letI l:=a 25 (eG x.ds x.rs)=a 25 (eG x.ds x.rs)/\a 48 (RY j)=a 48 (RY j)/\True
 letI m:=List.take c (List.drop 0 (bh x.all))
 letI n:=(↑(x.i):Int)<(↑(x.rs.length):Int)
 aq (decide n) (aV (true&&decide n) (∃(e3:List AV×ByteArray),letI d:=decide ((0:Int)<=bx e3.2 e3.1)&&decide (bx e3.2 e3.1<(↑c:Int));letI e:=bx e3.2 e3.1;letI k:=af (nth (bh x.all) (0+Int.toNat e));([b 43 x.ds,AV.str (toStr (ag (ag j 0) 0))],[])=Ha e3/\iy e3/\aV (decide (List.length m<=100000)&&decide (jt m<=1000000000)) (aq (decide ((↑(jt m):Int)>(↑(x.bc):Int))) (K Exit.ret (sp 71 [(8,AV.bool false)] [qS x.all])) (aV (decide (List.length (iA x.g)<=9223372036854775807)) (aq (!Zb e (iA x.g)) (∃(e0:Nat),e0<N/\I e0 (Lg x.ds x.rs (iA x.g) (bh x.all) c (↑(x.bc):Int) f x.more)) (aV d (aV d ((∃(e2:Lr),([eG x.ds x.rs,RY j,AV.ak 0 0 c],[qS x.all])=KT e2/\qi e2/\l/\∃(e1:P2),letI g:=bH (bh x.all) (0+Int.toNat e) (b 70 (List.take (List.length (er (cU e1.1) (cU e1.2))) (List.drop 0 (rws (er (cU e1.1) (cU e1.2))))));([b 70 k,b 70 (rws (dF e2.ds e2.rs e2.r e2.all))],[])=Q2 e1/\vV e1/\aV d (aq x.more (∃(e0:Nat),e0<N/\I e0 (Lg x.ds x.rs (iA x.g) g c (↑(x.bc):Int) f true)) (aV d (∃(e0:Nat),e0<N/\I e0 (Lg x.ds x.rs (iA x.g) g c (↑(x.bc):Int) f (decide ((↑(List.length (af (nth g (0+Int.toNat e)))):Int)>(↑(List.length k):Int))))))))/\∃(e2:Lr),([eG x.ds x.rs,RY j,AV.ak 0 0 c],[qS x.all])=KT e2/\qi e2/\l/\∃(e1:P2),letI h:=bH (bh x.all) (0+Int.toNat e) (b 70 (List.take (List.length (er (cU e1.1) (cU e1.2))) (List.drop 0 (rws (er (cU e1.1) (cU e1.2))))));([b 70 k,b 70 (rws (dF e2.ds e2.rs e2.r e2.all))],[])=Q2 e1/\vV e1/\aV d (aq x.more (∃(e0:Nat),e0<N/\I e0 (Lg x.ds x.rs (iA x.g) h c (↑(x.bc):Int) f true)) (aV d (∃(e0:Nat),e0<N/\I e0 (Lg x.ds x.rs (iA x.g) h c (↑(x.bc):Int) f (decide ((↑(List.length (af (nth h (0+Int.toNat e)))):Int)>(↑(List.length k):Int))))))))/\∃(e2:Lr),([eG x.ds x.rs,RY j,AV.ak 0 0 c],[qS x.all])=KT e2/\qi e2/\l/\aV d (∃(e1:P2),letI i:=bH (bh x.all) (0+Int.toNat e) (b 70 (List.take (List.length (er (cU e1.1) (cU e1.2))) (List.drop 0 (rws (er (cU e1.1) (cU e1.2))))));([b 70 k,b 70 (rws (dF e2.ds e2.rs e2.r e2.all))],[])=Q2 e1/\vV e1/\aV d (aq x.more (∃(e0:Nat),e0<N/\I e0 (Lg x.ds x.rs (iA x.g) i c (↑(x.bc):Int) f true)) (aV d (∃(e0:Nat),e0<N/\I e0 (Lg x.ds x.rs (iA x.g) i c (↑(x.bc):Int) f (decide ((↑(List.length (af (nth i (0+Int.toNat e)))):Int)>(↑(List.length k):Int))))))))))))))) (K (Exit.exit 0) (sp 71 [(9,AV.bool x.more)] [qS x.all]))):=by kernel_rfl
theorem eT a:(bh a).length=a.length:=by simp
theorem OC W:(rws W).take W.length=rws W:=by grind [dX]
theorem Co W: ∀a k,bH (bh a) k (.ah 70 (rws W))=bh (a.set k W)
 |[],0=>rfl
 |[],_+1=>rfl
 |_::_,0=>rfl
 |L::a,k+1=>by
  have:=Co W a k
  grind [bH]
def xw(ds b:List AV)(g:List Int)(bc:Nat):List AV->List RL->Bool
 |[],_=>false
 |r::xs,a=>bif decide (bc<cC a) then true
  else bif !g.contains (bx (dr r).rel ds) then xw ds b g bc xs a
  else xw ds b g bc xs (iK ds b r a)
theorem tv{ds d g bc}: ∀xs a m,xw ds d g bc xs a=true->(cu ds d g bc xs a m).2=false
 |[],_,_,h=>by cases h
 | r::xs,a,m,h=>by
  rw[xw] at h;rw[cu];cases c:decide (bc<cC _) with
  |true=>rfl
  |false=>
   rw[c] at h;cases b: !g.contains _ with
   |true=>rw[b] at h;exact tv xs _ m h
   |false=>rw[b] at h;exact tv _ _ _ h
structure qL(x:Qf):Prop where
 p:iQ x.ds x.rs
 A:dU x.ds x.all
 t: ∀r,r∈x.rs->Ln r=true
 l:x.bc<=50
 n:cC x.all<=200000
 g:x.g.length<=100000
 i:x.i<=x.rs.length
def vK(x:Qf):Out (Exit×S):= .aq (xw x.ds x.rs x.g x.bc (x.rs.drop x.i) x.all)
 (.one (.ret,sp 71 [(8, .bool false)] [qS (cu x.ds x.rs x.g x.bc (x.rs.drop x.i) x.all x.more).1]))
 (.one (.exit 0,sp 71 [(9, .bool (cu x.ds x.rs x.g x.bc (x.rs.drop x.i) x.all x.more).2)] [qS (cu x.ds x.rs x.g x.bc (x.rs.drop x.i) x.all x.more).1]))
theorem FA{ds a}(h:iQ ds a):ds.length<=60:=by
 have b:=(tq.1 h.c).1
 grind [fB]
theorem lGw κ:aU (Ve κ).E 12 46 3 (aG 1 JX qL vK):=by
 refine aC (fun x=>x.rs.length - x.i) ?_;rintro⟨ds,b,g,bc,a,j,i⟩ K r f;have k:=r.p;have v:=r.A;have O:=r.l;have Q:=r.n;have F:=r.g;have I:=r.i;have J:=k.s.2.1;have hdl:ds.length<=60:=FA k;have o:=v.len;simp only[aW] at k v O Q F I J o;rw[show(Ve κ).E.P=Pr κ from rfl];refine Eq.mpr (xGw κ ⟨ds,b,g,bc,a,j,i⟩ _ _ K) ?_;simp only[Int.toNat_natCast,aq6,List.take_length,Nat.zero_add];rw[ae,ap6,ap8];refine⟨fun h=>?_,fun h=>?_⟩
 ·have H:i<b.length:=by omega
  have w:nth b i∈b:=by rw[aM _ i H];exact List.getElem_mem _
  have C:=k.at w;have L:=r.t _ w;have hd:b.drop i=nth b i::b.drop (i+1):=by rw[aq7 H,←aM b i H]
  have Y:IntKind.wrap .i64 ((i:Int)+1)=((i+1:Nat):Int):=by rw[az (by omega) (by omega)];omega
  have q: ∀d z,dU ds d->cC d<=200000->((vK ⟨ds,b,g,bc,d,z,i+1⟩).run fun y=>K y.1 y.2)->∃m,m<b.length - i/\et JX qL vK (fun x=>x.rs.length - x.i) K m (Lg ds b (iA g) (bh d) (bh d).length bc (IntKind.wrap .i64 ((i:Int)+1)) z):=fun d z V T Z=>
   ⟨_,by simp only;omega,⟨ds,b,g,bc,d,z,i+1⟩,by rw[Y],⟨k,V,r.t,O,T,F,H⟩,rfl,Z⟩
  unfold vK at f;simp only[hd] at f;rw[xw,cu] at f;refine ai.2 ⟨by simp;omega,⟨ds,(dr (nth b i)).rel⟩,rfl,k.s.1,ai.2 ⟨?_,?_⟩⟩
  ·rw[wv,eT,ap7,ap6,ap6];omega
  ·simp only[wv]
   rw[ae,ap6,ap8];refine⟨fun c=>?_,fun c=>?_⟩
   ·rw[aq2 (show bc<cC a by omega)] at f
    exact f
   ·have c: ¬ bc<cC a:=by omega
    rw[aq0 c,aq1,aq1] at f;refine ai.2 ⟨by rw[ap6,iV];omega,?_⟩;rw[OD,ae];refine⟨fun e=>?_,fun e=>?_⟩
    ·rw[e,aq3,aq3] at f
     exact q a j v Q f
    ·rw[e,aq1,aq1] at f
     have B:(decide (0<=bx (dr (nth b i)).rel ds)&&decide (bx (dr (nth b i)).rel ds<((bh a).length:Int)))=true:=by
      rw[eT,o,ap7,ap6,ap6];exact C.1
     obtain⟨s1,s2,s3⟩:=pe k w v;have U:=Z0 k w L v (by omega);have R:=Yj k w L v (by omega);have X:=Ce k w L v (by omega);have D:(bh (iK ds b (nth b i) a)).length=(bh a).length:=by rw[eT,eT,s1.len,o]
     have N:atR ds (nth b i)<a.length:=by rw[o];exact C.2
     have u:=fun z=>q (iK ds b (nth b i) a) z s1 X
     rw[D] at u;have hd:decide (((af (nth (bh (a.set (atR ds (nth b i)) (er (a.getD (atR ds (nth b i)) []) (dF ds b (dr (nth b i)) a)))) (atR ds (nth b i)))).length:Int)>((af (nth (bh a) (atR ds (nth b i)))).length:Int))=decide ((a.getD (atR ds (nth b i)) []).length<(er (a.getD (atR ds (nth b i)) []) (dF ds b (dr (nth b i)) a)).length):=by
      have F: ∀W:RL,(a.set (atR ds (nth b i)) W).getD (atR ds (nth b i)) []=W:=fun W=>by
       rw[List.getD_eq_getElem?_getD,List.getElem?_set_self N];rfl
      rw[ni,ni,dX,dX,F];exact decide_eq_decide.2 (by omega)
     refine ai.2 ⟨B,ai.2 ⟨B,?_,?_⟩,?_⟩
     all_goals
      refine⟨⟨ds,b,dr (nth b i),a⟩,rfl,U,(by refine⟨?_,?_,trivial⟩<;>first|exact trivial|rfl),?_⟩
      first
      |refine⟨(rws (a.getD (atR ds (nth b i)) []),rws (dF ds b (dr (nth b i)) a)),by rw[←ni];rfl,R,ai.2 ⟨B,?_⟩⟩
      |refine ai.2 ⟨B,⟨(rws (a.getD (atR ds (nth b i)) []),rws (dF ds b (dr (nth b i)) a)),by rw[←ni];rfl,R,ai.2 ⟨B,?_⟩⟩⟩
      simp only[jK,OC];change aq j (∃m,m<b.length - i/\et JX qL vK (fun x=>x.rs.length - x.i) K m (Lg ds b (iA g) (bH (bh a) (atR ds (nth b i)) (.ah 70 (rws (er (a.getD (atR ds (nth b i)) []) (dF ds b (dr (nth b i)) a))))) (bh a).length bc (IntKind.wrap .i64 ((i:Int)+1)) true)) (aV _ (∃m,m<b.length - i/\et JX qL vK (fun x=>x.rs.length - x.i) K m (Lg ds b (iA g) (bH (bh a) (atR ds (nth b i)) (.ah 70 (rws (er (a.getD (atR ds (nth b i)) []) (dF ds b (dr (nth b i)) a))))) (bh a).length bc (IntKind.wrap .i64 ((i:Int)+1)) (decide (((af (nth (bH (bh a) (atR ds (nth b i)) (.ah 70 (rws (er (a.getD (atR ds (nth b i)) []) (dF ds b (dr (nth b i)) a))))) (atR ds (nth b i)))).length:Int)>((af (nth (bh a) (atR ds (nth b i)))).length:Int))))));rw[Co,hd];cases j with
      |true=>exact u true f
      |false=>exact ai.2 ⟨B,u _ f⟩
 ·unfold vK at f
  rw[aq4 (by simp only;omega)] at f;exact f
noncomputable def W1 κ:=(Ve κ).loop (lGw _)
theorem yGw κ(x:Qf) K:(a0 (W1 κ).E 12 46 [eG x.ds x.rs, .ah 3 (iA x.g), .ak 0 0 (bh x.all).length, .int x.bc] [qS x.all] K)=(
 ad (Pg.toProgram (Env.P (EB.E (Ve κ)))) 46 3=ad (Pg.toProgram (Env.P (EB.E (Ve κ)))) 46 3/\∃(a:Qf),letI b:=cu a.ds a.rs a.g a.bc (List.drop a.i a.rs) a.all a.more;Lg x.ds x.rs (iA x.g) (bh x.all) (List.length (bh x.all)) (↑(x.bc):Int) (0:Int) false=JX a/\qL a/\aq (xw a.ds a.rs a.g a.bc (List.drop a.i a.rs) a.all) (K (AV.bool false) [qS (Prod.fst b)]) (K (AV.bool (Prod.snd b)) [qS (Prod.fst b)])):=by kernel_rfl
def Tj(x:Qf):=([eG x.ds x.rs, .ah 3 (iA x.g), .ak 0 0 (bh x.all).length, .int x.bc],[qS x.all])
def U1(x:Qf):Out (AV×List Dn.Obj):= .one (.bool (cu x.ds x.rs x.g x.bc x.rs x.all false).2,[qS (cu x.ds x.rs x.g x.bc x.rs x.all false).1])
theorem cGw κ:bd (W1 κ).E 12 46 (aO Tj qL U1):=by
 refine aR ?_;rintro⟨ds,e,g,bc,b,d,i⟩ K a c
 replace c:K _ _:=c
 refine Eq.mpr (yGw κ _ K) ⟨rfl,⟨ds,e,g,bc,b,_,0⟩,rfl,⟨a.p,a.A,a.t,a.l,a.n,a.g,Nat.zero_le _⟩,?_⟩
 grind [ae,tv]
noncomputable def Qp κ:=(W1 κ).call (cGw _)
abbrev evS ds c xs a b bc i n:=sp 67 [(2, .int bc),(3, .ptr 0 0 [] 0),(8, .ak 1 0 (j1 b).length),(11, .ak 2 0 n),(38, .ah 51 xs),(39, .int xs.length),(40, .int i)] [.box 25 (eG ds c), .row 35 (j1 b), .row 51 a]
theorem xEa κ ds rs xs ALL gs bc(i:Nat) I N K:(vc (Qp κ).E 12 19 none 0 (ad (Pr κ).toProgram 19 10) (evS ds rs xs ALL gs bc i ALL.length) (bj (Qp κ).E 19 10 0 I N K))=(
 letI a:=(↑i:Int)<(↑(xs.length):Int)
 aq (decide a) (aV (true&&decide a) (∃(e1:RL),([AV.ah 70 (af (nth xs (Int.toNat (↑i:Int))))],[])=QG e1/\xe e1/\aV (decide ((ALL.length+1+1)*
 25<=70368744177664)) (∃(e0:Nat),e0<N/\I e0 (evS ds rs xs (List.take ALL.length ALL++[AV.ah 70 (rws (ej e1))]) gs bc (IntKind.wrap IntKind.i64 ((↑i:
 Int)+(1:Int))) (ALL.length+1))))) (K (Exit.exit 1) (sp 67 [(2,AV.int bc),(3,AV.ptr 0 0 [] 0),(8,AV.ak 1 0 (List.length (j1 gs))),(11,AV.ak 2 0
 ALL.length)] [Obj.box 25 (eG ds rs),Obj.row 35 (j1 gs),Obj.row 51 ALL]))):=by kernel_rfl
structure Xy where
 ds:List AV
 rs:List AV
 xs:List AV
 gs:List (List Int)
 bc:Int
 all:List RL
 i:Nat
abbrev Sf(x:Xy):=evS x.ds x.rs x.xs (bh ((x.all.take x.i).map ej)) x.gs x.bc x.i (bh ((x.all.take x.i).map ej)).length
structure InX(xs:List AV)(all:List RL):Prop where
 len:xs.length=all.length
 n:all.length<=100000
 a: ∀i,af (nth xs i)=rws (all.getD i [])
 f: ∀L,L∈all->xe L
def Fu(x:Xy):=x.i<=x.xs.length/\InX x.xs x.all
def ZR(x:Xy):Out (Exit×S):= .one (.exit 1,sp 67 [(2, .int x.bc),(3, .ptr 0 0 [] 0),(8, .ak 1 0 (j1 x.gs).length),(11, .ak 2 0 (bh (x.all.map ej)).length)] [.box 25 (eG x.ds x.rs), .row 35 (j1 x.gs),qS (x.all.map ej)])
theorem lEa κ:aU (Qp κ).E 12 19 10 (aG 0 Sf Fu ZR):=by
 refine aC (fun x=>x.xs.length - x.i) ?_;rintro⟨ds,j,xs,k,bc,b,i⟩ K ⟨o,c⟩ d;simp only at o c;rw[show(Qp κ).E.P=Pr κ from rfl];refine Eq.mpr (xEa κ ds j xs (bh ((b.take i).map ej)) k bc i _ _ K) ?_;simp only[Int.toNat_natCast,List.take_length];have r:=c.n;have q:=c.len;rw[ae,ap6,ap8];refine⟨fun h=>?_,fun h=>?_⟩
 ·have g:i<b.length:=by omega
  have p:(b.take (i+1)).map ej=(b.take i).map ej++[ej (b.getD i [])]:=by
   rw[List.take_add_one,List.map_append];simp[g,List.getD_eq_getElem?_getD]
  have m:(bh ((b.take i).map ej)).length<=100000:=by rw[eT,List.length_map,List.length_take];omega
  refine ai.2 ⟨by simp;omega,b.getD i [],by rw[c.a];rfl,c.f _ (k9 g),ai.2 ⟨by rw[ap6];omega,_,?_,⟨ds,j,xs,k,bc,b,i+1⟩,?_,⟨by simp only;omega,c⟩,rfl,d⟩⟩
  ·simp only;omega
  ·have e:bh ((b.take (i+1)).map ej)=bh ((b.take i).map ej)++[.ah 70 (rws (ej (b.getD i [])))]:=by rw[p,bh,List.map_append];rfl
   simp only[Sf,e,ar1,List.length_singleton];rw[az (n:=(i:Int)+1) (by omega) (by omega)];rfl
 ·have l:b.take i=b:=List.take_of_length_le (by omega)
  simp only[l];exact d
noncomputable def Vw κ:=(Qp κ).loop (lEa _)
abbrev ewS ds c b g a bc i n:=sp 67 [(2, .int bc),(3, .ptr 0 0 [] 0),(11, .ak 1 0 n),(15, .ah 3 g),(50, .ak 2 0 (j1 a).length),(51, .int (j1 a).length),(52, .int i)] [.box 25 (eG ds c), .row 51 b, .row 35 (j1 a)]
abbrev UC ds c b a bc i n:=sp 67 [(2, .int bc),(3, .ptr 0 0 [] 0),(11, .ak 1 0 n),(50, .ak 2 0 (j1 a).length),(51, .int (j1 a).length),(52, .int i)] [.box 25 (eG ds c), .row 51 b, .row 35 (j1 a)]
structure AEw where
 ds:List AV
 rs:List AV
 gs:List (List Int)
 bc:Nat
 all:List RL
 g:List Int
 i:Nat
 n:Nat
abbrev Sh(x:AEw):=ewS x.ds x.rs (bh x.all) (iA x.g) x.gs x.bc x.i (bh x.all).length
theorem xEw κ x I N K:(vc (Vw κ).E 12 19 none 0 (ad (Pr κ).toProgram 19 17) (Sh x) (bj (Vw κ).E 19 17 0 I N K))=(
 letI a:=List.length (bh x.all)
 ∃(e1:Qf),letI b:=cu e1.ds e1.rs e1.g e1.bc e1.rs e1.all false;([eG x.ds x.rs,AV.ah 3 (iA x.g),AV.ak 0 0 a,AV.int (↑(x.bc):Int)],[qS x.all])=Tj e1/\qL e1/\aq (Prod.snd b) (∃(e0:Nat),e0<N/\I e0 (ewS x.ds x.rs (bh (Prod.fst b)) (iA x.g) x.gs (↑(x.bc):Int) (↑(x.i):Int) a)) (K (Exit.exit 5) (UC x.ds x.rs (bh (Prod.fst b)) x.gs (↑(x.bc):Int) (↑(x.i):Int) a))):=by kernel_rfl
theorem xy{ds e}(h:iQ ds e)(i: ∀r,r∈e->Ln r=true){bc}(k:bc<=50) g: ∀xs a m,(∀r,r∈xs->r∈e)->dU ds a->cC a<=200000->cC (cu ds e g bc xs a m).1<=200000
 |[],_,_,_,_,f=>f
 | r::xs,a,m,l,j,f=>by
  have d: ∀r,r∈xs->r∈e:=fun r b=>l r (by simp[b])
  have b:=l r (by simp);rw[cu];by_cases c:bc<cC a
  ·grind
  ·rw[aq0 c]
   cases !g.contains _ with
   |true=>exact xy h i k g xs a m d j f
   |false=>exact xy h i k g xs _ _ d (pe h b j).1 (Ce h b (i r b) j (by omega))
theorem JQ{ds b g bc a}(h:bc<cC a): ∀xs,(cu ds b g bc xs a false).2=false
 |[]=>rfl
 |r::xs=>by grind [cu]
structure iG(ds rs:List AV)(bc:Nat)(all:List RL):Prop where
 p:iQ ds rs
 A:dU ds all
 t: ∀r,r∈rs->Ln r=true
 l:bc<=50
 n:cC all<=200000
theorem iG.grow{ds b bc a}(h:iG ds b bc a) g:iG ds b bc (cu ds b g bc b a false).1:=
 ⟨h.p,(lC h.p g _ _ _ _ (by simp) h.A).1,h.t,h.l,xy h.p h.t h.l g _ _ _ (by simp) h.A h.n⟩
theorem iG.loop{ds b bc} g: ∀n {a},iG ds b bc a->iG ds b bc (ft ds b g bc n a)
 |0,_,h=>h
 |n+1,a,h=>by
  rw[ft];cases(cu _ _ g _ _ _ _).2 with
  |true=>exact iG.loop g n (h.grow g)
  |false=>exact h.grow g
structure Oq(x:AEw):Prop where
 o:iG x.ds x.rs x.bc x.all
 g:x.g.length<=100000
 f:x.bc+2<=x.n+cC x.all/\1<=x.n
def ZD(x:AEw):Out (Exit×S):= .one (.exit 5,UC x.ds x.rs (bh (ft x.ds x.rs x.g x.bc x.n x.all)) x.gs x.bc x.i (bh x.all).length)
theorem lEw κ:aU (Vw κ).E 12 19 17 (aG 0 Sh Oq ZD):=by
 refine aC (fun x=>x.n) ?_;rintro⟨ds,b,j,bc,a,g,i,n⟩ K ⟨h,k,r,s⟩ f;simp only at h k r s;rw[show(Vw κ).E.P=Pr κ from rfl];obtain⟨n,rfl⟩: ∃m,n=m+1:=⟨n - 1,by omega⟩
 have f:K (.exit 5) (UC ds b (bh (ft ds b g bc (n+1) a)) j bc i (bh a).length):=f;rw[ft] at f;obtain⟨q,y,u,_⟩:=lC h.p g bc b a false (fun _ o=>o) h.A;refine Eq.mpr (xEw κ ⟨ds,b,j,bc,a,g,i,n+1⟩ _ _ K) ⟨⟨ds,b,g,bc,a,false,0⟩,rfl,⟨h.p,h.A,h.t,h.l,h.n,k,Nat.zero_le _⟩,?_⟩;have d:(bh (cu ds b g bc b a false).1).length=(bh a).length:=by rw[eT,eT,q.len,h.A.len]
 rw[ae];refine⟨fun e=>?_,fun e=>?_⟩
 ·have e:(cu ds b g bc b a false).2=true:=e
  rw[e,aq3,←d] at f;have w:=(u e).resolve_left (by simp);have v: ¬ bc<cC a:=fun c=>by rw[JQ c] at e;cases e
  refine⟨n,Nat.lt_succ_self n,⟨ds,b,j,bc,(cu ds b g bc b a false).1,g,i,n⟩,by simp only[Sh,d],⟨h.grow g,k,by simp only;omega,by simp only;omega⟩,rfl,f⟩
 grind
noncomputable def QF κ:=(Vw κ).loop (lEw _)
structure XK where
 ds:List AV
 rs:List AV
 gs:List (List Int)
 bc:Nat
 all:List RL
 i:Nat
abbrev L6(x:XK):=UC x.ds x.rs (bh x.all) x.gs x.bc x.i (bh x.all).length
theorem xEf κ x I N K:(vc (QF κ).E 12 19 none 0 (ad (Pr κ).toProgram 19 15) (L6 x) (bj (QF κ).E 19 15 0 I N K))=(
 letI a:=(↑(x.i):Int)<(↑(List.length (j1 x.gs)):Int)
 letI b:=Pg.toProgram (Env.P (EB.E (Vw κ)))
 aq (decide a) (aV (true&&decide a) (ad b 19 17=ad b 19 17/\∃(e1:AEw),ewS x.ds x.rs (bh x.all) (af (nth (j1 x.gs) (0+Int.toNat (↑(x.i):Int))))
 x.gs (↑(x.bc):Int) (↑(x.i):Int) (List.length (bh x.all))=Sh e1/\Oq e1/\∃(e0:Nat),e0<N/\I e0 (UC e1.ds e1.rs (bh (ft e1.ds e1.rs e1.g e1.bc e1.n
 e1.all)) e1.gs (↑(e1.bc):Int) (IntKind.wrap IntKind.i64 ((↑(e1.i):Int)+(1:Int))) (List.length (bh e1.all))))) (K (Exit.exit 3) (sp 67 [(2,AV.int
 (↑(x.bc):Int)),(11,AV.ak 0 0 (List.length (bh x.all)))] [qS x.all]))):=by kernel_rfl
structure EG(x:XK):Prop where
 o:iG x.ds x.rs x.bc x.all
 g: ∀g,g∈x.gs->g.length<=100000
 i:x.i<=x.gs.length
 n:x.gs.length<=100000
def Zw(x:XK):Out (Exit×S):= .one (.exit 3,sp 67 [(2, .int x.bc),(11, .ak 0 0 (bh x.all).length)] [qS (gT x.ds x.rs x.bc (x.gs.drop x.i) x.all)])
theorem VR a i h:af (nth (j1 a) i)=iA a[i]:=by
 grind [aM,j1,af]
theorem lEf κ:aU (QF κ).E 12 19 15 (aG 0 L6 EG Zw):=by
 refine aC (fun x=>x.gs.length - x.i) ?_;rintro⟨ds,f,b,bc,a,i⟩ K ⟨h,j,o,m⟩ e;simp only at h j o m;rw[show(QF κ).E.P=Pr κ from rfl];refine Eq.mpr (xEf κ ⟨ds,f,b,bc,a,i⟩ _ _ K) ?_;simp only[Int.toNat_natCast,Nat.zero_add,Ih];have e:K (.exit 3) (sp 67 [(2, .int bc),(11, .ak 0 0 (bh a).length)] [qS (gT ds f bc (b.drop i) a)]):=e;rw[ae,ap6,ap8];refine⟨fun c=>?_,fun c=>?_⟩
 ·have k:i<b.length:=by omega
  have g:=iG.loop b[i] 99 h;have d:(bh (ft ds f b[i] bc 99 a)).length=(bh a).length:=by rw[eT,eT,g.A.len,h.A.len]
  rw[aq7 k] at e;rw[←d] at e;have p:=h.l;refine ai.2 ⟨by simp;omega,trivial,⟨ds,f,b,bc,a,b[i],i,99⟩,by rw[VR b i k],⟨h,j _ (List.getElem_mem _),by simp only;omega,by simp only;omega⟩,_,?_,⟨ds,f,b,bc,ft ds f b[i] bc 99 a,i+1⟩,?_,⟨g,j,k,m⟩,rfl,e⟩
  ·simp only;omega
  ·simp only[L6,d]
   rw[az (n:=(i:Int)+1) (by omega) (by omega)];rfl
 ·rw[aq4 (by omega)] at e
  exact e
noncomputable def BEf κ:=(QF κ).loop (lEf _)
theorem yEv κ ds rs xs(bc:Nat) K:(a0 (BEf κ).E 12 19 [eG ds rs, .ah 51 xs, .int bc] [] K)=(
 letI a:=AV.int
 letI b:=AV.aH
 letI c:=AV.nil
 letI l:=Pg.toProgram (Env.P (EB.E (Qp κ)))
 letI m:=Pg.toProgram (Env.P (EB.E (QF κ)))
 letI n:=K (b [c,a 2]) []
 letI p:=decide ((↑bc:Int)>(2147483647:Int))
 letI q:=decide ((↑bc:Int)<(1:Int))
 letI r:=K (b [c,a 90]) []
 letI s:=K (b [c,a 91]) []
 letI t:=List.all rs fc&&iL xs
 ∃(e2:B3),letI o:=uQ e2.1 e2.2;([eG ds rs],[])=UU e2/\EU e2/\aq (decide (Prod.snd o=(0:Int))) (aq q n (aq p n (aV t (aq (!jZ ds rs xs) r (ad l 19 10=ad l 19 10/\∃(e1:Xy),letI f:=bh (List.map ej e1.all);evS ds rs xs [] (Lk e2.1 e2.2) (↑bc:Int) (0:Int) 0=Sf e1/\Fu e1/\ad m 19 15=ad m 19 15/\∃(e0:XK),letI g:=gT e0.ds e0.rs e0.bc (List.drop e0.i e0.gs) e0.all;letI h:=List.length (bh e0.all);letI d:=List.take h (List.drop 0 (bh g));UC e1.ds e1.rs f e1.gs e1.bc (0:Int) (List.length f)=L6 e0/\EG e0/\aV (decide (List.length d<=100000)&&decide (jt d<=1000000000)) (aq (decide ((↑(jt d):Int)>(↑(e0.bc):Int))) s (K (b [AV.ak 0 0 h,a 0]) [qS g]))))))) (aq (Prod.snd o != (0:Int)) (K (b [c,a (Prod.snd o)]) []) (aq q n (aq p n (aV t (aq (!jZ ds rs xs) r (ad l 19 10=ad l 19 10/\∃(e1:Xy),letI i:=bh (List.map ej e1.all);sp 67 [(2,a (↑bc:Int)),(3,AV.ptr 0 0 [] 0),(8,c),(11,AV.ak 1 0 0),(38,AV.ah 51 xs),(39,a (↑(xs.length):Int)),(40,a 0)] [Obj.box 25 (eG ds rs),Obj.row 51 []]=Sf e1/\Fu e1/\ad m 19 15=ad m 19 15/\∃(e0:XK),letI j:=gT e0.ds e0.rs e0.bc (List.drop e0.i e0.gs) e0.all;letI k:=List.length (bh e0.all);letI e:=List.take k (List.drop 0 (bh j));UC e1.ds e1.rs i e1.gs e1.bc (0:Int) (List.length i)=L6 e0/\EG e0/\aV (decide (List.length e<=100000)&&decide (jt e<=1000000000)) (aq (decide ((↑(jt e):Int)>(↑(e0.bc):Int))) s (K (b [AV.ak 0 0 k,a 0]) [qS j]))))))))):=by kernel_rfl
theorem D7{n m L}: ∀f done,(yz n m L f done).length<=f/\∀g,g∈yz n m L f done->g.length<=n
 |0,_=>⟨Nat.le_refl _,fun g a=>(nomatch a)⟩
 | f+1,done=>by
  rw[yz];cases decide (gZ n m L done<0) with
  |true=>simp
  |false=>
   rw[aq1];obtain⟨c,b⟩:=D7 (n:=n) (m:=m) (L:=L) f (wc done (iq n m L (gZ n m L done)));refine⟨by grind,fun g a=>?_⟩;rcases List.mem_cons.1 a with rfl|a
   ·exact Nat.le_trans (List.length_filter_le _ _) (by simp[jP])
   ·exact b g a
structure RZ where
 ds:List AV
 rs:List AV
 xs:List AV
 all:List RL
 bc:Nat
def jx ds b(a:List _) bc:=gT ds b bc (Lk ds b) (a.map ej)
def pq ds a xs b bc:=bif !decide ((uQ ds a).2=0) then(uQ ds a).2 else bif !jZ ds a xs then 90 else bif decide (bc<cC (jx ds a b bc)) then 91 else 0
def F6(x:RZ):List AV×List Dn.Obj:=([eG x.ds x.rs, .ah 51 x.xs, .int x.bc],[])
structure nv(x:RZ):Prop where
 s:nF x.ds x.rs
 f:(x.rs.all fc&&iL x.xs)=true
 i:jZ x.ds x.rs x.xs=true->InX x.xs x.all
 l:1<=x.bc/\x.bc<=50
 o:(uQ x.ds x.rs).2=0->jZ x.ds x.rs x.xs=true->iG x.ds x.rs x.bc (x.all.map ej)
def aa3(x:RZ):Out (AV×List Dn.Obj):= .aq (decide (pq x.ds x.rs x.xs x.all x.bc=0))
 (.one (.aH [.ak 0 0 (bh (jx x.ds x.rs x.all x.bc)).length, .int 0],[qS (jx x.ds x.rs x.all x.bc)]))
 (.one (.aH [.nil, .int (pq x.ds x.rs x.xs x.all x.bc)],[]))
theorem iG.eval{ds b bc}: ∀c {a},iG ds b bc a->iG ds b bc (gT ds b bc c a)
 |[],_,h=>h
 |g::c,_,h=>iG.eval c (iG.loop g _ h)
theorem cEv κ:bd (BEf κ).E 12 19 (aO F6 nv aa3):=by
 refine aR ?_;rintro⟨ds,b,xs,a,bc⟩ K q d;have v:=q.f;have r:=q.i;have y:=q.l;have w:=q.o;simp only at v r y w;have d:aq (decide (pq ds b xs a bc=0)) (K (.aH [.ak 0 0 (bh (jx ds b a bc)).length, .int 0]) [qS (jx ds b a bc)]) (K (.aH [.nil, .int (pq ds b xs a bc)]) []):=d;refine Eq.mpr (yEv κ ds b xs bc K) ⟨(ds,b),rfl,q.s,ae.2 ⟨fun e=>?_,fun e=>?_⟩⟩
 ·have e:(uQ ds b).2=0:=of_decide_eq_true e
  unfold pq at d;rw[aq2 e,Bool.not_true,aq1] at d;refine ae.2 ⟨fun c=>?_,fun _=>ae.2 ⟨fun c=>?_,fun _=>ai.2 ⟨v,ae.2 ⟨fun c=>?_,fun c=>?_⟩⟩⟩⟩
  ·have:=of_decide_eq_true c;omega
  ·have:=of_decide_eq_true c;omega
  ·rw[c] at d;exact d
  ·rw[c,aq1] at d
   have j:=w e (by simpa using c);have r:=r (by simpa using c);have h:=iG.eval (Lk ds b) j;have t:=FA j.p;have x:=D7 (n:=ds.length) (m:=sg ds b) (L:=DW ds b);have k:(bh (jx ds b a bc)).length=(bh (a.map ej)).length:=by
    rw[eT,eT,show(jx ds b a bc).length=_ from h.A.len,j.A.len]
   refine⟨rfl,⟨ds,b,xs,Lk ds b,bc,a,0⟩,rfl,⟨Nat.zero_le _,r⟩,rfl,⟨ds,b,Lk ds b,bc,a.map ej,0⟩,rfl,⟨j,fun g u=>Nat.le_trans ((x _ _).2 g u) (by omega),Nat.zero_le _,Nat.le_trans (x _ _).1 ?_⟩,?_⟩
   ·have:=FQ ds.length []
    omega
   ·have B:List.take (bh (a.map ej)).length (List.drop 0 (bh (jx ds b a bc)))=bh (jx ds b a bc):=by rw[aq6,←k,List.take_length]
    have z:(bh (jx ds b a bc)).length<=60:=by rw[eT,show(jx ds b a bc).length=_ from h.A.len];exact t
    have C:cC (jx ds b a bc)<=200000:=h.n;show aV (decide ((List.take (bh (a.map ej)).length (List.drop 0 (bh (jx ds b a bc)))).length<=100000)&&decide (jt (List.take (bh (a.map ej)).length (List.drop 0 (bh (jx ds b a bc))))<=1000000000)) (aq (decide ((jt (List.take (bh (a.map ej)).length (List.drop 0 (bh (jx ds b a bc)))):Int)>bc)) (K (.aH [.nil, .int 91]) []) (K (.aH [.ak 0 0 (bh (a.map ej)).length, .int 0]) [qS (jx ds b a bc)]))
    rw[B,wv];refine ai.2 ⟨by rw[ap7,ap6,ap6];omega,ae.2 ⟨fun c=>?_,fun c=>?_⟩⟩
    ·have c:=of_decide_eq_true c
     rw[aq2 (show bc<cC (jx ds b a bc) by omega)] at d;exact d
    ·have c:=of_decide_eq_false c
     rw[aq0 (show ¬ bc<cC (jx ds b a bc) by omega),aq1,k] at d;exact d
 ·have e:(uQ ds b).2≠0:=of_decide_eq_false e
  unfold pq at d;rw[aq0 e,Bool.not_false,aq3,aq0 e] at d;refine ae.2 ⟨fun _=>d,fun c=>absurd c (by simpa using e)⟩
noncomputable def Us κ:=((BEf κ).call (cEv _)).calm [19]
def Ab v:=decide (((toStr (ag v 2)).size:Int)>1000)
abbrev QE(x:List _×Nat):=sp 17 [(0, .ah 72 x.1),(3, .int x.2)] []
theorem xLg κ x I n K:(vc (Us κ).E 12 30 none 0 (ad (Pr κ).toProgram 30 2) (QE x) (bj (Us κ).E 30 2 0 I n K))=(
 letI a:=(↑(x.2):Int)<(↑(x.1.length):Int)
 aq (decide a) (aV (true&&decide a) (aq (decide ((↑(ByteArray.size (toStr (ag (nth x.1 (Int.toNat (↑(x.2):Int))) 2))):Int)>(1000:Int))) (K Exit.ret
 (sp 17 [(2,AV.int 1)] [])) (∃(e0:Nat),e0<n/\I e0 (sp 17 [(0,AV.ah 72 x.1),(3,AV.int (IntKind.wrap IntKind.i64 ((↑(x.2):Int)+(1:Int))))] []))))
 (K (Exit.exit 0) (sp 17 [] []))):=by kernel_rfl
def ac0(x:List AV×Nat):Out (Exit×S):= .aq ((x.1.drop x.2).any Ab) (.one (.ret,sp 17 [(2, .int 1)] [])) (.one (.exit 0,sp 17 [] []))
theorem lLg κ:aU (Us κ).E 12 30 2 (aG 0 QE (fun x=>x.2<=x.1.length/\x.1.length<=100000000) ac0):=by
 refine aC (fun x=>x.1.length - x.2) ?_;rintro⟨r,i⟩ K ⟨f,d⟩ b;simp only at f d;rw[show(Us κ).E.P=Pr κ from rfl];refine Eq.mpr (xLg κ (r,i) _ _ K) ?_;simp only[Int.toNat_natCast];have b:aq ((r.drop i).any Ab) (K .ret (sp 17 [(2, .int 1)] [])) (K (.exit 0) (sp 17 [] [])):=b;rw[ae,ap6,ap8];refine⟨fun h=>?_,fun h=>?_⟩
 ·have c:i<r.length:=by omega
  have a:=b;rw[aq7 c,List.any_cons,←aM r i c] at a;refine ai.2 ⟨by simp;omega,ae.2 ⟨fun e=>?_,fun e=>⟨_,?_,(r,i+1),?_,⟨c,d⟩,rfl,?_⟩⟩⟩
  ·rw[show Ab (nth r i)=true from e] at a;exact a
  ·simp only;omega
  ·simp only[QE]
   grind [az]
  ·rw[show Ab (nth r i)=false from e,Bool.false_or] at a;exact a
 ·rw[aq4 (by omega)] at b
  exact b
noncomputable def VQ κ:=(Us κ).loop (lLg _)
theorem yLg κ r K:(a0 (VQ κ).E 12 30 [.ah 72 r] [] K)=(
 letI a:=Pg.toProgram (Env.P (EB.E (Us κ)))
 ad a 30 2=ad a 30 2/\∃(e0:List AV×Nat),sp 17 [(0,AV.ah 72 r),(3,AV.int 0)] []=QE e0/\(e0.2<=e0.1.length/\e0.1.length<=100000000)/\aq
 (List.any (List.drop e0.2 e0.1) Ab) (K (AV.int 1) []) (K (AV.int 0) [])):=by kernel_rfl
def gLg:List AV->Option (Bool×AV)
 |[.ah 72 r]=>some (decide (r.length<=100000000), .int (bif r.any Ab then 1 else 0))
 |_=>none
theorem pLg κ:cd (VQ κ).E 12 30 gLg:=by
 intro b x a;unfold gLg at a;split at a
 ·rename_i r
  simp   at a;obtain⟨c,rfl⟩:=a;refine⟨_,rfl,rfl,Eq.mpr (yLg κ r _) ⟨rfl,(r,0),rfl,by grind,?_⟩⟩;rw[aq6];cases r.any _<;>exact rfl
 grind
noncomputable def V1 κ:=EB.GV ((VQ κ).pure (pLg _)) [30]
theorem jU{ds a}(h:mZ ds a=true):nF ds a:=by
 simp only[mZ,ap7,ap6] at h;obtain⟨_,c,d,f⟩:=h;refine⟨by simp only[aW];omega,by simp only[aW];omega,fun x g=>?_⟩;have b:=zN (a.map wh) 2000 (by omega) c (wh x) (by grind);have e:wh x=aQ (dr x):=rfl;rw[e,gh] at b;refine⟨?_,by omega⟩
 grind [FF,dr,yF,aQ]
structure ALk where
 xs:List AV
 ds:List AV
 rs:List AV
 i:Nat
 n:Nat
 k:Nat
abbrev Vm(x:ALk):=sp 91 [(1, .ah 51 x.xs),(2, .ptr 0 0 [] 0),(5, .int x.i),(6, .int x.n),(7, .int x.k)] [.box 25 (eG x.ds x.rs)]
theorem xLk κ x I n K:(vc (V1 κ).E 12 12 none 0 (ad (Pr κ).toProgram 12 8) (Vm x) (bj (V1 κ).E 12 8 0 I n K))=(
 letI a:=IntKind.wrap IntKind.i64
 letI b:=AV.ptr 0 0 []
 letI c:=AV.int
 letI e:=af (ag (nth x.rs (Int.toNat (↑(x.i):Int))) 1)
 letI f:=true&&decide ((↑(x.i):Int)<(↑(x.rs.length):Int))
 letI g:=a ((↑(x.k):Int)+(1:Int))
 letI h:=(↑(x.k):Int)<(↑(List.length e):Int)
 letI d:=eG x.ds x.rs
 aV f (aq (decide h) (aV f (aV (true&&decide h) (aq (toInt (ag (nth e (Int.toNat (↑(x.k):Int))) 0)==(1:Int)) (∃(e0:Nat),e0<n/\I e0 (sp 91
 [(1,AV.ah 51 x.xs),(2,b 0),(5,c (↑(x.i):Int)),(6,c (a ((↑(x.n):Int)+(1:Int)))),(7,c g)]
 [Obj.box 25 d])) (∃(e0:Nat),e0<n/\I e0 (sp 91 [(1,AV.ah 51 x.xs),(2,b 0),(5,c (↑(x.i):Int)),(6,c (↑(x.n):Int)),(7,
 c g)] [Obj.box 25 d]))))) (K (Exit.exit 2) (sp 91 [(1,AV.ah 51 x.xs),(2,b 0),(5,c (↑(x.i):Int)),(6,c (↑(x.n):Int))]
 [Obj.box 25 d])))):=by kernel_rfl
def OT(x:ALk):=x.i<x.rs.length/\x.k<=(af (ag (nth x.rs x.i) 1)).length/\(af (ag (nth x.rs x.i) 1)).length<=100000/\x.n<=x.k
def Px(x:ALk):Out (Exit×S):= .one (.exit 2,sp 91 [(1, .ah 51 x.xs),(2, .ptr 0 0 [] 0),(5, .int x.i),(6, .int (x.n+vG ((af (ag (nth x.rs x.i) 1)).drop x.k):Nat))] [.box 25 (eG x.ds x.rs)])
theorem lLk κ:aU (V1 κ).E 12 12 8 (aG 0 Vm OT Px):=by
 refine aC (fun x=>(af (ag (nth x.rs x.i) 1)).length - x.k) ?_;rintro⟨xs,ds,b,i,n,k⟩ K ⟨d,j,f,g⟩ a;simp only at d j f g;rw[show(V1 κ).E.P=Pr κ from rfl];refine Eq.mpr (xLk κ ⟨xs,ds,b,i,n,k⟩ _ _ K) ?_;simp only[Int.toNat_natCast];refine ai.2 ⟨by simp;omega,?_⟩;rw[ae,ap6,ap8];simp only[Px,Out.run] at a;refine⟨fun h=>ai.2 ⟨by simp;omega,ai.2 ⟨by simp;omega,?_⟩⟩,fun h=>?_⟩
 ·have c:k<(af (ag (nth b i) 1)).length:=by omega
  rw[az (n:=(k:Int)+1) (by omega) (by omega),az (n:=(n:Int)+1) (by omega) (by omega)];have hd:vG ((af (ag (nth b i) 1)).drop k)=(bif toInt (ag (nth (af (ag (nth b i) 1)) k) 0)==1 then 1 else 0)+vG ((af (ag (nth b i) 1)).drop (k+1)):=by
   rw[aq7 c,←aM _ k c];unfold vG
   grind
  rw[hd] at a;rw[ae];refine⟨fun e=>?_,fun e=>?_⟩
  ·rw[e,aq3] at a
   refine⟨_,?_,⟨xs,ds,b,i,n+1,k+1⟩,rfl,⟨d,c,f,by simp only;omega⟩,rfl,?_⟩
   ·simp only;omega
   ·simp only[Px,Out.run]
    rw[Nat.add_assoc];exact a
  ·rw[e,aq1,Nat.zero_add] at a
   refine⟨_,?_,⟨xs,ds,b,i,n,k+1⟩,rfl,⟨d,c,f,by simp only;omega⟩,rfl,a⟩;simp only;omega
 ·rw[aq4 (by omega)] at a
  exact a
noncomputable def Vj κ:=(V1 κ).loop (lLk _)
abbrev XN xs ds a(i:Nat):=sp 91 [(1, .ah 51 xs),(2, .ptr 0 0 [] 0),(5, .int i)] [.box 25 (eG ds a)]
theorem xLr κ xs ds rs i I n K:(vc (Vj κ).E 12 12 none 0 (ad (Pr κ).toProgram 12 4) (XN xs ds rs i) (bj (Vj κ).E 12 4 0 I n K))=(
 letI a:=AV.int
 letI b:=Pg.toProgram (Env.P (EB.E (V1 κ)))
 aq (decide ((↑i:Int)<(↑(rs.length):Int))) (ad b 12 8=ad b 12 8/\∃(e1:ALk),sp 91 [(1,AV.ah 51 xs),(2,AV.ptr 0 0 [] 0),(5,a (↑i:Int)),
 (6,a 0),(7,a 0)] [Obj.box 25 (eG ds rs)]=Vm e1/\OT e1/\aq (decide ((↑(e1.n+vG (List.drop e1.k (af (ag (nth e1.rs e1.i) 1)))):Int)>(3:
 Int))) (K Exit.ret (sp 91 [(4,a 0)] [])) (∃(e0:Nat),e0<n/\I e0 (sp 91 [(1,AV.ah 51 e1.xs),(2,AV.ptr 0 0 [] 0),(5,a (IntKind.wrap
 IntKind.i64 ((↑(e1.i):Int)+(1:Int))))] [Obj.box 25 (eG e1.ds e1.rs)]))) (K (Exit.exit 0) (sp 91 [(1,AV.ah 51 xs)] []))):=by kernel_rfl
structure ALr where
 xs:List AV
 ds:List AV
 rs:List AV
 i:Nat
abbrev TO(x:ALr):=XN x.xs x.ds x.rs x.i
def NT(x:ALr):=x.i<=x.rs.length/\x.rs.length<=100000/\∀r,r∈x.rs->(af (ag r 1)).length<=100000
def Om(x:ALr):Out (Exit×S):= .aq ((x.rs.drop x.i).all Ln) (.one (.exit 0,sp 91 [(1, .ah 51 x.xs)] [])) (.one (.ret,sp 91 [(4, .int 0)] []))
theorem lLr κ:aU (Vj κ).E 12 12 4 (aG 0 TO NT Om):=by
 refine aC (fun x=>x.rs.length - x.i) ?_;rintro⟨xs,ds,a,i⟩ K ⟨j,f,d⟩ b;simp only at j f d;rw[show(Vj κ).E.P=Pr κ from rfl];refine Eq.mpr (xLr κ xs ds a i _ _ K) ?_;simp only[Om,Out.run,ae] at b;rw[ae,ap6,ap8];refine⟨fun h=>?_,fun h=>?_⟩
 ·have c:i<a.length:=by omega
  have g:nth a i∈a:=by rw[aM _ _ c];exact List.getElem_mem _
  rw[aq7 c,←aM _ i c,List.all_cons] at b;refine⟨rfl,⟨xs,ds,a,i,0,0⟩,rfl,⟨c,Nat.zero_le _,d _ g,Nat.le_refl _⟩,?_⟩;simp only[aq6,Nat.zero_add];rw[az (n:=(i:Int)+1) (by omega) (by omega),ae,ap6,ap8];refine⟨fun e=>b.2 ?_,fun e=>⟨_,?_,⟨xs,ds,a,i+1⟩,rfl,⟨c,f,d⟩,rfl,?_⟩⟩
  ·rw[show Ln (nth a i)=false from aq0 (by omega),Bool.false_and]
  ·simp only;omega
  ·simp only[Om,Out.run,ae]
   rw[show Ln (nth a i)=true from aq2 (by omega),ar2] at b;exact b
 ·rw[aq4 (by omega)] at b
  exact b.1 rfl
noncomputable def U3 κ:=(Vj κ).loop (lLr _)
structure Ta where
 xs:List AV
 n:Nat
 i:Nat
 k:Nat
abbrev Qu(x:Ta):=sp 91 [(1, .ah 51 x.xs),(8, .int x.n),(9, .int x.i),(10, .int x.k)] []
theorem xLv κ x I n K:(vc (U3 κ).E 12 12 none 0 (ad (Pr κ).toProgram 12 22) (Qu x) (bj (U3 κ).E 12 22 0 I n K))=(
 letI a:=AV.int
 letI b:=af (nth x.xs (Int.toNat (↑(x.i):Int)))
 letI c:=true&&decide ((↑(x.i):Int)<(↑(x.xs.length):Int))
 letI d:=(↑(x.k):Int)<(↑(List.length b):Int)
 letI e:=af (nth b (Int.toNat (↑(x.k):Int)))
 aV c (aq (decide d) (aV c (aV (true&&decide d) (aV (decide (List.length e<=100000000)) (aq ((bif List.any e Ab then(1:Int) else(0:Int))==(1:
 Int)) (K Exit.ret (sp 91 [(4,a 0)] [])) (∃(e0:Nat),e0<n/\I e0 (sp 91 [(1,AV.ah 51 x.xs),(8,a (↑(x.n):Int)),(9,a (↑(x.i):Int)),
 (10,a (IntKind.wrap IntKind.i64 ((↑(x.k):Int)+(1:Int))))] [])))))) (K (Exit.exit 6) (sp 91 [(1,AV.ah 51 x.xs),(8,a (↑(x.n):Int)),(9,
 a (↑(x.i):Int))] [])))):=by kernel_rfl
def KX r:=(af r).any Ab
def Oo(x:Ta):=x.i<x.xs.length/\x.k<=(af (nth x.xs x.i)).length/\iL x.xs=true
def ae4(x:Ta):Out (Exit×S):= .aq (((af (nth x.xs x.i)).drop x.k).any KX) (.one (.ret,sp 91 [(4, .int 0)] [])) (.one (.exit 6,sp 91 [(1, .ah 51 x.xs),(8, .int x.n),(9, .int x.i)] []))
theorem lLv κ:aU (U3 κ).E 12 12 22 (aG 0 Qu Oo ae4):=by
 refine aC (fun x=>(af (nth x.xs x.i)).length - x.k) ?_;rintro⟨xs,n,i,k⟩ K ⟨f,j,d⟩ b;simp only at f j d;rw[show(U3 κ).E.P=Pr κ from rfl];refine Eq.mpr (xLv κ ⟨xs,n,i,k⟩ _ _ K) ?_;simp only[Int.toNat_natCast];have g:=mh d i;have l:=iX g;have b:aq (((af (nth xs i)).drop k).any KX) (K .ret (sp 91 [(4, .int 0)] [])) (K (.exit 6) (sp 91 [(1, .ah 51 xs),(8, .int n),(9, .int i)] [])):=b;refine ai.2 ⟨by simp;omega,?_⟩;rw[ae,ap6,ap8];refine⟨fun h=>?_,fun h=>?_⟩
 ·have c:k<(af (nth xs i)).length:=by omega
  have a:=b;rw[aq7 c,List.any_cons,←aM _ k c] at a;refine ai.2 ⟨by simp;omega,ai.2 ⟨by simp;omega,ai.2 ⟨aq2 (lK g k),?_⟩⟩⟩;cases e:(af (nth (af (nth xs i)) k)).any Ab with
  |true=>
   rw[show KX (nth (af (nth xs i)) k)=true from e] at a;exact a
  | false=>
   rw[show KX (nth (af (nth xs i)) k)=false from e,Bool.false_or] at a;refine⟨_,?_,⟨xs,n,i,k+1⟩,?_,⟨f,c,d⟩,rfl,a⟩
   ·simp only;omega
   ·simp only[Qu]
    rw[az (n:=(k:Int)+1) (by omega) (by omega)];rfl
 ·rw[aq4 (by omega)] at b
  exact b
noncomputable def UR κ:=(U3 κ).loop (lLv _)
abbrev Rw(x:Ta):=sp 91 [(1, .ah 51 x.xs),(8, .int x.n),(9, .int x.i)] []
theorem xLw κ x I n K:(vc (UR κ).E 12 12 none 0 (ad (Pr κ).toProgram 12 16) (Rw x) (bj (UR κ).E 12 16 0 I n K))=(
 letI a:=IntKind.wrap IntKind.i64
 letI b:=AV.int
 letI c:=(↑(x.n):Int)+(↑(List.length (af (nth x.xs (Int.toNat (↑(x.i):Int))))):Int)
 letI d:=(↑(x.i):Int)<(↑(x.xs.length):Int)
 letI e:=K Exit.ret (sp 91 [(4,b 0)] [])
 letI f:=Pg.toProgram (Env.P (EB.E (U3 κ)))
 aq (decide d) (aV (true&&decide d) (aq (decide (a c>(20:Int))) e (ad f 12 22=ad f 12 22/\∃(e1:Ta),sp 91 [(1,AV.ah 51
 x.xs),(8,b (a c)),(9,b (↑(x.i):Int)),(10,b 0)] []=Qu e1/\Oo e1/\aq (List.any (List.drop e1.k (af (nth e1.xs
 e1.i))) KX) e (∃(e0:Nat),e0<n/\I e0 (sp 91 [(1,AV.ah 51 e1.xs),(8,b (↑(e1.n):Int)),(9,b (a ((↑(e1.i):Int)+(1
 :Int))))] []))))) (K (Exit.exit 4) (sp 91 [] []))):=by kernel_rfl
def uE:List AV->Nat->Bool
 |[],_=>true
 |x::xs,n=>decide (n+(af x).length<=20)&&(!(af x).any KX&&uE xs (n+(af x).length))
def M4(x:Ta):=x.i<=x.xs.length/\x.n<=20/\iL x.xs=true
def XO(x:Ta):Out (Exit×S):= .aq (uE (x.xs.drop x.i) x.n) (.one (.exit 4,sp 91 [] [])) (.one (.ret,sp 91 [(4, .int 0)] []))
theorem lLw κ:aU (UR κ).E 12 12 16 (aG 0 Rw M4 XO):=by
 refine aC (fun x=>x.xs.length - x.i) ?_;rintro⟨xs,n,i,k⟩ K ⟨m,o,b⟩ d;simp only at m o b;rw[show(UR κ).E.P=Pr κ from rfl];refine Eq.mpr (xLw κ ⟨xs,n,i,k⟩ _ _ K) ?_;simp only[Int.toNat_natCast];have p:=mh b i;have q:=iX p;have l:xs.length<=100000000:=by simp only[iL,ap7,ap6] at b;exact b.1
 have d:aq (uE (xs.drop i) n) (K (.exit 4) (sp 91 [] [])) (K .ret (sp 91 [(4, .int 0)] [])):=d;rw[ae,ap6,ap8];refine⟨fun h=>?_,fun h=>?_⟩
 ·have f:i<xs.length:=by omega
  have a:=d;rw[aq7 f,←aM xs i f,uE] at a;have g:=az (n:=(n:Int)+(af (nth xs i)).length) (by omega) (by omega);refine ai.2 ⟨by simp;omega,ae.2 ⟨fun c=>?_,fun c=>⟨trivial,⟨xs,n+(af (nth xs i)).length,i,0⟩,by rw[g];rfl,⟨f,Nat.zero_le _,b⟩,?_⟩⟩⟩
  all_goals
   have j:=c
   first
   |have c:=of_decide_eq_true j
    rw[g] at c
   |have c:=of_decide_eq_false j
    rw[g] at c
  ·rw[aq0 (show ¬ n+(af (nth xs i)).length<=20 by omega),Bool.false_and] at a
   exact a
  ·rw[aq2 (show n+(af (nth xs i)).length<=20 by omega),ar2] at a
   simp only[aq6];rw[ae];refine⟨fun e=>?_,fun e=>?_⟩
   ·rw[e] at a;exact a
   ·rw[e,Bool.not_false,ar2] at a
    refine⟨_,?_,⟨xs,n+(af (nth xs i)).length,i+1,k⟩,?_,⟨f,by simp only;omega,b⟩,rfl,a⟩
    ·simp only;omega
    ·simp only[Rw]
     rw[az (n:=(i:Int)+1) (by omega) (by omega)];rfl
 ·rw[aq4 (by omega)] at d
  exact d
noncomputable def BLw κ:=(UR κ).loop (lLw _)
theorem yLw κ ds rs xs K:(a0 (BLw κ).E 12 12 [eG ds rs, .ah 51 xs] [] K)=(
 letI a:=AV.int
 letI b:=Pg.toProgram (Env.P (EB.E (Vj κ)))
 letI c:=Pg.toProgram (Env.P (EB.E (UR κ)))
 aV (decide (ds.length<=9223372036854775807)&&List.all ds fun(e0:AV)=>decide (List.length (af (ag e0 1))<=9223372036854775807)) (aq ((bif mZ ds rs then
 (1:Int) else(0:Int))==(0:Int)) (K (a 0) []) (aq (decide ((↑(rs.length):Int)>(8:Int))) (K (a 0) []) (aq (decide ((↑(xs.length):Int)>
 (60:Int))) (K (a 0) []) (ad b 12 4=ad b 12 4/\∃(e1:ALr),sp 91 [(1,AV.ah 51 xs),(2,AV.ptr 0 0 [] 0),(5,a 0)] [Obj.box 25 (eG ds rs)]=
 TO e1/\NT e1/\aq (List.all (List.drop e1.i e1.rs) Ln) (ad c 12 16=ad c 12 16/\∃(e0:Ta),sp 91 [(1,AV.ah 51 e1.xs),(8,a 0),(9,a 0)] []=
 Rw e0/\M4 e0/\aq (uE (List.drop e0.i e0.xs) e0.n) (K (a 1) []) (K (a 0) [])) (K (a 0) [])))))):=by kernel_rfl
def jy ds a xs:=mZ ds a&&(decide (a.length<=8)&&(decide (xs.length<=60)&&(a.all Ln&&uE xs 0)))
def gLw:List AV->Option (Bool×AV)
 |[.agg [.ah 43 ds, .ah 48 a], .ah 51 xs]=>some (decide (ds.length<=aW)&&ds.all (fun d=>decide ((af (ag d 1)).length<=aW))&&iL xs, .int (bif jy ds a xs then 1 else 0))
 |_=>none
theorem pLw κ:cd (BLw κ).E 12 12 gLw:=by
 intro f x b;unfold gLw at b;split at b
 ·rename_i ds a xs
  simp only[ap9,aq5] at b;obtain⟨c,rfl⟩:=b;rw[ap7] at c;obtain⟨c,g⟩:=c;refine⟨_,rfl,rfl,?_⟩;refine Eq.mpr (yLw κ ds a xs _) ?_;refine ai.2 ⟨c,?_⟩;unfold jy;cases h:mZ ds a with
  |false=>exact rfl
  | true=>
   rw[ar2];refine ae.2 ⟨fun e=>absurd e (by decide),fun _=>?_⟩;rw[ae,ap6,ap8];refine⟨fun e=>?_,fun e=>?_⟩
   ·rw[aq0 (show ¬ a.length<=8 by omega)];rfl
   ·rw[aq2 (show a.length<=8 by omega),ar2]
    rw[ae,ap6,ap8];refine⟨fun e=>?_,fun e=>⟨rfl,⟨xs,ds,a,0⟩,rfl,⟨Nat.zero_le _,by show a.length<=100000;omega,fun r i=>(jU h).2.2 r i|>.2⟩,?_⟩⟩
    ·rw[aq0 (show ¬ xs.length<=60 by omega)];rfl
    ·rw[aq2 (show xs.length<=60 by omega),ar2,aq6]
     rw[ae];refine⟨fun d=>⟨rfl,⟨xs,0,0,0⟩,rfl,⟨Nat.zero_le _,Nat.zero_le _,g⟩,?_⟩,fun d=>?_⟩
     ·rw[d,ar2,aq6]
      cases uE xs 0<;>exact rfl
     ·rw[d];rfl
 ·cases b
noncomputable def Xf κ:=(BLw κ).pure (pLw _)
end Go.Proofs.YtioeffnadipbaaaGreatDoor
namespace Go.Proofs.YtioeffnadipbaaaGreatDoor
open Go Go.Dn Go.Rl Go.Proofs
attribute [local irreducible] a0 vc
set_option maxRecDepth 20000
structure Lm where
 A:List AV
 i:Nat
 k:Nat
abbrev Sj(x:Lm):=sp 53 [(0, .ah 70 x.A),(1, .ah 70 x.A),(5, .int x.i),(6, .int x.k)] []
theorem xSe κ x I n K:(vc (Xf κ).E 12 16 none 0 (ad (Pr κ).toProgram 16 9) (Sj x) (bj (Xf κ).E 16 9 0 I n K))=(
 letI b:=true&&decide ((↑(x.i):Int)<(↑(x.A.length):Int))
 letI d:=af (nth x.A (Int.toNat (↑(x.i):Int)))
 letI a:=nth d (Int.toNat (↑(x.k):Int))
 letI c:=(↑(x.k):Int)<(↑(List.length d):Int)
 aV b (aq (decide c) (aV b (aV (true&&decide c) (aV b (aV (true&&decide c) (aq (!(Dn.toBool (ag a 0)==Dn.toBool (ag a 0)&&(toInt (ag a 1)==
 toInt (ag a 1)&&(ByteArray.toList (toStr (ag a 2))==ByteArray.toList (toStr (ag a 2))&&true)))) (K Exit.ret (sp 53 [(4,AV.bool false)] [])) (∃(e0:
 Nat),e0<n/\I e0 (sp 53 [(0,AV.ah 70 x.A),(1,AV.ah 70 x.A),(5,AV.int (↑(x.i):Int)),(6,AV.int (IntKind.wrap IntKind.i64 ((↑(x.k):Int)+(1:
 Int))))] []))))))) (K (Exit.exit 2) (sp 53 [(0,AV.ah 70 x.A),(1,AV.ah 70 x.A),(5,AV.int (↑(x.i):Int))] [])))):=by kernel_rfl
def LN(x:Lm):=x.i<x.A.length/\x.k<=(af (nth x.A x.i)).length/\(af (nth x.A x.i)).length<=100000000
def XZ(x:Lm):Out (Exit×S):= .one (.exit 2,sp 53 [(0, .ah 70 x.A),(1, .ah 70 x.A),(5, .int x.i)] [])
theorem lSe κ:aU (Xf κ).E 12 16 9 (aG 0 Sj LN XZ):=by
 refine aC (fun x=>(af (nth x.A x.i)).length - x.k) ?_;rintro⟨A,i,k⟩ K ⟨e,f,d⟩ c;simp only at e f d;refine Eq.mpr (xSe κ ⟨A,i,k⟩ _ _ K) ?_;simp only[Int.toNat_natCast,beq_self_eq_true,Bool.and_self,Bool.not_true];have a:(true&&decide ((i:Int)<(A.length:Int)))=true:=by simp;omega
 refine ai.2 ⟨a,?_⟩;rw[ae,ap6,ap8];refine⟨fun h=>?_,fun h=>c⟩;have b:(true&&decide ((k:Int)<((af (nth A i)).length:Int)))=true:=by simp;omega
 refine ai.2 ⟨a,ai.2 ⟨b,ai.2 ⟨a,ai.2 ⟨b,_,?_,⟨A,i,k+1⟩,?_,⟨e,by simp only;omega,d⟩,rfl,c⟩⟩⟩⟩
 ·simp only;omega
 ·simp only[Sj]
  grind [az]
noncomputable def Xj κ:=(Xf κ).loop (lSe _)
abbrev Ns(x:Lm):=sp 53 [(0, .ah 70 x.A),(1, .ah 70 x.A),(5, .int x.i)] []
theorem xSf κ x I n K:(vc (Xj κ).E 12 16 none 0 (ad (Pr κ).toProgram 16 4) (Ns x) (bj (Xj κ).E 16 4 0 I n K))=(
 letI a:=(↑(x.i):Int)<(↑(x.A.length):Int)
 letI b:=List.length (af (nth x.A (Int.toNat (↑(x.i):Int))))
 letI c:=Pg.toProgram (Env.P (EB.E (Xf κ)))
 aq (decide a) (aV (true&&decide a) (aV (true&&decide a) (aq ((↑b:Int) != (↑b:Int)) (K Exit.ret (sp 53 [(4,AV.bool false)] [])) (ad c 16 9=ad c
 16 9/\∃(e1:Lm),sp 53 [(0,AV.ah 70 x.A),(1,AV.ah 70 x.A),(5,AV.int (↑(x.i):Int)),(6,AV.int 0)] []=Sj e1/\LN e1/\∃(e0:Nat),e0<n/\I e0 (sp
 53 [(0,AV.ah 70 e1.A),(1,AV.ah 70 e1.A),(5,AV.int (IntKind.wrap IntKind.i64 ((↑(e1.i):Int)+(1:Int))))] []))))) (K (Exit.exit 0) (sp 53 [] []))):=by kernel_rfl
def EM(x:Lm):=x.i<=x.A.length/\eR x.A=true
def Ue(_:Lm):Out (Exit×S):= .one (.exit 0,sp 53 [] [])
theorem lSf κ:aU (Xj κ).E 12 16 4 (aG 0 Ns EM Ue):=by
 refine aC (fun x=>x.A.length - x.i) ?_;rintro⟨A,i,k⟩ K ⟨e,a⟩ c;simp only at e a;refine Eq.mpr (xSf κ ⟨A,i,k⟩ _ _ K) ?_;simp only[Int.toNat_natCast,bne_self_eq_false];have f:=iX a;rw[ae,ap6,ap8];refine⟨fun h=>?_,fun h=>c⟩;have d:(true&&decide ((i:Int)<(A.length:Int)))=true:=by simp;omega
 have b: ∃m,m<A.length - i/\et Ns EM Ue (fun x=>x.A.length - x.i) K m (sp 53 [(0, .ah 70 A),(1, .ah 70 A),(5, .int (IntKind.wrap .i64 ((i:Int)+1)))] []):=by
  refine⟨_,?_,⟨A,i+1,k⟩,?_,⟨by simp only;omega,a⟩,rfl,c⟩
  ·simp only;omega
  ·simp only[Ns]
   grind [az]
 exact ai.2 ⟨d,ai.2 ⟨d,trivial,⟨A,i,0⟩,rfl,⟨by simp only;omega,Nat.zero_le _,lK a i⟩,b⟩⟩
noncomputable def BSf κ:=(Xj κ).loop (lSf _)
theorem ySf κ A K:(a0 (BSf κ).E 12 16 [.ah 70 A, .ah 70 A] [] K)=(
 letI a:=Pg.toProgram (Env.P (EB.E (Xj κ)))
 aq ((↑(A.length):Int) != (↑(A.length):Int)) (K (AV.bool false) []) (ad a 16 4=ad a 16 4/\∃(e0:Lm),sp 53 [(0,AV.ah 70 A),(1,AV.ah 70 A),(5,
 AV.int 0)] []=Ns e0/\EM e0/\K (AV.bool true) [])):=by kernel_rfl
def JK(A:List AV):List AV×List Dn.Obj:=([.ah 70 A, .ah 70 A],[])
def SZ(_:List AV):Out (AV×List Dn.Obj):= .one (.bool true,[])
theorem cS8 κ:bd (BSf κ).E 12 16 (aO JK (fun A=>eR A=true) SZ):=by
 refine aR ?_;intro A K h a;refine Eq.mpr (ySf _ A K) ?_;simp only[bne_self_eq_false];exact⟨trivial,⟨A,0,0⟩,rfl,⟨Nat.zero_le _,h⟩,a⟩
noncomputable def Xc κ:=(BSf κ).call (cS8 _)
abbrev Rh(x:Lm):=sp 29 [(0, .ah 51 x.A),(1, .ah 51 x.A),(5, .int x.i)] []
theorem xSg κ x I n K:(vc (Xc κ).E 12 20 none 0 (ad (Pr κ).toProgram 20 4) (Rh x) (bj (Xc κ).E 20 4 0 I n K))=(
 letI a:=(↑(x.i):Int)<(↑(x.A.length):Int)
 letI b:=af (nth x.A (Int.toNat (↑(x.i):Int)))
 aq (decide a) (aV (true&&decide a) (aV (true&&decide a) (∃(e1:List AV),([AV.ah 70 b,AV.ah 70 b],[])=JK e1/\eR e1=true/\∃(e0:Nat),e0<n
 /\I e0 (sp 29 [(0,AV.ah 51 x.A),(1,AV.ah 51 x.A),(5,AV.int (IntKind.wrap IntKind.i64 ((↑(x.i):Int)+(1:Int))))] [])))) (K (Exit.exit 0) (sp 29 [] []))):=by kernel_rfl
def MP(x:Lm):=x.i<=x.A.length/\iL x.A=true
def ZW(_:Lm):Out (Exit×S):= .one (.exit 0,sp 29 [] [])
theorem lSg κ:aU (Xc κ).E 12 20 4 (aG 0 Rh MP ZW):=by
 refine aC (fun x=>x.A.length - x.i) ?_;rintro⟨A,i,k⟩ K ⟨d,a⟩ c;refine Eq.mpr (xSg κ ⟨A,i,k⟩ _ _ K) ?_;simp only;have e:=by simp only[iL,ap7] at a;exact a.1
 rw[ae,ap6];refine⟨fun h=>?_,fun h=>c⟩;have b:(true&&decide ((i:Int)<(A.length:Int)))=true:=by simp;omega
 refine ai.2 ⟨b,ai.2 ⟨b,_,rfl,mh a i,_,?_,⟨A,i+1,k⟩,?_,⟨by simp only;omega,a⟩,rfl,c⟩⟩
 ·simp only;omega
 ·simp only[Rh]
  grind [az]
noncomputable def BSg κ:=(Xc κ).loop (lSg _)
theorem ySg κ A K:(a0 (BSg κ).E 12 20 [.ah 51 A, .ah 51 A] [] K)=(
 letI a:=Pg.toProgram (Env.P (EB.E (Xc κ)))
 aq ((↑(A.length):Int) != (↑(A.length):Int)) (K (AV.bool false) []) (ad a 20 4=ad a 20 4/\∃(e0:Lm),sp 29 [(0,AV.ah 51 A),(1,AV.ah 51 A),(5,
 AV.int 0)] []=Rh e0/\MP e0/\K (AV.bool true) [])):=by kernel_rfl
def ah3(A:List AV):List AV×List Dn.Obj:=([.ah 51 A, .ah 51 A],[])
theorem cS9 κ:bd (BSg κ).E 12 20 (aO ah3 (fun A=>iL A=true) SZ):=by
 refine aR ?_;intro A K h a;refine Eq.mpr (ySg _ A K) ?_;simp only[bne_self_eq_false];exact⟨trivial,⟨A,0,0⟩,rfl,⟨Nat.zero_le _,h⟩,a⟩
noncomputable def BS9 κ:=(BSg κ).call (cS9 _)
abbrev chP(c:UInt8):AV:= .lit (.string (ByteArray.mk #[c]))
abbrev vP(c:UInt8):AV:= .agg [.int 1,chP c, .int 0, .nil]
abbrev zP:AV:= .agg [.int 0, .lit (.string (ByteArray.mk #[])), .int 0, .nil]
abbrev dP(c:UInt8):AV:= .agg [chP c, .ah 9 [chP 97,chP 98], .ah 3 [.int 1, .int 1], .bool false, .bool false, .int 0]
abbrev aP(r a b:UInt8):AV:= .agg [chP r, .ah 38 [vP a,vP b]]
abbrev lP(r a b:UInt8):AV:= .agg [.int 1,aP r a b,zP,zP]
abbrev F2:List AV:=[dP 101,dP 112]
abbrev GX:List AV:=[.agg [aP 112 120 121, .ah 80 [lP 101 120 121], .int 0], .agg [aP 112 120 122, .ah 80 [lP 112 120 121,lP 101 121 122], .int 0]]
abbrev rP(a b:Int):List AV:=[.agg [.bool false, .int a, .lit (.string (ByteArray.mk #[]))], .agg [.bool false, .int b, .lit (.string (ByteArray.mk #[]))]]
abbrev PY:List AV:=[.ah 70 [.ah 72 (rP 1 2), .ah 72 (rP 2 3)], .nil]
abbrev T6:List AV:=[.ah 72 (rP 1 2), .ah 72 (rP 1 3), .ah 72 (rP 2 3)]
theorem af8 κ a b K:(a0 (BS9 κ).E 12 40 [.int a, .int b] [] K)=(
 K (AV.ah 72 (rP a b)) []):=by kernel_rfl
def Y0:List AV->Option (Bool×AV)
 |[.int a, .int b]=>some (true, .ah 72 (rP a b))
 |_=>none
theorem af9 κ:Al (BS9 κ).E 12 40 Y0:=by
 intro d x c;unfold Y0 at c;split at c
 ·rename_i a b
  simp   at c;subst c;exact⟨rfl,Eq.mpr (af8 _ a b _) rfl⟩
 grind
noncomputable def Uj κ:=EB.inline (EB.GV ((BS9 κ).fresh (af9 _)) [40]) [41,83]
theorem ySx κ K:(a0 (Uj κ).E 12 17 [] [] K)=(
 letI a:=AV.ah
 letI c:=AV.bool false
 letI b:=(K c []/\K c [])/\K c []
 letI e:=AV.bool true
 ∃(e2:RZ),letI d:=bh (jx e2.ds e2.rs e2.all e2.bc);letI f:=[a 70 (af (nth d 1)),a 70 T6];letI g:=∃(e0:List AV),(f,[])=JK e0/\eR e0=true/\K e [];letI h:=true&&decide ((1:Int)<(↑(List.length d):Int));letI i:=pq e2.ds e2.rs e2.xs e2.all e2.bc==(0:Int);([AV.agg [a 43 F2,a 48 GX],a 51 PY,AV.int 5],[])=F6 e2/\nv e2/\aq (decide (pq e2.ds e2.rs e2.xs e2.all e2.bc=(0:Int))) (∃(e1:RZ),([AV.agg [a 43 F2,a 48 GX],a 51 PY,AV.int 4],[])=F6 e1/\nv e1/\aq (decide (pq e1.ds e1.rs e1.xs e1.all e1.bc=(0:Int))) b (aq (pq e1.ds e1.rs e1.xs e1.all e1.bc==(91:Int)) (aq ((↑(List.length d):Int)==(2:Int)) (aV h (g/\∃(e0:List AV),(f,[])=JK e0/\eR e0=true/\K e [])/\aV h g) b) b)) (∃(e0:RZ),([AV.agg [a 43 F2,a 48 GX],a 51 PY,AV.int 4],[])=F6 e0/\nv e0/\aq (decide (pq e0.ds e0.rs e0.xs e0.all e0.bc=(0:Int))) (aq i b b) (aq i (aq (pq e0.ds e0.rs e0.xs e0.all e0.bc==(91:Int)) b b) b))):=by kernel_rfl
abbrev rM:List RL:=[[rP 1 2,rP 2 3],[]]
theorem Rb:mZ F2 GX=true:=by kernel_rfl
theorem prP:iQ F2 GX:=⟨jU Rb,by kernel_rfl⟩
theorem O3 a b:uB (rP a b):=fun v c=>by
 rcases List.mem_cons.1 c with rfl|c
 ·exact⟨rfl,rfl⟩
 ·rcases List.mem_cons.1 c with rfl|c
  ·exact⟨rfl,rfl⟩
  grind
theorem Zt: ∀L,L∈rM->xe L:=fun L b=>by
 rcases List.mem_cons.1 b with rfl|b
 ·refine⟨by decide,fun r a=>?_,fun r a=>?_⟩
  ·grind
  ·rcases List.mem_cons.1 a with rfl|a
   ·exact O3 1 2
   simp_all[O3]
 ·rcases List.mem_cons.1 b with rfl|b
  ·exact⟨Nat.zero_le _,by simp,fun r a=>(nomatch a)⟩
  ·cases b
theorem nQ:InX PY rM:=⟨rfl,by simp,fun i=>by
 match i with
 |0=>rfl
 |1=>rfl
 |i+2=>rfl,Zt⟩
theorem evP bc(h:bc<=50):iG F2 GX bc (rM.map ej):=by
 have c:rM.map ej=rM:=by kernel_rfl
 rw[c];refine⟨prP,⟨rfl,fun L b=>(Zt L b).v,fun L b=>?_,fun i r a=>?_⟩,fun r a=>?_,h,by decide⟩
 ·rcases List.mem_cons.1 b with rfl|b
  ·kernel_rfl
  ·rcases List.mem_cons.1 b with rfl|b
   ·rfl
   ·cases b
 ·match i,a with
  | 0,a=>
   rcases List.mem_cons.1 a with rfl|a
   ·rfl
   ·rcases List.mem_cons.1 a with rfl|a
    ·rfl
    ·cases a
  |1,a=>cases a
  |i+2,a=>cases a
 ·rcases List.mem_cons.1 a with rfl|a
  ·kernel_rfl
  ·rcases List.mem_cons.1 a with rfl|a
   ·kernel_rfl
   ·cases a
theorem Oz bc(a:1<=bc)(h:bc<=50):nv ⟨F2,GX,PY,rM,bc⟩:=
 ⟨prP.s,by rfl,fun _=>nQ,⟨a,h⟩,fun _ _=>evP _ h⟩
theorem e5:pq F2 GX PY rM 5=0:=by kernel_rfl
theorem e4:pq F2 GX PY rM 4=91:=by kernel_rfl
theorem r5:bh (jx F2 GX rM 5)=[.ah 70 (rws [rP 1 2,rP 2 3]), .ah 70 T6]:=by kernel_rfl
def X3(_:Unit):List AV×List Dn.Obj:=([],[])
def X2(_:Unit):Out (AV×List Dn.Obj):= .one (.bool true,[])
theorem cSx κ:bd (Uj κ).E 12 17 (aO X3 (fun _=>True) X2):=by
 refine aR ?_;rintro⟨⟩ K _ a
 replace a:K (.bool true) []:=a
 refine Eq.mpr (ySx κ K) ⟨⟨F2,GX,PY,rM,5⟩,rfl,Oz 5 (by decide) (by decide),?_⟩;refine ae.2 ⟨fun _=>⟨⟨F2,GX,PY,rM,4⟩,rfl,Oz 4 (by decide) (by decide),ae.2 ⟨fun e=>?_,fun _=>ae.2 ⟨fun _=>?_,fun e=>?_⟩⟩⟩,fun e=>?_⟩
 ·rw[e4] at e;cases e
 ·have b:([AV.ah 70 (af (nth (bh (jx F2 GX rM 5)) 1)),AV.ah 70 T6],[])=JK T6:=by rw[r5];rfl
  have c:eR T6=true:=by kernel_rfl
  have d:(true&&decide ((1:Int)<((bh (jx F2 GX rM 5)).length:Int)))=true:=by rw[r5];rfl
  refine ae.2 ⟨fun _=>⟨ai.2 (by grind),ai.2 ⟨d,T6,b,c,a⟩⟩,fun e=>?_⟩;rw[r5] at e;cases e
 ·rw[e4] at e;cases e
 ·have e: ¬ pq F2 GX PY rM 5=0:=of_decide_eq_false e
  exact absurd e5 e
noncomputable def Xi κ:=(Uj κ).call (cSx _)
structure ALm where
 R:List RL
 bc:Int
 i:Nat
structure TS(xs:List AV):Prop where
 f:iL xs=true
 r: ∀x,x∈xs->∀r,r∈af x->r= .ah 72 (af r)
 v: ∀x,x∈xs->∀r,r∈af x->∀v,v∈af r->v=e6 (Es v)
def fE(xs:List _):=xs.map fun x=>cU (af x)
theorem Hw: ∀{l},(∀r,r∈l->r= .ah 72 (af r))->rws (cU l)=l
 |[],_=>rfl
 |a::l,h=>by
  have c:=h a (by simp);have b:=Hw (l:=l) (by grind);show AV.ah _ _::rws (cU l)=a::l
  grind
theorem Mw: ∀{t b},Jv t b=true->(∀v,v∈t->v=e6 (Es v))->uB t
 |[],[],_,_,v,c=>nomatch c
 | v::t,k::b,h,d,w,a=>by
  simp only[Jv,ap7] at h;rcases List.mem_cons.1 a with rfl|a
  ·refine⟨d _ (by simp),?_⟩
   grind [Xe]
  ·exact Mw h.2 (by grind) w a
theorem Dr: ∀{xs ds},qf xs ds=true->∀i,i<xs.length->x1 (af (nth xs i)) (af (ag (nth ds i) 2))=true
 |[],_,_,i,a=>absurd a (by simp)
 |x::xs,[],h,_,_=>by cases h
 |x::xs,d::ds,h,i,a=>by
  rw[qf,ap7] at h;cases i with
  |zero=>exact h.1
  |succ i=>exact Dr h.2 i (by grind)
theorem u9 xs i:(fE xs).getD i []=cU (af (nth xs i)):=by
 grind [aM,fE,eV,af,cU]
structure ad3(ds rs xs:List AV):Prop where
 i:InX xs (fE xs)
 l:xs.length=ds.length
 w: ∀i r,r∈(fE xs).getD i []->r.length=GC ds i
theorem Mb{ds n xs}(l:TS xs)(t:xs.length<=60)(h:jZ ds n xs=true):ad3 ds n xs:=by
 simp only[jZ,ap7,ap6] at h;obtain⟨_,s,p⟩:=h;have d: ∀i,i<xs.length->nth xs i∈xs:=fun i a=>by rw[aM _ i a];exact List.getElem_mem _
 have ty:=fun i a r b=>by
  have m:=Dr p i a;simp only[x1,ap7,WE,List.all_eq_true] at m;exact m.1 r b
 have e: ∀L,L∈fE xs->∃i,i<xs.length/\L=cU (af (nth xs i)):=fun L j=>by
  obtain⟨i,a,rfl⟩:=List.getElem_of_mem j;have g:i<xs.length:=by simpa[fE] using a
  exact⟨i,g,by rw[←u9];simp[List.getD_eq_getElem?_getD,a]⟩
 refine⟨⟨by simp[fE],by simp[fE];omega,fun i=>?_,fun L j=>?_⟩,s,fun i r b=>?_⟩
 ·rw[u9]
  rcases Nat.lt_or_ge i xs.length with a|a
  ·exact(Hw fun r b=>l.r _ (d i a) r b).symm
  ·rw[eV _ i a];rfl
 ·obtain⟨i,a,rfl⟩:=e L j
  have o:=mh l.f i;refine⟨by rw[lx];exact iX o,fun r b=>?_,fun r b=>?_⟩
  ·obtain⟨x,c,rfl⟩:=List.mem_map.1 b
   obtain⟨k,q,rfl⟩:=List.getElem_of_mem c;have:=lK o k
   rwa [aM _ k q] at this
  ·obtain⟨x,c,rfl⟩:=List.mem_map.1 b
   exact Mw (ty i a x c) (l.v _ (d i a) x c)
 ·rw[u9] at b
  rcases Nat.lt_or_ge i xs.length with a|a
  ·obtain⟨x,c,rfl⟩:=List.mem_map.1 b
   exact Ah _ _ (ty i a x c)
  ·rw[eV _ i a] at b;cases b
theorem Ia: ∀xs n,uE xs n=true->n<=20->n+cC (fE xs)<=20
 |[],n,_,h=>h
 |x::xs,n,h,_=>by
  simp[uE] at h;have:=Ia _ _ h.2.2 h.1
  grind [cC,fE,lx]
theorem IY: ∀a,cC (a.map ej)<=cC a
 |[]=>Nat.le_refl _
 |L::a=>by
  have b:=IY a
  grind [sk,cC]
theorem YE{ds b xs}(p:TS xs)(a:jy ds b xs=true)(h:(uQ ds b).2=0)(s:jZ ds b xs=true){bc}(q:bc<=50):iG ds b bc ((fE xs).map ej):=by
 simp only[jy,ap7,ap6,List.all_eq_true] at a;obtain⟨j,x,m,n,o⟩:=a;have c:=Mb p m s;have k:(lZ ds b).2=0:=by
  unfold uQ at h
  grind
 have t:=Ia xs 0 o (by omega);have u:=IY (fE xs);refine⟨⟨jU j,k⟩,⟨?_,fun L a=>?_,fun L a=>?_,fun i r g=>?_⟩,n,q,by omega⟩
 ·rw[List.length_map,fE,List.length_map];exact c.l
 ·obtain⟨M,e,rfl⟩:=List.mem_map.1 a
  exact(jH (c.i.f M e).v).2.2
 ·obtain⟨M,e,rfl⟩:=List.mem_map.1 a
  exact(jH (c.i.f M e).v).1
 ·refine c.w i r ?_
  rcases Nat.lt_or_ge i (fE xs).length with d|d
  ·rw[List.getD_eq_getElem?_getD,List.getElem?_map,ar0 d] at g
   rw[List.getD_eq_getElem?_getD,ar0 d];exact((jH (c.i.f _ (List.getElem_mem d)).v).2.1 r).1 g
  grind
theorem u0{ds d xs}(a:TS xs)(b:jy ds d xs=true){bc}(k:1<=bc)(e:bc<=50):nv ⟨ds,d,xs,fE xs,bc⟩:=by
 have h:=b;simp[jy] at h;have g:=jU h.1;exact⟨g,by rw[HL g,a.f];rfl,fun c=>(Mb a h.2.2.1 c).i,⟨k,e⟩,fun l j=>YE a b l j e⟩
theorem Ra{ds b xs a n}(i:(uQ ds b).2=0->jZ ds b xs=true->iG ds b n (a.map ej))(h:pq ds b xs a n=0):pq ds b xs a (n+1)=0/\jx ds b a (n+1)=jx ds b a n/\cC (jx ds b a n)<=n/\iG ds b n (jx ds b a n):=by
 unfold pq at h⊢;by_cases g:(uQ ds b).2=0
 ·rw[aq2 g,Bool.not_true,aq1] at h⊢
  cases f:jZ ds b xs with
  |false=>rw[f] at h;cases h
  | true=>
   rw[f,Bool.not_true,aq1] at h;have d:=i g f;by_cases c:n<cC (jx ds b a n)
   ·grind
   ·have e:=(BD d.p n (Lk ds b) (a.map ej) d.A).2.2 (show cC (jx ds b a n)<=n by omega)
    grind [jx,iG.eval]
 grind
end Go.Proofs.YtioeffnadipbaaaGreatDoor
