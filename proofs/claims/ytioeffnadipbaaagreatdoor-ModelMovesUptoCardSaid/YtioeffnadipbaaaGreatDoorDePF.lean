import Derived.Test.YtioeffnadipbaaaGreatDoorDePE
import Derived.Test.YtioeffnadipbaaaGreatDoorDeP4
namespace Go.Proofs.YtioeffnadipbaaaGreatDoor
open Go Go.Dn Go.Rl Go.Proofs
theorem sI A B:(ew A B).length<=A.length+B.length:=by
 match A,B with
 |[],B=>rw[B4];simp
 |a::c,[]=>
  have:=sI c []
  grind [Bz]
 |a::c,b::d=>
  have f:=sI c (b::d);have g:=sI c d;have e:=sI (a::c) d;rw[AN]
  grind
termination_by A.length+B.length
def vv(l:List _):=(l.filter fun x=>toInt (af x 0)==1).length
def Ly r:=decide (vv (ag (af r 1))<=3)
theorem Fy{p}: ∀n {l:List _},l.Nodup->(∀x,x∈l->x<n)->(l.filter p).length<=((List.range n).filter p).length:=by
 intro n l d e;have c:(l.filter p).Nodup:=d.filter _;have g: ∀x,x∈l.filter p->x∈(List.range n).filter p:=fun x h=>by
  grind
 generalize l.filter p=a at*
 generalize (List.range n).filter p=b at*
 clear d e;induction a generalizing b with
 |nil=>exact Nat.zero_le _
 |cons x a f=>
  rw[List.nodup_cons] at c;have:=f c.2 (b.erase x) (by grind)
  grind
theorem rT q: ∀l:List _,((List.range l.length).filter fun k=>q (nth l k)).length=(l.filter q).length
 |[]=>rfl
 | a::l=>by
  have b:=rT q l;rw[List.length_cons,List.range_succ_eq_map,List.filter_cons,List.filter_cons];have e:((List.range l.length).map Nat.succ).filter (fun k=>q (nth (a::l) k))=((List.range l.length).filter fun k=>q (nth l k)).map Nat.succ:=by
   rw[List.filter_map];rfl
  grind [nth]
theorem Vz{ds b r a}:Bc (E4 ds b r a) (cO (aM r))<=vv r.bl:=by
 have h:=Fy (p:=fun k=>toInt (af (nth r.bl k) 0)==1) _ (Dt (aM r)) fun x c=>by
  have:=rI c
  rwa [fY] at this
 rw[rT (fun t=>toInt (af t 0)==1) _] at h;exact h
variable {ds rs:List AV}
theorem Me(h:gN ds rs) i:FN ds i<=100:=by
 have b:=(qE.1 h.c).1;simp only[fc,ao0,List.all_eq_true] at b;rcases Nat.lt_or_ge i ds.length with a|a
 ·have:=b.1.2 _ (show nth ds i∈ds by grind [aV])
  grind [JC,DP,FN]
 ·unfold FN
  rw[fS _ i a];exact Nat.zero_le _
theorem YQ(h:gN ds rs){r}(a:r∈rs):(dg r).hl.length<=8:=by
 have b:=(vd h.s h.c a).r
 grind [ba,nc,aM,eE]
theorem Oc(h:gN ds rs){r}(j:r∈rs)(d:Ly r=true){a}(i:cw a<=50):(Lr.V ⟨ds,rs,dg r,a⟩).length<=125000:=by
 have f: ∀b,((E4 ds rs (dg r) a).at b).length<=50:=fun b=>by
  rw[tv,dZ];rcases Nat.lt_or_ge _ a.length with c|c
  ·exact Nat.le_trans (sk (mn c)) i
  grind
 have g:=B5 f (by omega) (cO (aM (dg r))) [];have e:Bc (E4 ds rs (dg r) a) _<=3:=Nat.le_trans Vz (of_decide_eq_true d);exact Nat.le_trans g (Nat.le_trans (Nat.pow_le_pow_right (by omega) e) (by decide))
theorem ZP(h:gN ds rs){r}(b:r∈rs)(j:Ly r=true){a}(e:dC ds a)(f:cw a<=50):qK ⟨ds,rs,dg r,a⟩:=by
 have hl:=Oc h b j f;refine⟨vd h.s h.c b,Pj h.s h.c b e fun L i=>?_,⟨by grind,fun x g=>?_,so (uS e.v) _ I8⟩⟩
 ·have:L.length<=cw a:=sk i
  omega
 ·have d:=A2 _ g
  have k:=YQ h b;have d:x.length=(dg r).hl.length:=d;omega
theorem HW(h:gN ds rs){a}(b:dC ds a) i x(c:x∈a.getD i []):x.length<=100000000:=by
 have d:=b.w i x c
 grind [Me]
theorem ZA(h:gN ds rs){r}(e:r∈rs)(j:Ly r=true){a}(b:dC ds a)(m:cw a<=50):wu (rws (a.getD (atR ds r) []),rws (dG ds rs (dg r) a)):=by
 obtain⟨g,k,f⟩:=uV h e b;have i:atR ds r<a.length:=by rw[b.len];exact(h.at e).2
 have d:=mn i;have l:=Oc h e j m;have n:(dG ds rs (dg r) a).length<=125000:=Nat.le_trans (qX _) l;have p:=sk d;have o:=Me h (atR ds r);refine⟨⟨rX (by omega) (HW h b _),rX (by omega) (fun x c=>by have:=f x c;omega),?_,fun x c=>?_⟩,?_,?_⟩
 ·simp only[m9]
  have:=sI (a.getD (atR ds r) []) (dG ds rs (dg r) a)
  rw[ew,List.length_map] at this;omega
 ·simp only[m9] at c
  have:x.1∈ew (a.getD (atR ds r) []) (dG ds rs (dg r) a):=List.mem_map_of_mem c
  rcases(gy (b.v _ d) g).1 this with h|h
  ·have:=b.w _ _ h;omega
  ·have:=f _ h;omega
 ·simp only[m9];exact b.r _ d
 ·simp only[m9];exact k
theorem D7(h:gN ds rs){r}(b:r∈rs)(c:Ly r=true){a}(d:dC ds a)(e:cw a<=50):cw (iP ds rs r a)<=200000:=by
 obtain⟨_,_,f⟩:=pJ h b d;have g:=sI (a.getD (atR ds r) []) (dG ds rs (dg r) a);have i:(dG ds rs (dg r) a).length<=125000:=Nat.le_trans (qX _) (Oc h b c e);omega
end Go.Proofs.YtioeffnadipbaaaGreatDoor
namespace Go.Proofs.YtioeffnadipbaaaGreatDoor
open Go Go.Dn Go.Rl Go.Proofs
attribute [local irreducible] a9 vc
set_option maxRecDepth 20000
structure Rk where
 ds:List AV
 rs:List AV
 g:List Int
 aQ:Nat
 all:List RL
 more:Bool
 i:Nat
abbrev yq(a:List RL):Dn.Obj:= .row 51 (a8 a)
abbrev Sh(r:AV):AV:= .agg [.agg [.lit (.string (toStr (af (af r 0) 0))), .ah 38 (ag (af (af r 0) 1))], .ah 80 (ag (af r 1)), .int (toInt (af r 2))]
abbrev Lq ds b g c n aQ i a:=sp 71 [(1, .ah 3 g),(2, .an 0 0 n),(3, .int aQ),(4, .ptr 1 0 [] 0),(9, .bool a),(16, .ah 48 b),(17, .int b.length),(18, .int i)] [.row 51 c, .box 25 (eg ds b)]
abbrev JN(x:Rk):=Lq x.ds x.rs (iA x.g) (a8 x.all) (a8 x.all).length x.aQ x.i x.more
def O9:dM:=fun b st K=>∃a,(b,st)=Jw a/\qK a/\K (.ah 70 (rws (dG a.ds a.rs a.r a.all))) st
theorem GC:O9.gn:=fun _ _ _ _ c ⟨a,d,e,b⟩=>⟨a,d,e,c _ _ b⟩
theorem V1 b st K(h:O9 b st K):aO Jw qK TC b st K:=by
 obtain⟨a,d,e,c⟩:=h;obtain⟨rfl,rfl⟩:=Prod.mk.inj d;exact⟨a,rfl,e,c⟩
theorem UQ κ a st K(h:O9 a st K):(BUn κ).E.call 50 a st K:=V1 _ _ K h
noncomputable def UJ κ:=EB.VM _ GC (UQ κ)
theorem xGw(κ:Kp)(x:Rk) I(N:Nat) K:(vc (UJ κ).E 12 46 none 1 (ae (Pr κ).toProgram 46 3) (JN x) (bj (UJ κ).E 46 3 1 I N K))=(
 letI a:=Obj.box
 letI b:=AV.ah
 letI c:=List.length (a8 x.all)
 letI f:=IntKind.wrap IntKind.i64 ((↑(x.i):Int)+(1:Int))
 letI j:=nth x.rs (Int.toNat (↑(x.i):Int))
 letI l:=a 25 (eg x.ds x.rs)=a 25 (eg x.ds x.rs)/\a 48 (Sh j)=a 48 (Sh j)/\True
 letI m:=List.take c (List.drop 0 (a8 x.all))
 letI n:=(↑(x.i):Int)<(↑(x.rs.length):Int)
 ak (decide n) (aR (true&&decide n) (∃(e3:List AV×ByteArray),letI d:=decide ((0:Int)<=bw e3.2 e3.1)&&decide (bw e3.2 e3.1<(↑c:Int));letI e:=bw e3.2 e3.1;letI k:=ag (nth (a8 x.all) (0+Int.toNat e));([b 43 x.ds,AV.str (toStr (af (af j 0) 0))],[])=Ho e3/\iw e3/\aR (decide (List.length m<=100000)&&decide (jy m<=1000000000)) (ak (decide ((↑(jy m):Int)>(↑(x.aQ):Int))) (K Exit.ret (sp 71 [(8,AV.bool false)] [yq x.all])) (aR (decide (List.length (iA x.g)<=9223372036854775807)) (ak (!YL e (iA x.g)) (∃(e0:Nat),e0<N/\I e0 (Lq x.ds x.rs (iA x.g) (a8 x.all) c (↑(x.aQ):Int) f x.more)) (aR d (aR d ((∃(e2:Lr),([eg x.ds x.rs,Sh j,AV.an 0 0 c],[yq x.all])=Jw e2/\qK e2/\l/\∃(e1:Xe),letI g:=bt (a8 x.all) (0+Int.toNat e) (b 70 (List.take (List.length (ew (dn e1.1) (dn e1.2))) (List.drop 0 (rws (ew (dn e1.1) (dn e1.2))))));([b 70 k,b 70 (rws (dG e2.ds e2.rs e2.r e2.all))],[])=Qt e1/\wu e1/\aR d (ak x.more (∃(e0:Nat),e0<N/\I e0 (Lq x.ds x.rs (iA x.g) g c (↑(x.aQ):Int) f true)) (aR d (∃(e0:Nat),e0<N/\I e0 (Lq x.ds x.rs (iA x.g) g c (↑(x.aQ):Int) f (decide ((↑(List.length (ag (nth g (0+Int.toNat e)))):Int)>(↑(List.length k):Int))))))))/\∃(e2:Lr),([eg x.ds x.rs,Sh j,AV.an 0 0 c],[yq x.all])=Jw e2/\qK e2/\l/\∃(e1:Xe),letI h:=bt (a8 x.all) (0+Int.toNat e) (b 70 (List.take (List.length (ew (dn e1.1) (dn e1.2))) (List.drop 0 (rws (ew (dn e1.1) (dn e1.2))))));([b 70 k,b 70 (rws (dG e2.ds e2.rs e2.r e2.all))],[])=Qt e1/\wu e1/\aR d (ak x.more (∃(e0:Nat),e0<N/\I e0 (Lq x.ds x.rs (iA x.g) h c (↑(x.aQ):Int) f true)) (aR d (∃(e0:Nat),e0<N/\I e0 (Lq x.ds x.rs (iA x.g) h c (↑(x.aQ):Int) f (decide ((↑(List.length (ag (nth h (0+Int.toNat e)))):Int)>(↑(List.length k):Int))))))))/\∃(e2:Lr),([eg x.ds x.rs,Sh j,AV.an 0 0 c],[yq x.all])=Jw e2/\qK e2/\l/\aR d (∃(e1:Xe),letI i:=bt (a8 x.all) (0+Int.toNat e) (b 70 (List.take (List.length (ew (dn e1.1) (dn e1.2))) (List.drop 0 (rws (ew (dn e1.1) (dn e1.2))))));([b 70 k,b 70 (rws (dG e2.ds e2.rs e2.r e2.all))],[])=Qt e1/\wu e1/\aR d (ak x.more (∃(e0:Nat),e0<N/\I e0 (Lq x.ds x.rs (iA x.g) i c (↑(x.aQ):Int) f true)) (aR d (∃(e0:Nat),e0<N/\I e0 (Lq x.ds x.rs (iA x.g) i c (↑(x.aQ):Int) f (decide ((↑(List.length (ag (nth i (0+Int.toNat e)))):Int)>(↑(List.length k):Int))))))))))))))) (K (Exit.exit 0) (sp 71 [(9,AV.bool x.more)] [yq x.all]))):=by kernel_rfl
theorem gh a:(a8 a).length=a.length:=by simp
theorem M4 W:(rws W).take W.length=rws W:=by grind [dZ]
theorem Eb W: ∀a k,bt (a8 a) k (.ah 70 (rws W))=a8 (a.set k W)
 |[],0=>rfl
 |[],_+1=>rfl
 |_::_,0=>rfl
 |L::a,k+1=>by
  have:=Eb W a k
  grind [bt]
def xR(ds b:List AV)(g:List Int)(aQ:Nat):List AV->List RL->Bool
 |[],_=>false
 |r::xs,a=>bif decide (aQ<cw a) then true
  else bif !g.contains (bw (dg r).rel ds) then xR ds b g aQ xs a
  else xR ds b g aQ xs (iP ds b r a)
theorem tk{ds d g aQ}: ∀xs a m,xR ds d g aQ xs a=true->(cu ds d g aQ xs a m).2=false
 |[],_,_,h=>by cases h
 | r::xs,a,m,h=>by
  rw[xR] at h;rw[cu];cases c:decide (aQ<cw _) with
  |true=>rfl
  |false=>
   rw[c] at h;cases b: !g.contains _ with
   |true=>rw[b] at h;exact tk xs _ m h
   |false=>rw[b] at h;exact tk _ _ _ h
structure qD(x:Rk):Prop where
 p:gN x.ds x.rs
 A:dC x.ds x.all
 t: ∀r,r∈x.rs->Ly r=true
 l:x.aQ<=50
 n:cw x.all<=200000
 g:x.g.length<=100000
 i:x.i<=x.rs.length
def wY(x:Rk):Out (Exit×S):= .ak (xR x.ds x.rs x.g x.aQ (x.rs.drop x.i) x.all)
 (.one (.ret,sp 71 [(8, .bool false)] [yq (cu x.ds x.rs x.g x.aQ (x.rs.drop x.i) x.all x.more).1]))
 (.one (.exit 0,sp 71 [(9, .bool (cu x.ds x.rs x.g x.aQ (x.rs.drop x.i) x.all x.more).2)] [yq (cu x.ds x.rs x.g x.aQ (x.rs.drop x.i) x.all x.more).1]))
theorem Fc{ds a}(h:gN ds a):ds.length<=60:=by
 have b:=(qE.1 h.c).1
 grind [fc]
theorem lGw κ:aX (UJ κ).E 12 46 3 (aG 1 JN qD wY):=by
 refine aD (fun x=>x.rs.length - x.i) ?_;rintro⟨ds,b,g,aQ,a,j,i⟩ K r f;have k:=r.p;have v:=r.A;have O:=r.l;have Q:=r.n;have F:=r.g;have I:=r.i;have J:=k.s.2.1;have hdl:ds.length<=60:=Fc k;have o:=v.len;simp only[aW] at k v O Q F I J o;rw[show(UJ κ).E.P=Pr κ from rfl];refine Eq.mpr (xGw κ ⟨ds,b,g,aQ,a,j,i⟩ _ _ K) ?_;simp only[Int.toNat_natCast,ao9,List.take_length,Nat.zero_add];rw[ad,an9,ao1];refine⟨fun h=>?_,fun h=>?_⟩
 ·have H:i<b.length:=by omega
  have w:nth b i∈b:=by rw[aV _ i H];exact List.getElem_mem _
  have C:=k.at w;have L:=r.t _ w;have hd:b.drop i=nth b i::b.drop (i+1):=by rw[ap0 H,←aV b i H]
  have Y:IntKind.wrap .i64 ((i:Int)+1)=((i+1:Nat):Int):=by rw[az (by omega) (by omega)];omega
  have q: ∀d z,dC ds d->cw d<=200000->((wY ⟨ds,b,g,aQ,d,z,i+1⟩).run fun y=>K y.1 y.2)->∃m,m<b.length - i/\et JN qD wY (fun x=>x.rs.length - x.i) K m (Lq ds b (iA g) (a8 d) (a8 d).length aQ (IntKind.wrap .i64 ((i:Int)+1)) z):=fun d z V T Z=>
   ⟨_,by simp only;omega,⟨ds,b,g,aQ,d,z,i+1⟩,by rw[Y],⟨k,V,r.t,O,T,F,H⟩,rfl,Z⟩
  unfold wY at f;simp only[hd] at f;rw[xR,cu] at f;refine ai.2 ⟨by simp;omega,⟨ds,(dg (nth b i)).rel⟩,rfl,k.s.1,ai.2 ⟨?_,?_⟩⟩
  ·rw[x4,gh,ao0,an9,an9];omega
  ·simp only[x4]
   rw[ad,an9,ao1];refine⟨fun c=>?_,fun c=>?_⟩
   ·rw[ao5 (show aQ<cw a by omega)] at f
    exact f
   ·have c: ¬ aQ<cw a:=by omega
    rw[ao3 c,ao4,ao4] at f;refine ai.2 ⟨by rw[an9,jw];omega,?_⟩;rw[M1,ad];refine⟨fun e=>?_,fun e=>?_⟩
    ·rw[e,ao6,ao6] at f
     exact q a j v Q f
    ·rw[e,ao4,ao4] at f
     have B:(decide (0<=bw (dg (nth b i)).rel ds)&&decide (bw (dg (nth b i)).rel ds<((a8 a).length:Int)))=true:=by
      rw[gh,o,ao0,an9,an9];exact C.1
     obtain⟨s1,s2,s3⟩:=pJ k w v;have U:=ZP k w L v (by omega);have R:=ZA k w L v (by omega);have X:=D7 k w L v (by omega);have D:(a8 (iP ds b (nth b i) a)).length=(a8 a).length:=by rw[gh,gh,s1.len,o]
     have N:atR ds (nth b i)<a.length:=by rw[o];exact C.2
     have u:=fun z=>q (iP ds b (nth b i) a) z s1 X
     rw[D] at u;have hd:decide (((ag (nth (a8 (a.set (atR ds (nth b i)) (ew (a.getD (atR ds (nth b i)) []) (dG ds b (dg (nth b i)) a)))) (atR ds (nth b i)))).length:Int)>((ag (nth (a8 a) (atR ds (nth b i)))).length:Int))=decide ((a.getD (atR ds (nth b i)) []).length<(ew (a.getD (atR ds (nth b i)) []) (dG ds b (dg (nth b i)) a)).length):=by
      have F: ∀W:RL,(a.set (atR ds (nth b i)) W).getD (atR ds (nth b i)) []=W:=fun W=>by
       rw[List.getD_eq_getElem?_getD,List.getElem?_set_self N];rfl
      rw[rr,rr,dZ,dZ,F];exact decide_eq_decide.2 (by omega)
     refine ai.2 ⟨B,ai.2 ⟨B,?_,?_⟩,?_⟩
     all_goals
      refine⟨⟨ds,b,dg (nth b i),a⟩,rfl,U,(by refine⟨?_,?_,trivial⟩<;>first|exact trivial|rfl),?_⟩
      first
      |refine⟨(rws (a.getD (atR ds (nth b i)) []),rws (dG ds b (dg (nth b i)) a)),by rw[←rr];rfl,R,ai.2 ⟨B,?_⟩⟩
      |refine ai.2 ⟨B,⟨(rws (a.getD (atR ds (nth b i)) []),rws (dG ds b (dg (nth b i)) a)),by rw[←rr];rfl,R,ai.2 ⟨B,?_⟩⟩⟩
      simp only[m9,M4];change ak j (∃m,m<b.length - i/\et JN qD wY (fun x=>x.rs.length - x.i) K m (Lq ds b (iA g) (bt (a8 a) (atR ds (nth b i)) (.ah 70 (rws (ew (a.getD (atR ds (nth b i)) []) (dG ds b (dg (nth b i)) a))))) (a8 a).length aQ (IntKind.wrap .i64 ((i:Int)+1)) true)) (aR _ (∃m,m<b.length - i/\et JN qD wY (fun x=>x.rs.length - x.i) K m (Lq ds b (iA g) (bt (a8 a) (atR ds (nth b i)) (.ah 70 (rws (ew (a.getD (atR ds (nth b i)) []) (dG ds b (dg (nth b i)) a))))) (a8 a).length aQ (IntKind.wrap .i64 ((i:Int)+1)) (decide (((ag (nth (bt (a8 a) (atR ds (nth b i)) (.ah 70 (rws (ew (a.getD (atR ds (nth b i)) []) (dG ds b (dg (nth b i)) a))))) (atR ds (nth b i)))).length:Int)>((ag (nth (a8 a) (atR ds (nth b i)))).length:Int))))));rw[Eb,hd];cases j with
      |true=>exact u true f
      |false=>exact ai.2 ⟨B,u _ f⟩
 ·unfold wY at f
  rw[ao7 (by simp only;omega)] at f;exact f
noncomputable def Uv κ:=(UJ κ).loop (lGw _)
theorem yGw κ(x:Rk) K:(a9 (Uv κ).E 12 46 [eg x.ds x.rs, .ah 3 (iA x.g), .an 0 0 (a8 x.all).length, .int x.aQ] [yq x.all] K)=(
 ae (Pg.toProgram (Env.P (EB.E (UJ κ)))) 46 3=ae (Pg.toProgram (Env.P (EB.E (UJ κ)))) 46 3/\∃(a:Rk),letI b:=cu a.ds a.rs a.g a.aQ (List.drop a.i a.rs) a.all a.more;Lq x.ds x.rs (iA x.g) (a8 x.all) (List.length (a8 x.all)) (↑(x.aQ):Int) (0:Int) false=JN a/\qD a/\ak (xR a.ds a.rs a.g a.aQ (List.drop a.i a.rs) a.all) (K (AV.bool false) [yq (Prod.fst b)]) (K (AV.bool (Prod.snd b)) [yq (Prod.fst b)])):=by kernel_rfl
def TE(x:Rk):=([eg x.ds x.rs, .ah 3 (iA x.g), .an 0 0 (a8 x.all).length, .int x.aQ],[yq x.all])
def Wz(x:Rk):Out (AV×List Dn.Obj):= .one (.bool (cu x.ds x.rs x.g x.aQ x.rs x.all false).2,[yq (cu x.ds x.rs x.g x.aQ x.rs x.all false).1])
theorem cGw κ:bg (Uv κ).E 12 46 (aO TE qD Wz):=by
 refine aU ?_;rintro⟨ds,e,g,aQ,b,d,i⟩ K a c
 replace c:K _ _:=c
 refine Eq.mpr (yGw κ _ K) ⟨rfl,⟨ds,e,g,aQ,b,_,0⟩,rfl,⟨a.p,a.A,a.t,a.l,a.n,a.g,Nat.zero_le _⟩,?_⟩
 grind [ad,tk]
noncomputable def RP κ:=(Uv κ).call (cGw _)
abbrev evS ds c xs a b aQ i n:=sp 67 [(2, .int aQ),(3, .ptr 0 0 [] 0),(8, .an 1 0 (j2 b).length),(11, .an 2 0 n),(38, .ah 51 xs),(39, .int xs.length),(40, .int i)] [.box 25 (eg ds c), .row 35 (j2 b), .row 51 a]
theorem xEa κ ds rs xs ALL gs aQ(i:Nat) I N K:(vc (RP κ).E 12 19 none 0 (ae (Pr κ).toProgram 19 10) (evS ds rs xs ALL gs aQ i ALL.length) (bj (RP κ).E 19 10 0 I N K))=(
 letI a:=(↑i:Int)<(↑(xs.length):Int)
 ak (decide a) (aR (true&&decide a) (∃(e1:RL),([AV.ah 70 (ag (nth xs (Int.toNat (↑i:Int))))],[])=Q9 e1/\wA e1/\aR (decide ((ALL.length+1+1)*
 25<=70368744177664)) (∃(e0:Nat),e0<N/\I e0 (evS ds rs xs (List.take ALL.length ALL++[AV.ah 70 (rws (eM e1))]) gs aQ (IntKind.wrap IntKind.i64 ((↑i:
 Int)+(1:Int))) (ALL.length+1))))) (K (Exit.exit 1) (sp 67 [(2,AV.int aQ),(3,AV.ptr 0 0 [] 0),(8,AV.an 1 0 (List.length (j2 gs))),(11,AV.an 2 0
 ALL.length)] [Obj.box 25 (eg ds rs),Obj.row 35 (j2 gs),Obj.row 51 ALL]))):=by kernel_rfl
structure Xl where
 ds:List AV
 rs:List AV
 xs:List AV
 gs:List (List Int)
 aQ:Int
 all:List RL
 i:Nat
abbrev Sb(x:Xl):=evS x.ds x.rs x.xs (a8 ((x.all.take x.i).map eM)) x.gs x.aQ x.i (a8 ((x.all.take x.i).map eM)).length
structure InX(xs:List AV)(all:List RL):Prop where
 len:xs.length=all.length
 n:all.length<=100000
 a: ∀i,ag (nth xs i)=rws (all.getD i [])
 f: ∀L,L∈all->wA L
def E6(x:Xl):=x.i<=x.xs.length/\InX x.xs x.all
def aa1(x:Xl):Out (Exit×S):= .one (.exit 1,sp 67 [(2, .int x.aQ),(3, .ptr 0 0 [] 0),(8, .an 1 0 (j2 x.gs).length),(11, .an 2 0 (a8 (x.all.map eM)).length)] [.box 25 (eg x.ds x.rs), .row 35 (j2 x.gs),yq (x.all.map eM)])
theorem lEa κ:aX (RP κ).E 12 19 10 (aG 0 Sb E6 aa1):=by
 refine aD (fun x=>x.xs.length - x.i) ?_;rintro⟨ds,j,xs,k,aQ,b,i⟩ K ⟨o,c⟩ d;simp only at o c;rw[show(RP κ).E.P=Pr κ from rfl];refine Eq.mpr (xEa κ ds j xs (a8 ((b.take i).map eM)) k aQ i _ _ K) ?_;simp only[Int.toNat_natCast,List.take_length];have r:=c.n;have q:=c.len;rw[ad,an9,ao1];refine⟨fun h=>?_,fun h=>?_⟩
 ·have g:i<b.length:=by omega
  have p:(b.take (i+1)).map eM=(b.take i).map eM++[eM (b.getD i [])]:=by
   rw[List.take_add_one,List.map_append];simp[g,List.getD_eq_getElem?_getD]
  have m:(a8 ((b.take i).map eM)).length<=100000:=by rw[gh,List.length_map,List.length_take];omega
  refine ai.2 ⟨by simp;omega,b.getD i [],by rw[c.a];rfl,c.f _ (mn g),ai.2 ⟨by rw[an9];omega,_,?_,⟨ds,j,xs,k,aQ,b,i+1⟩,?_,⟨by simp only;omega,c⟩,rfl,d⟩⟩
  ·simp only;omega
  ·have e:a8 ((b.take (i+1)).map eM)=a8 ((b.take i).map eM)++[.ah 70 (rws (eM (b.getD i [])))]:=by rw[p,a8,List.map_append];rfl
   simp only[Sb,e,ap4,List.length_singleton];rw[az (n:=(i:Int)+1) (by omega) (by omega)];rfl
 ·have l:b.take i=b:=List.take_of_length_le (by omega)
  simp only[l];exact d
noncomputable def VO κ:=(RP κ).loop (lEa _)
abbrev ewS ds c b g a aQ i n:=sp 67 [(2, .int aQ),(3, .ptr 0 0 [] 0),(11, .an 1 0 n),(15, .ah 3 g),(50, .an 2 0 (j2 a).length),(51, .int (j2 a).length),(52, .int i)] [.box 25 (eg ds c), .row 51 b, .row 35 (j2 a)]
abbrev Wv ds c b a aQ i n:=sp 67 [(2, .int aQ),(3, .ptr 0 0 [] 0),(11, .an 1 0 n),(50, .an 2 0 (j2 a).length),(51, .int (j2 a).length),(52, .int i)] [.box 25 (eg ds c), .row 51 b, .row 35 (j2 a)]
structure AEw where
 ds:List AV
 rs:List AV
 gs:List (List Int)
 aQ:Nat
 all:List RL
 g:List Int
 i:Nat
 n:Nat
abbrev RI(x:AEw):=ewS x.ds x.rs (a8 x.all) (iA x.g) x.gs x.aQ x.i (a8 x.all).length
theorem xEw κ x I N K:(vc (VO κ).E 12 19 none 0 (ae (Pr κ).toProgram 19 17) (RI x) (bj (VO κ).E 19 17 0 I N K))=(
 letI a:=List.length (a8 x.all)
 ∃(e1:Rk),letI b:=cu e1.ds e1.rs e1.g e1.aQ e1.rs e1.all false;([eg x.ds x.rs,AV.ah 3 (iA x.g),AV.an 0 0 a,AV.int (↑(x.aQ):Int)],[yq x.all])=TE e1/\qD e1/\ak (Prod.snd b) (∃(e0:Nat),e0<N/\I e0 (ewS x.ds x.rs (a8 (Prod.fst b)) (iA x.g) x.gs (↑(x.aQ):Int) (↑(x.i):Int) a)) (K (Exit.exit 5) (Wv x.ds x.rs (a8 (Prod.fst b)) x.gs (↑(x.aQ):Int) (↑(x.i):Int) a))):=by kernel_rfl
theorem vK{ds e}(h:gN ds e)(i: ∀r,r∈e->Ly r=true){aQ}(k:aQ<=50) g: ∀xs a m,(∀r,r∈xs->r∈e)->dC ds a->cw a<=200000->cw (cu ds e g aQ xs a m).1<=200000
 |[],_,_,_,_,f=>f
 | r::xs,a,m,l,j,f=>by
  have d: ∀r,r∈xs->r∈e:=fun r b=>l r (by simp[b])
  have b:=l r (by simp);rw[cu];by_cases c:aQ<cw a
  ·grind
  ·rw[ao3 c]
   cases !g.contains _ with
   |true=>exact vK h i k g xs a m d j f
   |false=>exact vK h i k g xs _ _ d (pJ h b j).1 (D7 h b (i r b) j (by omega))
theorem JH{ds b g aQ a}(h:aQ<cw a): ∀xs,(cu ds b g aQ xs a false).2=false
 |[]=>rfl
 |r::xs=>by grind [cu]
structure ky(ds rs:List AV)(aQ:Nat)(all:List RL):Prop where
 p:gN ds rs
 A:dC ds all
 t: ∀r,r∈rs->Ly r=true
 l:aQ<=50
 n:cw all<=200000
theorem ky.grow{ds b aQ a}(h:ky ds b aQ a) g:ky ds b aQ (cu ds b g aQ b a false).1:=
 ⟨h.p,(lL h.p g _ _ _ _ (by simp) h.A).1,h.t,h.l,vK h.p h.t h.l g _ _ _ (by simp) h.A h.n⟩
theorem ky.loop{ds b aQ} g: ∀n {a},ky ds b aQ a->ky ds b aQ (ej ds b g aQ n a)
 |0,_,h=>h
 |n+1,a,h=>by
  rw[ej];cases(cu _ _ g _ _ _ _).2 with
  |true=>exact ky.loop g n (h.grow g)
  |false=>exact h.grow g
structure Nt(x:AEw):Prop where
 o:ky x.ds x.rs x.aQ x.all
 g:x.g.length<=100000
 f:x.aQ+2<=x.n+cw x.all/\1<=x.n
def ZG(x:AEw):Out (Exit×S):= .one (.exit 5,Wv x.ds x.rs (a8 (ej x.ds x.rs x.g x.aQ x.n x.all)) x.gs x.aQ x.i (a8 x.all).length)
theorem lEw κ:aX (VO κ).E 12 19 17 (aG 0 RI Nt ZG):=by
 refine aD (fun x=>x.n) ?_;rintro⟨ds,b,j,aQ,a,g,i,n⟩ K ⟨h,k,r,s⟩ f;simp only at h k r s;rw[show(VO κ).E.P=Pr κ from rfl];obtain⟨n,rfl⟩: ∃m,n=m+1:=⟨n - 1,by omega⟩
 have f:K (.exit 5) (Wv ds b (a8 (ej ds b g aQ (n+1) a)) j aQ i (a8 a).length):=f;rw[ej] at f;obtain⟨q,y,u,_⟩:=lL h.p g aQ b a false (fun _ o=>o) h.A;refine Eq.mpr (xEw κ ⟨ds,b,j,aQ,a,g,i,n+1⟩ _ _ K) ⟨⟨ds,b,g,aQ,a,false,0⟩,rfl,⟨h.p,h.A,h.t,h.l,h.n,k,Nat.zero_le _⟩,?_⟩;have d:(a8 (cu ds b g aQ b a false).1).length=(a8 a).length:=by rw[gh,gh,q.len,h.A.len]
 rw[ad];refine⟨fun e=>?_,fun e=>?_⟩
 ·have e:(cu ds b g aQ b a false).2=true:=e
  rw[e,ao6,←d] at f;have w:=(u e).resolve_left (by simp);have v: ¬ aQ<cw a:=fun c=>by rw[JH c] at e;cases e
  refine⟨n,Nat.lt_succ_self n,⟨ds,b,j,aQ,(cu ds b g aQ b a false).1,g,i,n⟩,by simp only[RI,d],⟨h.grow g,k,by simp only;omega,by simp only;omega⟩,rfl,f⟩
 grind
noncomputable def Sp κ:=(VO κ).loop (lEw _)
structure Yp where
 ds:List AV
 rs:List AV
 gs:List (List Int)
 aQ:Nat
 all:List RL
 i:Nat
abbrev Nx(x:Yp):=Wv x.ds x.rs (a8 x.all) x.gs x.aQ x.i (a8 x.all).length
theorem xEf κ x I N K:(vc (Sp κ).E 12 19 none 0 (ae (Pr κ).toProgram 19 15) (Nx x) (bj (Sp κ).E 19 15 0 I N K))=(
 letI a:=(↑(x.i):Int)<(↑(List.length (j2 x.gs)):Int)
 letI b:=Pg.toProgram (Env.P (EB.E (VO κ)))
 ak (decide a) (aR (true&&decide a) (ae b 19 17=ae b 19 17/\∃(e1:AEw),ewS x.ds x.rs (a8 x.all) (ag (nth (j2 x.gs) (0+Int.toNat (↑(x.i):Int))))
 x.gs (↑(x.aQ):Int) (↑(x.i):Int) (List.length (a8 x.all))=RI e1/\Nt e1/\∃(e0:Nat),e0<N/\I e0 (Wv e1.ds e1.rs (a8 (ej e1.ds e1.rs e1.g e1.aQ e1.n
 e1.all)) e1.gs (↑(e1.aQ):Int) (IntKind.wrap IntKind.i64 ((↑(e1.i):Int)+(1:Int))) (List.length (a8 e1.all))))) (K (Exit.exit 3) (sp 67 [(2,AV.int
 (↑(x.aQ):Int)),(11,AV.an 0 0 (List.length (a8 x.all)))] [yq x.all]))):=by kernel_rfl
structure Fj(x:Yp):Prop where
 o:ky x.ds x.rs x.aQ x.all
 g: ∀g,g∈x.gs->g.length<=100000
 i:x.i<=x.gs.length
 n:x.gs.length<=100000
def YE(x:Yp):Out (Exit×S):= .one (.exit 3,sp 67 [(2, .int x.aQ),(11, .an 0 0 (a8 x.all).length)] [yq (fE x.ds x.rs x.aQ (x.gs.drop x.i) x.all)])
theorem VP a i h:ag (nth (j2 a) i)=iA a[i]:=by
 grind [aV,j2,ag]
theorem lEf κ:aX (Sp κ).E 12 19 15 (aG 0 Nx Fj YE):=by
 refine aD (fun x=>x.gs.length - x.i) ?_;rintro⟨ds,f,b,aQ,a,i⟩ K ⟨h,j,o,m⟩ e;simp only at h j o m;rw[show(Sp κ).E.P=Pr κ from rfl];refine Eq.mpr (xEf κ ⟨ds,f,b,aQ,a,i⟩ _ _ K) ?_;simp only[Int.toNat_natCast,Nat.zero_add,H6];have e:K (.exit 3) (sp 67 [(2, .int aQ),(11, .an 0 0 (a8 a).length)] [yq (fE ds f aQ (b.drop i) a)]):=e;rw[ad,an9,ao1];refine⟨fun c=>?_,fun c=>?_⟩
 ·have k:i<b.length:=by omega
  have g:=ky.loop b[i] 99 h;have d:(a8 (ej ds f b[i] aQ 99 a)).length=(a8 a).length:=by rw[gh,gh,g.A.len,h.A.len]
  rw[ap0 k] at e;rw[←d] at e;have p:=h.l;refine ai.2 ⟨by simp;omega,trivial,⟨ds,f,b,aQ,a,b[i],i,99⟩,by rw[VP b i k],⟨h,j _ (List.getElem_mem _),by simp only;omega,by simp only;omega⟩,_,?_,⟨ds,f,b,aQ,ej ds f b[i] aQ 99 a,i+1⟩,?_,⟨g,j,k,m⟩,rfl,e⟩
  ·simp only;omega
  ·simp only[Nx,d]
   rw[az (n:=(i:Int)+1) (by omega) (by omega)];rfl
 ·rw[ao7 (by omega)] at e
  exact e
noncomputable def BEf κ:=(Sp κ).loop (lEf _)
theorem yEv κ ds rs xs(aQ:Nat) K:(a9 (BEf κ).E 12 19 [eg ds rs, .ah 51 xs, .int aQ] [] K)=(
 letI a:=AV.int
 letI b:=AV.aJ
 letI c:=AV.nil
 letI l:=Pg.toProgram (Env.P (EB.E (RP κ)))
 letI m:=Pg.toProgram (Env.P (EB.E (Sp κ)))
 letI n:=K (b [c,a 2]) []
 letI p:=decide ((↑aQ:Int)>(2147483647:Int))
 letI q:=decide ((↑aQ:Int)<(1:Int))
 letI r:=K (b [c,a 90]) []
 letI s:=K (b [c,a 91]) []
 letI t:=List.all rs fh&&c6 xs
 ∃(e2:yt),letI o:=gw e2.1 e2.2;([eg ds rs],[])=Jx e2/\tj e2/\ak (decide (Prod.snd o=(0:Int))) (ak q n (ak p n (aR t (ak (!iK ds rs xs) r (ae l 19 10=ae l 19 10/\∃(e1:Xl),letI f:=a8 (List.map eM e1.all);evS ds rs xs [] (uZ e2.1 e2.2) (↑aQ:Int) (0:Int) 0=Sb e1/\E6 e1/\ae m 19 15=ae m 19 15/\∃(e0:Yp),letI g:=fE e0.ds e0.rs e0.aQ (List.drop e0.i e0.gs) e0.all;letI h:=List.length (a8 e0.all);letI d:=List.take h (List.drop 0 (a8 g));Wv e1.ds e1.rs f e1.gs e1.aQ (0:Int) (List.length f)=Nx e0/\Fj e0/\aR (decide (List.length d<=100000)&&decide (jy d<=1000000000)) (ak (decide ((↑(jy d):Int)>(↑(e0.aQ):Int))) s (K (b [AV.an 0 0 h,a 0]) [yq g]))))))) (ak (Prod.snd o != (0:Int)) (K (b [c,a (Prod.snd o)]) []) (ak q n (ak p n (aR t (ak (!iK ds rs xs) r (ae l 19 10=ae l 19 10/\∃(e1:Xl),letI i:=a8 (List.map eM e1.all);sp 67 [(2,a (↑aQ:Int)),(3,AV.ptr 0 0 [] 0),(8,c),(11,AV.an 1 0 0),(38,AV.ah 51 xs),(39,a (↑(xs.length):Int)),(40,a 0)] [Obj.box 25 (eg ds rs),Obj.row 51 []]=Sb e1/\E6 e1/\ae m 19 15=ae m 19 15/\∃(e0:Yp),letI j:=fE e0.ds e0.rs e0.aQ (List.drop e0.i e0.gs) e0.all;letI k:=List.length (a8 e0.all);letI e:=List.take k (List.drop 0 (a8 j));Wv e1.ds e1.rs i e1.gs e1.aQ (0:Int) (List.length i)=Nx e0/\Fj e0/\aR (decide (List.length e<=100000)&&decide (jy e<=1000000000)) (ak (decide ((↑(jy e):Int)>(↑(e0.aQ):Int))) s (K (b [AV.an 0 0 k,a 0]) [yq j]))))))))):=by kernel_rfl
theorem CO{n m L}: ∀f done,(pM n m L f done).length<=f/\∀g,g∈pM n m L f done->g.length<=n
 |0,_=>⟨Nat.le_refl _,fun g a=>(nomatch a)⟩
 | f+1,done=>by
  rw[pM];cases decide (gi n m L done<0) with
  |true=>simp
  |false=>
   rw[ao4];obtain⟨c,b⟩:=CO (n:=n) (m:=m) (L:=L) f (xx done (gQ n m L (gi n m L done)));refine⟨by grind,fun g a=>?_⟩;rcases List.mem_cons.1 a with rfl|a
   ·exact Nat.le_trans (List.length_filter_le _ _) (by simp[jS])
   ·exact b g a
structure vq where
 ds:List AV
 rs:List AV
 xs:List AV
 all:List RL
 aQ:Nat
def eW ds b(a:List _) aQ:=fE ds b aQ (uZ ds b) (a.map eM)
def fr ds a xs b aQ:=bif !decide ((gw ds a).2=0) then(gw ds a).2 else bif !iK ds a xs then 90 else bif decide (aQ<cw (eW ds a b aQ)) then 91 else 0
def ly(x:vq):List AV×List Dn.Obj:=([eg x.ds x.rs, .ah 51 x.xs, .int x.aQ],[])
structure dK(x:vq):Prop where
 s:lk x.ds x.rs
 f:(x.rs.all fh&&c6 x.xs)=true
 i:iK x.ds x.rs x.xs=true->InX x.xs x.all
 l:1<=x.aQ/\x.aQ<=50
 o:(gw x.ds x.rs).2=0->iK x.ds x.rs x.xs=true->ky x.ds x.rs x.aQ (x.all.map eM)
def XA(x:vq):Out (AV×List Dn.Obj):= .ak (decide (fr x.ds x.rs x.xs x.all x.aQ=0))
 (.one (.aJ [.an 0 0 (a8 (eW x.ds x.rs x.all x.aQ)).length, .int 0],[yq (eW x.ds x.rs x.all x.aQ)]))
 (.one (.aJ [.nil, .int (fr x.ds x.rs x.xs x.all x.aQ)],[]))
theorem ky.eval{ds b aQ}: ∀c {a},ky ds b aQ a->ky ds b aQ (fE ds b aQ c a)
 |[],_,h=>h
 |g::c,_,h=>ky.eval c (ky.loop g _ h)
theorem cEv κ:bg (BEf κ).E 12 19 (aO ly dK XA):=by
 refine aU ?_;rintro⟨ds,b,xs,a,aQ⟩ K q d;have v:=q.f;have r:=q.i;have y:=q.l;have w:=q.o;simp only at v r y w;have d:ak (decide (fr ds b xs a aQ=0)) (K (.aJ [.an 0 0 (a8 (eW ds b a aQ)).length, .int 0]) [yq (eW ds b a aQ)]) (K (.aJ [.nil, .int (fr ds b xs a aQ)]) []):=d;refine Eq.mpr (yEv κ ds b xs aQ K) ⟨(ds,b),rfl,q.s,ad.2 ⟨fun e=>?_,fun e=>?_⟩⟩
 ·have e:(gw ds b).2=0:=of_decide_eq_true e
  unfold fr at d;rw[ao5 e,Bool.not_true,ao4] at d;refine ad.2 ⟨fun c=>?_,fun _=>ad.2 ⟨fun c=>?_,fun _=>ai.2 ⟨v,ad.2 ⟨fun c=>?_,fun c=>?_⟩⟩⟩⟩
  ·have:=of_decide_eq_true c;omega
  ·have:=of_decide_eq_true c;omega
  ·rw[c] at d;exact d
  ·rw[c,ao4] at d
   have j:=w e (by simpa using c);have r:=r (by simpa using c);have h:=ky.eval (uZ ds b) j;have t:=Fc j.p;have x:=CO (n:=ds.length) (m:=pS ds b) (L:=yo ds b);have k:(a8 (eW ds b a aQ)).length=(a8 (a.map eM)).length:=by
    rw[gh,gh,show(eW ds b a aQ).length=_ from h.A.len,j.A.len]
   refine⟨rfl,⟨ds,b,xs,uZ ds b,aQ,a,0⟩,rfl,⟨Nat.zero_le _,r⟩,rfl,⟨ds,b,uZ ds b,aQ,a.map eM,0⟩,rfl,⟨j,fun g u=>Nat.le_trans ((x _ _).2 g u) (by omega),Nat.zero_le _,Nat.le_trans (x _ _).1 ?_⟩,?_⟩
   ·have:=G3 ds.length []
    omega
   ·have B:List.take (a8 (a.map eM)).length (List.drop 0 (a8 (eW ds b a aQ)))=a8 (eW ds b a aQ):=by rw[ao9,←k,List.take_length]
    have z:(a8 (eW ds b a aQ)).length<=60:=by rw[gh,show(eW ds b a aQ).length=_ from h.A.len];exact t
    have C:cw (eW ds b a aQ)<=200000:=h.n;show aR (decide ((List.take (a8 (a.map eM)).length (List.drop 0 (a8 (eW ds b a aQ)))).length<=100000)&&decide (jy (List.take (a8 (a.map eM)).length (List.drop 0 (a8 (eW ds b a aQ))))<=1000000000)) (ak (decide ((jy (List.take (a8 (a.map eM)).length (List.drop 0 (a8 (eW ds b a aQ)))):Int)>aQ)) (K (.aJ [.nil, .int 91]) []) (K (.aJ [.an 0 0 (a8 (a.map eM)).length, .int 0]) [yq (eW ds b a aQ)]))
    rw[B,x4];refine ai.2 ⟨by rw[ao0,an9,an9];omega,ad.2 ⟨fun c=>?_,fun c=>?_⟩⟩
    ·have c:=of_decide_eq_true c
     rw[ao5 (show aQ<cw (eW ds b a aQ) by omega)] at d;exact d
    ·have c:=of_decide_eq_false c
     rw[ao3 (show ¬ aQ<cw (eW ds b a aQ) by omega),ao4,k] at d;exact d
 ·have e:(gw ds b).2≠0:=of_decide_eq_false e
  unfold fr at d;rw[ao3 e,Bool.not_false,ao6,ao3 e] at d;refine ad.2 ⟨fun _=>d,fun c=>absurd c (by simpa using e)⟩
noncomputable def Uo κ:=((BEf κ).call (cEv _)).calm [19]
def BW v:=decide (((toStr (af v 2)).size:Int)>1000)
abbrev Rn(x:List _×Nat):=sp 17 [(0, .ah 72 x.1),(3, .int x.2)] []
theorem xLg κ x I n K:(vc (Uo κ).E 12 30 none 0 (ae (Pr κ).toProgram 30 2) (Rn x) (bj (Uo κ).E 30 2 0 I n K))=(
 letI a:=(↑(x.2):Int)<(↑(x.1.length):Int)
 ak (decide a) (aR (true&&decide a) (ak (decide ((↑(ByteArray.size (toStr (af (nth x.1 (Int.toNat (↑(x.2):Int))) 2))):Int)>(1000:Int))) (K Exit.ret
 (sp 17 [(2,AV.int 1)] [])) (∃(e0:Nat),e0<n/\I e0 (sp 17 [(0,AV.ah 72 x.1),(3,AV.int (IntKind.wrap IntKind.i64 ((↑(x.2):Int)+(1:Int))))] []))))
 (K (Exit.exit 0) (sp 17 [] []))):=by kernel_rfl
def ZW(x:List AV×Nat):Out (Exit×S):= .ak ((x.1.drop x.2).any BW) (.one (.ret,sp 17 [(2, .int 1)] [])) (.one (.exit 0,sp 17 [] []))
theorem lLg κ:aX (Uo κ).E 12 30 2 (aG 0 Rn (fun x=>x.2<=x.1.length/\x.1.length<=100000000) ZW):=by
 refine aD (fun x=>x.1.length - x.2) ?_;rintro⟨r,i⟩ K ⟨f,d⟩ b;simp only at f d;rw[show(Uo κ).E.P=Pr κ from rfl];refine Eq.mpr (xLg κ (r,i) _ _ K) ?_;simp only[Int.toNat_natCast];have b:ak ((r.drop i).any BW) (K .ret (sp 17 [(2, .int 1)] [])) (K (.exit 0) (sp 17 [] [])):=b;rw[ad,an9,ao1];refine⟨fun h=>?_,fun h=>?_⟩
 ·have c:i<r.length:=by omega
  have a:=b;rw[ap0 c,List.any_cons,←aV r i c] at a;refine ai.2 ⟨by simp;omega,ad.2 ⟨fun e=>?_,fun e=>⟨_,?_,(r,i+1),?_,⟨c,d⟩,rfl,?_⟩⟩⟩
  ·rw[show BW (nth r i)=true from e] at a;exact a
  ·simp only;omega
  ·simp only[Rn]
   grind [az]
  ·rw[show BW (nth r i)=false from e,Bool.false_or] at a;exact a
 ·rw[ao7 (by omega)] at b
  exact b
noncomputable def UI κ:=(Uo κ).loop (lLg _)
theorem yLg κ r K:(a9 (UI κ).E 12 30 [.ah 72 r] [] K)=(
 letI a:=Pg.toProgram (Env.P (EB.E (Uo κ)))
 ae a 30 2=ae a 30 2/\∃(e0:List AV×Nat),sp 17 [(0,AV.ah 72 r),(3,AV.int 0)] []=Rn e0/\(e0.2<=e0.1.length/\e0.1.length<=100000000)/\ak
 (List.any (List.drop e0.2 e0.1) BW) (K (AV.int 1) []) (K (AV.int 0) [])):=by kernel_rfl
def gLg:List AV->Option (Bool×AV)
 |[.ah 72 r]=>some (decide (r.length<=100000000), .int (bif r.any BW then 1 else 0))
 |_=>none
theorem pLg κ:cg (UI κ).E 12 30 gLg:=by
 intro b x a;unfold gLg at a;split at a
 ·rename_i r
  simp   at a;obtain⟨c,rfl⟩:=a;refine⟨_,rfl,rfl,Eq.mpr (yLg κ r _) ⟨rfl,(r,0),rfl,by grind,?_⟩⟩;rw[ao9];cases r.any _<;>exact rfl
 grind
noncomputable def VU κ:=EB.Kl ((UI κ).pure (pLg _)) [30]
theorem lK{ds a}(h:na ds a=true):lk ds a:=by
 simp only[na,ao0,an9] at h;obtain⟨_,c,d,f⟩:=h;refine⟨by simp only[aW];omega,by simp only[aW];omega,fun x g=>?_⟩;have b:=zK (a.map xJ) 2000 (by omega) c (xJ x) (by grind);have e:xJ x=aM (dg x):=rfl;rw[e,fY] at b;refine⟨?_,by omega⟩
 grind [EP,dg,zu,aM]
structure ALk where
 xs:List AV
 ds:List AV
 rs:List AV
 i:Nat
 n:Nat
 k:Nat
abbrev UK(x:ALk):=sp 91 [(1, .ah 51 x.xs),(2, .ptr 0 0 [] 0),(5, .int x.i),(6, .int x.n),(7, .int x.k)] [.box 25 (eg x.ds x.rs)]
theorem xLk κ x I n K:(vc (VU κ).E 12 12 none 0 (ae (Pr κ).toProgram 12 8) (UK x) (bj (VU κ).E 12 8 0 I n K))=(
 letI a:=IntKind.wrap IntKind.i64
 letI b:=AV.ptr 0 0 []
 letI c:=AV.int
 letI e:=ag (af (nth x.rs (Int.toNat (↑(x.i):Int))) 1)
 letI f:=true&&decide ((↑(x.i):Int)<(↑(x.rs.length):Int))
 letI g:=a ((↑(x.k):Int)+(1:Int))
 letI h:=(↑(x.k):Int)<(↑(List.length e):Int)
 letI d:=eg x.ds x.rs
 aR f (ak (decide h) (aR f (aR (true&&decide h) (ak (toInt (af (nth e (Int.toNat (↑(x.k):Int))) 0)==(1:Int)) (∃(e0:Nat),e0<n/\I e0 (sp 91
 [(1,AV.ah 51 x.xs),(2,b 0),(5,c (↑(x.i):Int)),(6,c (a ((↑(x.n):Int)+(1:Int)))),(7,c g)]
 [Obj.box 25 d])) (∃(e0:Nat),e0<n/\I e0 (sp 91 [(1,AV.ah 51 x.xs),(2,b 0),(5,c (↑(x.i):Int)),(6,c (↑(x.n):Int)),(7,
 c g)] [Obj.box 25 d]))))) (K (Exit.exit 2) (sp 91 [(1,AV.ah 51 x.xs),(2,b 0),(5,c (↑(x.i):Int)),(6,c (↑(x.n):Int))]
 [Obj.box 25 d])))):=by kernel_rfl
def Om(x:ALk):=x.i<x.rs.length/\x.k<=(ag (af (nth x.rs x.i) 1)).length/\(ag (af (nth x.rs x.i) 1)).length<=100000/\x.n<=x.k
def OJ(x:ALk):Out (Exit×S):= .one (.exit 2,sp 91 [(1, .ah 51 x.xs),(2, .ptr 0 0 [] 0),(5, .int x.i),(6, .int (x.n+vv ((ag (af (nth x.rs x.i) 1)).drop x.k):Nat))] [.box 25 (eg x.ds x.rs)])
theorem lLk κ:aX (VU κ).E 12 12 8 (aG 0 UK Om OJ):=by
 refine aD (fun x=>(ag (af (nth x.rs x.i) 1)).length - x.k) ?_;rintro⟨xs,ds,b,i,n,k⟩ K ⟨d,j,f,g⟩ a;simp only at d j f g;rw[show(VU κ).E.P=Pr κ from rfl];refine Eq.mpr (xLk κ ⟨xs,ds,b,i,n,k⟩ _ _ K) ?_;simp only[Int.toNat_natCast];refine ai.2 ⟨by simp;omega,?_⟩;rw[ad,an9,ao1];simp only[OJ,Out.run] at a;refine⟨fun h=>ai.2 ⟨by simp;omega,ai.2 ⟨by simp;omega,?_⟩⟩,fun h=>?_⟩
 ·have c:k<(ag (af (nth b i) 1)).length:=by omega
  rw[az (n:=(k:Int)+1) (by omega) (by omega),az (n:=(n:Int)+1) (by omega) (by omega)];have hd:vv ((ag (af (nth b i) 1)).drop k)=(bif toInt (af (nth (ag (af (nth b i) 1)) k) 0)==1 then 1 else 0)+vv ((ag (af (nth b i) 1)).drop (k+1)):=by
   rw[ap0 c,←aV _ k c];unfold vv
   grind
  rw[hd] at a;rw[ad];refine⟨fun e=>?_,fun e=>?_⟩
  ·rw[e,ao6] at a
   refine⟨_,?_,⟨xs,ds,b,i,n+1,k+1⟩,rfl,⟨d,c,f,by simp only;omega⟩,rfl,?_⟩
   ·simp only;omega
   ·simp only[OJ,Out.run]
    rw[Nat.add_assoc];exact a
  ·rw[e,ao4,Nat.zero_add] at a
   refine⟨_,?_,⟨xs,ds,b,i,n,k+1⟩,rfl,⟨d,c,f,by simp only;omega⟩,rfl,a⟩;simp only;omega
 ·rw[ao7 (by omega)] at a
  exact a
noncomputable def Wp κ:=(VU κ).loop (lLk _)
abbrev Xn xs ds a(i:Nat):=sp 91 [(1, .ah 51 xs),(2, .ptr 0 0 [] 0),(5, .int i)] [.box 25 (eg ds a)]
theorem xLr κ xs ds rs i I n K:(vc (Wp κ).E 12 12 none 0 (ae (Pr κ).toProgram 12 4) (Xn xs ds rs i) (bj (Wp κ).E 12 4 0 I n K))=(
 letI a:=AV.int
 letI b:=Pg.toProgram (Env.P (EB.E (VU κ)))
 ak (decide ((↑i:Int)<(↑(rs.length):Int))) (ae b 12 8=ae b 12 8/\∃(e1:ALk),sp 91 [(1,AV.ah 51 xs),(2,AV.ptr 0 0 [] 0),(5,a (↑i:Int)),
 (6,a 0),(7,a 0)] [Obj.box 25 (eg ds rs)]=UK e1/\Om e1/\ak (decide ((↑(e1.n+vv (List.drop e1.k (ag (af (nth e1.rs e1.i) 1)))):Int)>(3:
 Int))) (K Exit.ret (sp 91 [(4,a 0)] [])) (∃(e0:Nat),e0<n/\I e0 (sp 91 [(1,AV.ah 51 e1.xs),(2,AV.ptr 0 0 [] 0),(5,a (IntKind.wrap
 IntKind.i64 ((↑(e1.i):Int)+(1:Int))))] [Obj.box 25 (eg e1.ds e1.rs)]))) (K (Exit.exit 0) (sp 91 [(1,AV.ah 51 xs)] []))):=by kernel_rfl
structure ALr where
 xs:List AV
 ds:List AV
 rs:List AV
 i:Nat
abbrev S5(x:ALr):=Xn x.xs x.ds x.rs x.i
def Og(x:ALr):=x.i<=x.rs.length/\x.rs.length<=100000/\∀r,r∈x.rs->(ag (af r 1)).length<=100000
def Pu(x:ALr):Out (Exit×S):= .ak ((x.rs.drop x.i).all Ly) (.one (.exit 0,sp 91 [(1, .ah 51 x.xs)] [])) (.one (.ret,sp 91 [(4, .int 0)] []))
theorem lLr κ:aX (Wp κ).E 12 12 4 (aG 0 S5 Og Pu):=by
 refine aD (fun x=>x.rs.length - x.i) ?_;rintro⟨xs,ds,a,i⟩ K ⟨j,f,d⟩ b;simp only at j f d;rw[show(Wp κ).E.P=Pr κ from rfl];refine Eq.mpr (xLr κ xs ds a i _ _ K) ?_;simp only[Pu,Out.run,ad] at b;rw[ad,an9,ao1];refine⟨fun h=>?_,fun h=>?_⟩
 ·have c:i<a.length:=by omega
  have g:nth a i∈a:=by rw[aV _ _ c];exact List.getElem_mem _
  rw[ap0 c,←aV _ i c,List.all_cons] at b;refine⟨rfl,⟨xs,ds,a,i,0,0⟩,rfl,⟨c,Nat.zero_le _,d _ g,Nat.le_refl _⟩,?_⟩;simp only[ao9,Nat.zero_add];rw[az (n:=(i:Int)+1) (by omega) (by omega),ad,an9,ao1];refine⟨fun e=>b.2 ?_,fun e=>⟨_,?_,⟨xs,ds,a,i+1⟩,rfl,⟨c,f,d⟩,rfl,?_⟩⟩
  ·rw[show Ly (nth a i)=false from ao3 (by omega),Bool.false_and]
  ·simp only;omega
  ·simp only[Pu,Out.run,ad]
   rw[show Ly (nth a i)=true from ao5 (by omega),ap5] at b;exact b
 ·rw[ao7 (by omega)] at b
  exact b.1 rfl
noncomputable def Wl κ:=(Wp κ).loop (lLr _)
structure Ta where
 xs:List AV
 n:Nat
 i:Nat
 k:Nat
abbrev Qw(x:Ta):=sp 91 [(1, .ah 51 x.xs),(8, .int x.n),(9, .int x.i),(10, .int x.k)] []
theorem xLv κ x I n K:(vc (Wl κ).E 12 12 none 0 (ae (Pr κ).toProgram 12 22) (Qw x) (bj (Wl κ).E 12 22 0 I n K))=(
 letI a:=AV.int
 letI b:=ag (nth x.xs (Int.toNat (↑(x.i):Int)))
 letI c:=true&&decide ((↑(x.i):Int)<(↑(x.xs.length):Int))
 letI d:=(↑(x.k):Int)<(↑(List.length b):Int)
 letI e:=ag (nth b (Int.toNat (↑(x.k):Int)))
 aR c (ak (decide d) (aR c (aR (true&&decide d) (aR (decide (List.length e<=100000000)) (ak ((bif List.any e BW then(1:Int) else(0:Int))==(1:
 Int)) (K Exit.ret (sp 91 [(4,a 0)] [])) (∃(e0:Nat),e0<n/\I e0 (sp 91 [(1,AV.ah 51 x.xs),(8,a (↑(x.n):Int)),(9,a (↑(x.i):Int)),
 (10,a (IntKind.wrap IntKind.i64 ((↑(x.k):Int)+(1:Int))))] [])))))) (K (Exit.exit 6) (sp 91 [(1,AV.ah 51 x.xs),(8,a (↑(x.n):Int)),(9,
 a (↑(x.i):Int))] [])))):=by kernel_rfl
def Kr r:=(ag r).any BW
def Pm(x:Ta):=x.i<x.xs.length/\x.k<=(ag (nth x.xs x.i)).length/\c6 x.xs=true
def XY(x:Ta):Out (Exit×S):= .ak (((ag (nth x.xs x.i)).drop x.k).any Kr) (.one (.ret,sp 91 [(4, .int 0)] [])) (.one (.exit 6,sp 91 [(1, .ah 51 x.xs),(8, .int x.n),(9, .int x.i)] []))
theorem lLv κ:aX (Wl κ).E 12 12 22 (aG 0 Qw Pm XY):=by
 refine aD (fun x=>(ag (nth x.xs x.i)).length - x.k) ?_;rintro⟨xs,n,i,k⟩ K ⟨f,j,d⟩ b;simp only at f j d;rw[show(Wl κ).E.P=Pr κ from rfl];refine Eq.mpr (xLv κ ⟨xs,n,i,k⟩ _ _ K) ?_;simp only[Int.toNat_natCast];have g:=oa d i;have l:=jV g;have b:ak (((ag (nth xs i)).drop k).any Kr) (K .ret (sp 91 [(4, .int 0)] [])) (K (.exit 6) (sp 91 [(1, .ah 51 xs),(8, .int n),(9, .int i)] [])):=b;refine ai.2 ⟨by simp;omega,?_⟩;rw[ad,an9,ao1];refine⟨fun h=>?_,fun h=>?_⟩
 ·have c:k<(ag (nth xs i)).length:=by omega
  have a:=b;rw[ap0 c,List.any_cons,←aV _ k c] at a;refine ai.2 ⟨by simp;omega,ai.2 ⟨by simp;omega,ai.2 ⟨ao5 (lV g k),?_⟩⟩⟩;cases e:(ag (nth (ag (nth xs i)) k)).any BW with
  |true=>
   rw[show Kr (nth (ag (nth xs i)) k)=true from e] at a;exact a
  | false=>
   rw[show Kr (nth (ag (nth xs i)) k)=false from e,Bool.false_or] at a;refine⟨_,?_,⟨xs,n,i,k+1⟩,?_,⟨f,c,d⟩,rfl,a⟩
   ·simp only;omega
   ·simp only[Qw]
    rw[az (n:=(k:Int)+1) (by omega) (by omega)];rfl
 ·rw[ao7 (by omega)] at b
  exact b
noncomputable def Ws κ:=(Wl κ).loop (lLv _)
abbrev RX(x:Ta):=sp 91 [(1, .ah 51 x.xs),(8, .int x.n),(9, .int x.i)] []
theorem xLw κ x I n K:(vc (Ws κ).E 12 12 none 0 (ae (Pr κ).toProgram 12 16) (RX x) (bj (Ws κ).E 12 16 0 I n K))=(
 letI a:=IntKind.wrap IntKind.i64
 letI b:=AV.int
 letI c:=(↑(x.n):Int)+(↑(List.length (ag (nth x.xs (Int.toNat (↑(x.i):Int))))):Int)
 letI d:=(↑(x.i):Int)<(↑(x.xs.length):Int)
 letI e:=K Exit.ret (sp 91 [(4,b 0)] [])
 letI f:=Pg.toProgram (Env.P (EB.E (Wl κ)))
 ak (decide d) (aR (true&&decide d) (ak (decide (a c>(20:Int))) e (ae f 12 22=ae f 12 22/\∃(e1:Ta),sp 91 [(1,AV.ah 51
 x.xs),(8,b (a c)),(9,b (↑(x.i):Int)),(10,b 0)] []=Qw e1/\Pm e1/\ak (List.any (List.drop e1.k (ag (nth e1.xs
 e1.i))) Kr) e (∃(e0:Nat),e0<n/\I e0 (sp 91 [(1,AV.ah 51 e1.xs),(8,b (↑(e1.n):Int)),(9,b (a ((↑(e1.i):Int)+(1
 :Int))))] []))))) (K (Exit.exit 4) (sp 91 [] []))):=by kernel_rfl
def Ad:List AV->Nat->Bool
 |[],_=>true
 |x::xs,n=>decide (n+(ag x).length<=20)&&(!(ag x).any Kr&&Ad xs (n+(ag x).length))
def N0(x:Ta):=x.i<=x.xs.length/\x.n<=20/\c6 x.xs=true
def Zp(x:Ta):Out (Exit×S):= .ak (Ad (x.xs.drop x.i) x.n) (.one (.exit 4,sp 91 [] [])) (.one (.ret,sp 91 [(4, .int 0)] []))
theorem lLw κ:aX (Ws κ).E 12 12 16 (aG 0 RX N0 Zp):=by
 refine aD (fun x=>x.xs.length - x.i) ?_;rintro⟨xs,n,i,k⟩ K ⟨m,o,b⟩ d;simp only at m o b;rw[show(Ws κ).E.P=Pr κ from rfl];refine Eq.mpr (xLw κ ⟨xs,n,i,k⟩ _ _ K) ?_;simp only[Int.toNat_natCast];have p:=oa b i;have q:=jV p;have l:xs.length<=100000000:=by simp only[c6,ao0,an9] at b;exact b.1
 have d:ak (Ad (xs.drop i) n) (K (.exit 4) (sp 91 [] [])) (K .ret (sp 91 [(4, .int 0)] [])):=d;rw[ad,an9,ao1];refine⟨fun h=>?_,fun h=>?_⟩
 ·have f:i<xs.length:=by omega
  have a:=d;rw[ap0 f,←aV xs i f,Ad] at a;have g:=az (n:=(n:Int)+(ag (nth xs i)).length) (by omega) (by omega);refine ai.2 ⟨by simp;omega,ad.2 ⟨fun c=>?_,fun c=>⟨trivial,⟨xs,n+(ag (nth xs i)).length,i,0⟩,by rw[g];rfl,⟨f,Nat.zero_le _,b⟩,?_⟩⟩⟩
  all_goals
   have j:=c
   first
   |have c:=of_decide_eq_true j
    rw[g] at c
   |have c:=of_decide_eq_false j
    rw[g] at c
  ·rw[ao3 (show ¬ n+(ag (nth xs i)).length<=20 by omega),Bool.false_and] at a
   exact a
  ·rw[ao5 (show n+(ag (nth xs i)).length<=20 by omega),ap5] at a
   simp only[ao9];rw[ad];refine⟨fun e=>?_,fun e=>?_⟩
   ·rw[e] at a;exact a
   ·rw[e,Bool.not_false,ap5] at a
    refine⟨_,?_,⟨xs,n+(ag (nth xs i)).length,i+1,k⟩,?_,⟨f,by simp only;omega,b⟩,rfl,a⟩
    ·simp only;omega
    ·simp only[RX]
     rw[az (n:=(i:Int)+1) (by omega) (by omega)];rfl
 ·rw[ao7 (by omega)] at d
  exact d
noncomputable def BLw κ:=(Ws κ).loop (lLw _)
theorem yLw κ ds rs xs K:(a9 (BLw κ).E 12 12 [eg ds rs, .ah 51 xs] [] K)=(
 letI a:=AV.int
 letI b:=Pg.toProgram (Env.P (EB.E (Wp κ)))
 letI c:=Pg.toProgram (Env.P (EB.E (Ws κ)))
 aR (decide (ds.length<=9223372036854775807)&&List.all ds fun(e0:AV)=>decide (List.length (ag (af e0 1))<=9223372036854775807)) (ak ((bif na ds rs then
 (1:Int) else(0:Int))==(0:Int)) (K (a 0) []) (ak (decide ((↑(rs.length):Int)>(8:Int))) (K (a 0) []) (ak (decide ((↑(xs.length):Int)>
 (60:Int))) (K (a 0) []) (ae b 12 4=ae b 12 4/\∃(e1:ALr),sp 91 [(1,AV.ah 51 xs),(2,AV.ptr 0 0 [] 0),(5,a 0)] [Obj.box 25 (eg ds rs)]=
 S5 e1/\Og e1/\ak (List.all (List.drop e1.i e1.rs) Ly) (ae c 12 16=ae c 12 16/\∃(e0:Ta),sp 91 [(1,AV.ah 51 e1.xs),(8,a 0),(9,a 0)] []=
 RX e0/\N0 e0/\ak (Ad (List.drop e0.i e0.xs) e0.n) (K (a 1) []) (K (a 0) [])) (K (a 0) [])))))):=by kernel_rfl
def nt ds a xs:=na ds a&&(decide (a.length<=8)&&(decide (xs.length<=60)&&(a.all Ly&&Ad xs 0)))
def gLw:List AV->Option (Bool×AV)
 |[.agg [.ah 43 ds, .ah 48 a], .ah 51 xs]=>some (decide (ds.length<=aW)&&ds.all (fun d=>decide ((ag (af d 1)).length<=aW))&&c6 xs, .int (bif nt ds a xs then 1 else 0))
 |_=>none
theorem pLw κ:cg (BLw κ).E 12 12 gLw:=by
 intro f x b;unfold gLw at b;split at b
 ·rename_i ds a xs
  simp only[ao2,ao8] at b;obtain⟨c,rfl⟩:=b;rw[ao0] at c;obtain⟨c,g⟩:=c;refine⟨_,rfl,rfl,?_⟩;refine Eq.mpr (yLw κ ds a xs _) ?_;refine ai.2 ⟨c,?_⟩;unfold nt;cases h:na ds a with
  |false=>exact rfl
  | true=>
   rw[ap5];refine ad.2 ⟨fun e=>absurd e (by decide),fun _=>?_⟩;rw[ad,an9,ao1];refine⟨fun e=>?_,fun e=>?_⟩
   ·rw[ao3 (show ¬ a.length<=8 by omega)];rfl
   ·rw[ao5 (show a.length<=8 by omega),ap5]
    rw[ad,an9,ao1];refine⟨fun e=>?_,fun e=>⟨rfl,⟨xs,ds,a,0⟩,rfl,⟨Nat.zero_le _,by show a.length<=100000;omega,fun r i=>(lK h).2.2 r i|>.2⟩,?_⟩⟩
    ·rw[ao3 (show ¬ xs.length<=60 by omega)];rfl
    ·rw[ao5 (show xs.length<=60 by omega),ap5,ao9]
     rw[ad];refine⟨fun d=>⟨rfl,⟨xs,0,0,0⟩,rfl,⟨Nat.zero_le _,Nat.zero_le _,g⟩,?_⟩,fun d=>?_⟩
     ·rw[d,ap5,ao9]
      cases Ad xs 0<;>exact rfl
     ·rw[d];rfl
 ·cases b
noncomputable def W7 κ:=(BLw κ).pure (pLw _)
end Go.Proofs.YtioeffnadipbaaaGreatDoor
namespace Go.Proofs.YtioeffnadipbaaaGreatDoor
open Go Go.Dn Go.Rl Go.Proofs
attribute [local irreducible] a9 vc
set_option maxRecDepth 20000
structure Lx where
 A:List AV
 i:Nat
 k:Nat
abbrev Ry(x:Lx):=sp 53 [(0, .ah 70 x.A),(1, .ah 70 x.A),(5, .int x.i),(6, .int x.k)] []
theorem xSe κ x I n K:(vc (W7 κ).E 12 16 none 0 (ae (Pr κ).toProgram 16 9) (Ry x) (bj (W7 κ).E 16 9 0 I n K))=(
 letI b:=true&&decide ((↑(x.i):Int)<(↑(x.A.length):Int))
 letI d:=ag (nth x.A (Int.toNat (↑(x.i):Int)))
 letI a:=nth d (Int.toNat (↑(x.k):Int))
 letI c:=(↑(x.k):Int)<(↑(List.length d):Int)
 aR b (ak (decide c) (aR b (aR (true&&decide c) (aR b (aR (true&&decide c) (ak (!(Dn.toBool (af a 0)==Dn.toBool (af a 0)&&(toInt (af a 1)==
 toInt (af a 1)&&(ByteArray.toList (toStr (af a 2))==ByteArray.toList (toStr (af a 2))&&true)))) (K Exit.ret (sp 53 [(4,AV.bool false)] [])) (∃(e0:
 Nat),e0<n/\I e0 (sp 53 [(0,AV.ah 70 x.A),(1,AV.ah 70 x.A),(5,AV.int (↑(x.i):Int)),(6,AV.int (IntKind.wrap IntKind.i64 ((↑(x.k):Int)+(1:
 Int))))] []))))))) (K (Exit.exit 2) (sp 53 [(0,AV.ah 70 x.A),(1,AV.ah 70 x.A),(5,AV.int (↑(x.i):Int))] [])))):=by kernel_rfl
def OX(x:Lx):=x.i<x.A.length/\x.k<=(ag (nth x.A x.i)).length/\(ag (nth x.A x.i)).length<=100000000
def ac3(x:Lx):Out (Exit×S):= .one (.exit 2,sp 53 [(0, .ah 70 x.A),(1, .ah 70 x.A),(5, .int x.i)] [])
theorem lSe κ:aX (W7 κ).E 12 16 9 (aG 0 Ry OX ac3):=by
 refine aD (fun x=>(ag (nth x.A x.i)).length - x.k) ?_;rintro⟨A,i,k⟩ K ⟨e,f,d⟩ c;simp only at e f d;refine Eq.mpr (xSe κ ⟨A,i,k⟩ _ _ K) ?_;simp only[Int.toNat_natCast,beq_self_eq_true,Bool.and_self,Bool.not_true];have a:(true&&decide ((i:Int)<(A.length:Int)))=true:=by simp;omega
 refine ai.2 ⟨a,?_⟩;rw[ad,an9,ao1];refine⟨fun h=>?_,fun h=>c⟩;have b:(true&&decide ((k:Int)<((ag (nth A i)).length:Int)))=true:=by simp;omega
 refine ai.2 ⟨a,ai.2 ⟨b,ai.2 ⟨a,ai.2 ⟨b,_,?_,⟨A,i,k+1⟩,?_,⟨e,by simp only;omega,d⟩,rfl,c⟩⟩⟩⟩
 ·simp only;omega
 ·simp only[Ry]
  grind [az]
noncomputable def W8 κ:=(W7 κ).loop (lSe _)
abbrev Nc(x:Lx):=sp 53 [(0, .ah 70 x.A),(1, .ah 70 x.A),(5, .int x.i)] []
theorem xSf κ x I n K:(vc (W8 κ).E 12 16 none 0 (ae (Pr κ).toProgram 16 4) (Nc x) (bj (W8 κ).E 16 4 0 I n K))=(
 letI a:=(↑(x.i):Int)<(↑(x.A.length):Int)
 letI b:=List.length (ag (nth x.A (Int.toNat (↑(x.i):Int))))
 letI c:=Pg.toProgram (Env.P (EB.E (W7 κ)))
 ak (decide a) (aR (true&&decide a) (aR (true&&decide a) (ak ((↑b:Int) != (↑b:Int)) (K Exit.ret (sp 53 [(4,AV.bool false)] [])) (ae c 16 9=ae c
 16 9/\∃(e1:Lx),sp 53 [(0,AV.ah 70 x.A),(1,AV.ah 70 x.A),(5,AV.int (↑(x.i):Int)),(6,AV.int 0)] []=Ry e1/\OX e1/\∃(e0:Nat),e0<n/\I e0 (sp
 53 [(0,AV.ah 70 e1.A),(1,AV.ah 70 e1.A),(5,AV.int (IntKind.wrap IntKind.i64 ((↑(e1.i):Int)+(1:Int))))] []))))) (K (Exit.exit 0) (sp 53 [] []))):=by kernel_rfl
def FY(x:Lx):=x.i<=x.A.length/\fC x.A=true
def Ue(_:Lx):Out (Exit×S):= .one (.exit 0,sp 53 [] [])
theorem lSf κ:aX (W8 κ).E 12 16 4 (aG 0 Nc FY Ue):=by
 refine aD (fun x=>x.A.length - x.i) ?_;rintro⟨A,i,k⟩ K ⟨e,a⟩ c;simp only at e a;refine Eq.mpr (xSf κ ⟨A,i,k⟩ _ _ K) ?_;simp only[Int.toNat_natCast,bne_self_eq_false];have f:=jV a;rw[ad,an9,ao1];refine⟨fun h=>?_,fun h=>c⟩;have d:(true&&decide ((i:Int)<(A.length:Int)))=true:=by simp;omega
 have b: ∃m,m<A.length - i/\et Nc FY Ue (fun x=>x.A.length - x.i) K m (sp 53 [(0, .ah 70 A),(1, .ah 70 A),(5, .int (IntKind.wrap .i64 ((i:Int)+1)))] []):=by
  refine⟨_,?_,⟨A,i+1,k⟩,?_,⟨by simp only;omega,a⟩,rfl,c⟩
  ·simp only;omega
  ·simp only[Nc]
   grind [az]
 exact ai.2 ⟨d,ai.2 ⟨d,trivial,⟨A,i,0⟩,rfl,⟨by simp only;omega,Nat.zero_le _,lV a i⟩,b⟩⟩
noncomputable def BSf κ:=(W8 κ).loop (lSf _)
theorem ySf κ A K:(a9 (BSf κ).E 12 16 [.ah 70 A, .ah 70 A] [] K)=(
 letI a:=Pg.toProgram (Env.P (EB.E (W8 κ)))
 ak ((↑(A.length):Int) != (↑(A.length):Int)) (K (AV.bool false) []) (ae a 16 4=ae a 16 4/\∃(e0:Lx),sp 53 [(0,AV.ah 70 A),(1,AV.ah 70 A),(5,
 AV.int 0)] []=Nc e0/\FY e0/\K (AV.bool true) [])):=by kernel_rfl
def K3(A:List AV):List AV×List Dn.Obj:=([.ah 70 A, .ah 70 A],[])
def SS(_:List AV):Out (AV×List Dn.Obj):= .one (.bool true,[])
theorem cS8 κ:bg (BSf κ).E 12 16 (aO K3 (fun A=>fC A=true) SS):=by
 refine aU ?_;intro A K h a;refine Eq.mpr (ySf _ A K) ?_;simp only[bne_self_eq_false];exact⟨trivial,⟨A,0,0⟩,rfl,⟨Nat.zero_le _,h⟩,a⟩
noncomputable def W1 κ:=(BSf κ).call (cS8 _)
abbrev Qa(x:Lx):=sp 29 [(0, .ah 51 x.A),(1, .ah 51 x.A),(5, .int x.i)] []
theorem xSg κ x I n K:(vc (W1 κ).E 12 20 none 0 (ae (Pr κ).toProgram 20 4) (Qa x) (bj (W1 κ).E 20 4 0 I n K))=(
 letI a:=(↑(x.i):Int)<(↑(x.A.length):Int)
 letI b:=ag (nth x.A (Int.toNat (↑(x.i):Int)))
 ak (decide a) (aR (true&&decide a) (aR (true&&decide a) (∃(e1:List AV),([AV.ah 70 b,AV.ah 70 b],[])=K3 e1/\fC e1=true/\∃(e0:Nat),e0<n
 /\I e0 (sp 29 [(0,AV.ah 51 x.A),(1,AV.ah 51 x.A),(5,AV.int (IntKind.wrap IntKind.i64 ((↑(x.i):Int)+(1:Int))))] [])))) (K (Exit.exit 0) (sp 29 [] []))):=by kernel_rfl
def M8(x:Lx):=x.i<=x.A.length/\c6 x.A=true
def ZE(_:Lx):Out (Exit×S):= .one (.exit 0,sp 29 [] [])
theorem lSg κ:aX (W1 κ).E 12 20 4 (aG 0 Qa M8 ZE):=by
 refine aD (fun x=>x.A.length - x.i) ?_;rintro⟨A,i,k⟩ K ⟨d,a⟩ c;refine Eq.mpr (xSg κ ⟨A,i,k⟩ _ _ K) ?_;simp only;have e:=by simp only[c6,ao0] at a;exact a.1
 rw[ad,an9];refine⟨fun h=>?_,fun h=>c⟩;have b:(true&&decide ((i:Int)<(A.length:Int)))=true:=by simp;omega
 refine ai.2 ⟨b,ai.2 ⟨b,_,rfl,oa a i,_,?_,⟨A,i+1,k⟩,?_,⟨by simp only;omega,a⟩,rfl,c⟩⟩
 ·simp only;omega
 ·simp only[Qa]
  grind [az]
noncomputable def BSg κ:=(W1 κ).loop (lSg _)
theorem ySg κ A K:(a9 (BSg κ).E 12 20 [.ah 51 A, .ah 51 A] [] K)=(
 letI a:=Pg.toProgram (Env.P (EB.E (W1 κ)))
 ak ((↑(A.length):Int) != (↑(A.length):Int)) (K (AV.bool false) []) (ae a 20 4=ae a 20 4/\∃(e0:Lx),sp 29 [(0,AV.ah 51 A),(1,AV.ah 51 A),(5,
 AV.int 0)] []=Qa e0/\M8 e0/\K (AV.bool true) [])):=by kernel_rfl
def j5(A:List AV):List AV×List Dn.Obj:=([.ah 51 A, .ah 51 A],[])
theorem cS9 κ:bg (BSg κ).E 12 20 (aO j5 (fun A=>c6 A=true) SS):=by
 refine aU ?_;intro A K h a;refine Eq.mpr (ySg _ A K) ?_;simp only[bne_self_eq_false];exact⟨trivial,⟨A,0,0⟩,rfl,⟨Nat.zero_le _,h⟩,a⟩
noncomputable def BS9 κ:=(BSg κ).call (cS9 _)
abbrev chP(c:UInt8):AV:= .lit (.string (ByteArray.mk #[c]))
abbrev vP(c:UInt8):AV:= .agg [.int 1,chP c, .int 0, .nil]
abbrev zP:AV:= .agg [.int 0, .lit (.string (ByteArray.mk #[])), .int 0, .nil]
abbrev dP(c:UInt8):AV:= .agg [chP c, .ah 9 [chP 97,chP 98], .ah 3 [.int 1, .int 1], .bool false, .bool false, .int 0]
abbrev aP(r a b:UInt8):AV:= .agg [chP r, .ah 38 [vP a,vP b]]
abbrev lP(r a b:UInt8):AV:= .agg [.int 1,aP r a b,zP,zP]
abbrev Gz:List AV:=[dP 101,dP 112]
abbrev FP:List AV:=[.agg [aP 112 120 121, .ah 80 [lP 101 120 121], .int 0], .agg [aP 112 120 122, .ah 80 [lP 112 120 121,lP 101 121 122], .int 0]]
abbrev rP(a b:Int):List AV:=[.agg [.bool false, .int a, .lit (.string (ByteArray.mk #[]))], .agg [.bool false, .int b, .lit (.string (ByteArray.mk #[]))]]
abbrev P4:List AV:=[.ah 70 [.ah 72 (rP 1 2), .ah 72 (rP 2 3)], .nil]
abbrev Tl:List AV:=[.ah 72 (rP 1 2), .ah 72 (rP 1 3), .ah 72 (rP 2 3)]
theorem ae9 κ a b K:(a9 (BS9 κ).E 12 40 [.int a, .int b] [] K)=(
 K (AV.ah 72 (rP a b)) []):=by kernel_rfl
def Y1:List AV->Option (Bool×AV)
 |[.int a, .int b]=>some (true, .ah 72 (rP a b))
 |_=>none
theorem aj3 κ:BL (BS9 κ).E 12 40 Y1:=by
 intro d x c;unfold Y1 at c;split at c
 ·rename_i a b
  simp   at c;subst c;exact⟨rfl,Eq.mpr (ae9 _ a b _) rfl⟩
 grind
noncomputable def Wt κ:=EB.inline (EB.Kl ((BS9 κ).fresh (aj3 _)) [40]) [41,83]
theorem ySx κ K:(a9 (Wt κ).E 12 17 [] [] K)=(
 letI a:=AV.ah
 letI c:=AV.bool false
 letI b:=(K c []/\K c [])/\K c []
 letI e:=AV.bool true
 ∃(e2:vq),letI d:=a8 (eW e2.ds e2.rs e2.all e2.aQ);letI f:=[a 70 (ag (nth d 1)),a 70 Tl];letI g:=∃(e0:List AV),(f,[])=K3 e0/\fC e0=true/\K e [];letI h:=true&&decide ((1:Int)<(↑(List.length d):Int));letI i:=fr e2.ds e2.rs e2.xs e2.all e2.aQ==(0:Int);([AV.agg [a 43 Gz,a 48 FP],a 51 P4,AV.int 5],[])=ly e2/\dK e2/\ak (decide (fr e2.ds e2.rs e2.xs e2.all e2.aQ=(0:Int))) (∃(e1:vq),([AV.agg [a 43 Gz,a 48 FP],a 51 P4,AV.int 4],[])=ly e1/\dK e1/\ak (decide (fr e1.ds e1.rs e1.xs e1.all e1.aQ=(0:Int))) b (ak (fr e1.ds e1.rs e1.xs e1.all e1.aQ==(91:Int)) (ak ((↑(List.length d):Int)==(2:Int)) (aR h (g/\∃(e0:List AV),(f,[])=K3 e0/\fC e0=true/\K e [])/\aR h g) b) b)) (∃(e0:vq),([AV.agg [a 43 Gz,a 48 FP],a 51 P4,AV.int 4],[])=ly e0/\dK e0/\ak (decide (fr e0.ds e0.rs e0.xs e0.all e0.aQ=(0:Int))) (ak i b b) (ak i (ak (fr e0.ds e0.rs e0.xs e0.all e0.aQ==(91:Int)) b b) b))):=by kernel_rfl
abbrev sm:List RL:=[[rP 1 2,rP 2 3],[]]
theorem Ra:na Gz FP=true:=by kernel_rfl
theorem prP:gN Gz FP:=⟨lK Ra,by kernel_rfl⟩
theorem Ov a b:uy (rP a b):=fun v c=>by
 rcases List.mem_cons.1 c with rfl|c
 ·exact⟨rfl,rfl⟩
 ·rcases List.mem_cons.1 c with rfl|c
  ·exact⟨rfl,rfl⟩
  grind
theorem Yj: ∀L,L∈sm->wA L:=fun L b=>by
 rcases List.mem_cons.1 b with rfl|b
 ·refine⟨by decide,fun r a=>?_,fun r a=>?_⟩
  ·grind
  ·rcases List.mem_cons.1 a with rfl|a
   ·exact Ov 1 2
   simp_all[Ov]
 ·rcases List.mem_cons.1 b with rfl|b
  ·exact⟨Nat.zero_le _,by simp,fun r a=>(nomatch a)⟩
  ·cases b
theorem nO:InX P4 sm:=⟨rfl,by simp,fun i=>by
 match i with
 |0=>rfl
 |1=>rfl
 |i+2=>rfl,Yj⟩
theorem evP aQ(h:aQ<=50):ky Gz FP aQ (sm.map eM):=by
 have c:sm.map eM=sm:=by kernel_rfl
 rw[c];refine⟨prP,⟨rfl,fun L b=>(Yj L b).v,fun L b=>?_,fun i r a=>?_⟩,fun r a=>?_,h,by decide⟩
 ·rcases List.mem_cons.1 b with rfl|b
  ·kernel_rfl
  ·rcases List.mem_cons.1 b with rfl|b
   ·rfl
   ·cases b
 ·match i,a with
  | 0,a=>
   rcases List.mem_cons.1 a with rfl|a
   ·rfl
   ·rcases List.mem_cons.1 a with rfl|a
    ·rfl
    ·cases a
  |1,a=>cases a
  |i+2,a=>cases a
 ·rcases List.mem_cons.1 a with rfl|a
  ·kernel_rfl
  ·rcases List.mem_cons.1 a with rfl|a
   ·kernel_rfl
   ·cases a
theorem NI aQ(a:1<=aQ)(h:aQ<=50):dK ⟨Gz,FP,P4,sm,aQ⟩:=
 ⟨prP.s,by rfl,fun _=>nO,⟨a,h⟩,fun _ _=>evP _ h⟩
theorem e5:fr Gz FP P4 sm 5=0:=by kernel_rfl
theorem e4:fr Gz FP P4 sm 4=91:=by kernel_rfl
theorem r5:a8 (eW Gz FP sm 5)=[.ah 70 (rws [rP 1 2,rP 2 3]), .ah 70 Tl]:=by kernel_rfl
def ac6(_:Unit):List AV×List Dn.Obj:=([],[])
def XK(_:Unit):Out (AV×List Dn.Obj):= .one (.bool true,[])
theorem cSx κ:bg (Wt κ).E 12 17 (aO ac6 (fun _=>True) XK):=by
 refine aU ?_;rintro⟨⟩ K _ a
 replace a:K (.bool true) []:=a
 refine Eq.mpr (ySx κ K) ⟨⟨Gz,FP,P4,sm,5⟩,rfl,NI 5 (by decide) (by decide),?_⟩;refine ad.2 ⟨fun _=>⟨⟨Gz,FP,P4,sm,4⟩,rfl,NI 4 (by decide) (by decide),ad.2 ⟨fun e=>?_,fun _=>ad.2 ⟨fun _=>?_,fun e=>?_⟩⟩⟩,fun e=>?_⟩
 ·rw[e4] at e;cases e
 ·have b:([AV.ah 70 (ag (nth (a8 (eW Gz FP sm 5)) 1)),AV.ah 70 Tl],[])=K3 Tl:=by rw[r5];rfl
  have c:fC Tl=true:=by kernel_rfl
  have d:(true&&decide ((1:Int)<((a8 (eW Gz FP sm 5)).length:Int)))=true:=by rw[r5];rfl
  refine ad.2 ⟨fun _=>⟨ai.2 (by grind),ai.2 ⟨d,Tl,b,c,a⟩⟩,fun e=>?_⟩;rw[r5] at e;cases e
 ·rw[e4] at e;cases e
 ·have e: ¬ fr Gz FP P4 sm 5=0:=of_decide_eq_false e
  exact absurd e5 e
noncomputable def BSx κ:=(Wt κ).call (cSx _)
structure ALm where
 R:List RL
 aQ:Int
 i:Nat
structure ZZ(xs:List AV):Prop where
 f:c6 xs=true
 r: ∀x,x∈xs->∀r,r∈ag x->r= .ah 72 (ag r)
 v: ∀x,x∈xs->∀r,r∈ag x->∀v,v∈ag r->v=e6 (EA v)
def iT(xs:List _):=xs.map fun x=>dn (ag x)
theorem Jj: ∀{l},(∀r,r∈l->r= .ah 72 (ag r))->rws (dn l)=l
 |[],_=>rfl
 |a::l,h=>by
  have c:=h a (by simp);have b:=Jj (l:=l) (by grind);show AV.ah _ _::rws (dn l)=a::l
  grind
theorem PQ: ∀{t b},Jp t b=true->(∀v,v∈t->v=e6 (EA v))->uy t
 |[],[],_,_,v,c=>nomatch c
 | v::t,k::b,h,d,w,a=>by
  simp only[Jp,ao0] at h;rcases List.mem_cons.1 a with rfl|a
  ·refine⟨d _ (by simp),?_⟩
   grind [WU]
  ·exact PQ h.2 (by grind) w a
theorem C7: ∀{xs ds},w9 xs ds=true->∀i,i<xs.length->zC (ag (nth xs i)) (ag (af (nth ds i) 2))=true
 |[],_,_,i,a=>absurd a (by simp)
 |x::xs,[],h,_,_=>by cases h
 |x::xs,d::ds,h,i,a=>by
  rw[w9,ao0] at h;cases i with
  |zero=>exact h.1
  |succ i=>exact C7 h.2 i (by grind)
theorem BQ xs i:(iT xs).getD i []=dn (ag (nth xs i)):=by
 grind [aV,iT,fS,ag,dn]
structure Zl(ds rs xs:List AV):Prop where
 i:InX xs (iT xs)
 l:xs.length=ds.length
 w: ∀i r,r∈(iT xs).getD i []->r.length=FN ds i
theorem Pp{ds n xs}(l:ZZ xs)(t:xs.length<=60)(h:iK ds n xs=true):Zl ds n xs:=by
 simp only[iK,ao0,an9] at h;obtain⟨_,s,p⟩:=h;have d: ∀i,i<xs.length->nth xs i∈xs:=fun i a=>by rw[aV _ i a];exact List.getElem_mem _
 have ty:=fun i a r b=>by
  have m:=C7 p i a;simp only[zC,ao0,Xb,List.all_eq_true] at m;exact m.1 r b
 have e: ∀L,L∈iT xs->∃i,i<xs.length/\L=dn (ag (nth xs i)):=fun L j=>by
  obtain⟨i,a,rfl⟩:=List.getElem_of_mem j;have g:i<xs.length:=by simpa[iT] using a
  exact⟨i,g,by rw[←BQ];simp[List.getD_eq_getElem?_getD,a]⟩
 refine⟨⟨by simp[iT],by simp[iT];omega,fun i=>?_,fun L j=>?_⟩,s,fun i r b=>?_⟩
 ·rw[BQ]
  rcases Nat.lt_or_ge i xs.length with a|a
  ·exact(Jj fun r b=>l.r _ (d i a) r b).symm
  ·rw[fS _ i a];rfl
 ·obtain⟨i,a,rfl⟩:=e L j
  have o:=oa l.f i;refine⟨by rw[lG];exact jV o,fun r b=>?_,fun r b=>?_⟩
  ·obtain⟨x,c,rfl⟩:=List.mem_map.1 b
   obtain⟨k,q,rfl⟩:=List.getElem_of_mem c;have:=lV o k
   rwa [aV _ k q] at this
  ·obtain⟨x,c,rfl⟩:=List.mem_map.1 b
   exact PQ (ty i a x c) (l.v _ (d i a) x c)
 ·rw[BQ] at b
  rcases Nat.lt_or_ge i xs.length with a|a
  ·obtain⟨x,c,rfl⟩:=List.mem_map.1 b
   exact B3 _ _ (ty i a x c)
  ·rw[fS _ i a] at b;cases b
theorem HK: ∀xs n,Ad xs n=true->n<=20->n+cw (iT xs)<=20
 |[],n,_,h=>h
 |x::xs,n,h,_=>by
  simp[Ad] at h;have:=HK _ _ h.2.2 h.1
  grind [cw,iT,lG]
theorem Hp: ∀a,cw (a.map eM)<=cw a
 |[]=>Nat.le_refl _
 |L::a=>by
  have b:=Hp a
  grind [qX,cw]
theorem Yu{ds b xs}(p:ZZ xs)(a:nt ds b xs=true)(h:(gw ds b).2=0)(s:iK ds b xs=true){aQ}(q:aQ<=50):ky ds b aQ ((iT xs).map eM):=by
 simp only[nt,ao0,an9,List.all_eq_true] at a;obtain⟨j,x,m,n,o⟩:=a;have c:=Pp p m s;have k:(kt ds b).2=0:=by
  unfold gw at h
  grind
 have t:=HK xs 0 o (by omega);have u:=Hp (iT xs);refine⟨⟨lK j,k⟩,⟨?_,fun L a=>?_,fun L a=>?_,fun i r g=>?_⟩,n,q,by omega⟩
 ·rw[List.length_map,iT,List.length_map];exact c.l
 ·obtain⟨M,e,rfl⟩:=List.mem_map.1 a
  exact(kW (c.i.f M e).v).2.2
 ·obtain⟨M,e,rfl⟩:=List.mem_map.1 a
  exact(kW (c.i.f M e).v).1
 ·refine c.w i r ?_
  rcases Nat.lt_or_ge i (iT xs).length with d|d
  ·rw[List.getD_eq_getElem?_getD,List.getElem?_map,ap3 d] at g
   rw[List.getD_eq_getElem?_getD,ap3 d];exact((kW (c.i.f _ (List.getElem_mem d)).v).2.1 r).1 g
  grind
theorem RK{ds d xs}(a:ZZ xs)(b:nt ds d xs=true){aQ}(k:1<=aQ)(e:aQ<=50):dK ⟨ds,d,xs,iT xs,aQ⟩:=by
 have h:=b;simp[nt] at h;have g:=lK h.1;exact⟨g,by rw[HN g,a.f];rfl,fun c=>(Pp a h.2.2.1 c).i,⟨k,e⟩,fun l j=>Yu a b l j e⟩
theorem Re{ds b xs a n}(i:(gw ds b).2=0->iK ds b xs=true->ky ds b n (a.map eM))(h:fr ds b xs a n=0):fr ds b xs a (n+1)=0/\eW ds b a (n+1)=eW ds b a n/\cw (eW ds b a n)<=n/\ky ds b n (eW ds b a n):=by
 unfold fr at h⊢;by_cases g:(gw ds b).2=0
 ·rw[ao5 g,Bool.not_true,ao4] at h⊢
  cases f:iK ds b xs with
  |false=>rw[f] at h;cases h
  | true=>
   rw[f,Bool.not_true,ao4] at h;have d:=i g f;by_cases c:n<cw (eW ds b a n)
   ·grind
   ·have e:=(Bi d.p n (uZ ds b) (a.map eM) d.A).2.2 (show cw (eW ds b a n)<=n by omega)
    grind [eW,ky.eval]
 grind
theorem Ko{ds c n R}(h:ky ds c n R):c6 (a8 R)=true:=by
 have hd:=Fc h.p;have d:=h.A.len;have f:=h.n;simp only[c6,ao0,an9,List.all_eq_true];refine⟨by grind,fun x b=>?_⟩;obtain⟨L,a,rfl⟩:=List.mem_map.1 b;obtain⟨i,g,rfl⟩:=List.getElem_of_mem a;refine rX ?_ fun r e=>HW h.p h.A i r ?_
 ·have:=sk a;omega
 grind
end Go.Proofs.YtioeffnadipbaaaGreatDoor
