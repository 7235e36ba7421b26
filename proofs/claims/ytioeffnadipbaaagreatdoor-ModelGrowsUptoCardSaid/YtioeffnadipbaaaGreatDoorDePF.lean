import Derived.Test.YtioeffnadipbaaaGreatDoorDePE
import Derived.Test.YtioeffnadipbaaaGreatDoorDeP4
namespace Go.Proofs.YtioeffnadipbaaaGreatDoor
open Go Go.Dn Go.Rl Go.Proofs
theorem tJ A B:(et A B).length<=A.length+B.length:=by
 match A,B with
 |[],B=>rw[B4];simp
 |a::c,[]=>
  have:=tJ c []
  grind [B3]
 |a::c,b::d=>
  have f:=tJ c (b::d);have g:=tJ c d;have e:=tJ (a::c) d;rw[B2]
  grind
termination_by A.length+B.length
def vW(l:List _):=(l.filter fun x=>toInt (ag x 0)==1).length
def Ls r:=decide (vW (af (ag r 1))<=3)
theorem FX{p}: ∀n {l:List _},l.Nodup->(∀x,x∈l->x<n)->(l.filter p).length<=((List.range n).filter p).length:=by
 intro n l d e;have c:(l.filter p).Nodup:=d.filter _;have g: ∀x,x∈l.filter p->x∈(List.range n).filter p:=fun x h=>by
  grind
 generalize l.filter p=a at*
 generalize (List.range n).filter p=b at*
 clear d e;induction a generalizing b with
 |nil=>exact Nat.zero_le _
 |cons x a f=>
  rw[List.nodup_cons] at c;have:=f c.2 (b.erase x) (by grind)
  grind
theorem rR q: ∀l:List _,((List.range l.length).filter fun k=>q (nth l k)).length=(l.filter q).length
 |[]=>rfl
 | a::l=>by
  have b:=rR q l;rw[List.length_cons,List.range_succ_eq_map,List.filter_cons,List.filter_cons];have e:((List.range l.length).map Nat.succ).filter (fun k=>q (nth (a::l) k))=((List.range l.length).filter fun k=>q (nth l k)).map Nat.succ:=by
   rw[List.filter_map];rfl
  grind [nth]
theorem VF{ds b r a}:Am (FT ds b r a) (cR (aQ r))<=vW r.bl:=by
 have h:=FX (p:=fun k=>toInt (ag (nth r.bl k) 0)==1) _ (Em (aQ r)) fun x c=>by
  have:=sn c
  rwa [fW] at this
 rw[rR (fun t=>toInt (ag t 0)==1) _] at h;exact h
variable {ds rs:List AV}
theorem P0(h:iQ ds rs) i:G7 ds i<=100:=by
 have b:=(sE.1 h.c).1;simp only[fA,ar5,List.all_eq_true] at b;rcases Nat.lt_or_ge i ds.length with a|a
 ·have:=b.1.2 _ (show nth ds i∈ds by grind [aM])
  grind [JJ,Cw,G7]
 ·unfold G7
  rw[fj _ i a];exact Nat.zero_le _
theorem YY(h:iQ ds rs){r}(a:r∈rs):(dr r).hl.length<=8:=by
 have b:=(uU h.s h.c a).r
 grind [a8,nv,aQ,eD]
theorem Mg(h:iQ ds rs){r}(j:r∈rs)(d:Ls r=true){a}(i:cC a<=50):(Lm.V ⟨ds,rs,dr r,a⟩).length<=125000:=by
 have f: ∀b,((FT ds rs (dr r) a).at b).length<=50:=fun b=>by
  rw[sX,dX];rcases Nat.lt_or_ge _ a.length with c|c
  ·exact Nat.le_trans (sj (kQ c)) i
  grind
 have g:=Ay f (by omega) (cR (aQ (dr r))) [];have e:Am (FT ds rs (dr r) a) _<=3:=Nat.le_trans VF (of_decide_eq_true d);exact Nat.le_trans g (Nat.le_trans (Nat.pow_le_pow_right (by omega) e) (by decide))
theorem YF(h:iQ ds rs){r}(b:r∈rs)(j:Ls r=true){a}(e:dU ds a)(f:cC a<=50):qj ⟨ds,rs,dr r,a⟩:=by
 have hl:=Mg h b j f;refine⟨uU h.s h.c b,MH h.s h.c b e fun L i=>?_,⟨by grind,fun x g=>?_,rp (u6 e.v) _ H3⟩⟩
 ·have:L.length<=cC a:=sj i
  omega
 ·have d:=Az _ g
  have k:=YY h b;have d:x.length=(dr r).hl.length:=d;omega
theorem Hp(h:iQ ds rs){a}(b:dU ds a) i x(c:x∈a.getD i []):x.length<=100000000:=by
 have d:=b.w i x c
 grind [P0]
theorem YE(h:iQ ds rs){r}(e:r∈rs)(j:Ls r=true){a}(b:dU ds a)(m:cC a<=50):vw (rws (a.getD (atR ds r) []),rws (dC ds rs (dr r) a)):=by
 obtain⟨g,k,f⟩:=u0 h e b;have i:atR ds r<a.length:=by rw[b.len];exact(h.at e).2
 have d:=kQ i;have l:=Mg h e j m;have n:(dC ds rs (dr r) a).length<=125000:=Nat.le_trans (sa _) l;have p:=sj d;have o:=P0 h (atR ds r);refine⟨⟨rk (by omega) (Hp h b _),rk (by omega) (fun x c=>by have:=f x c;omega),?_,fun x c=>?_⟩,?_,?_⟩
 ·simp only[jL]
  have:=tJ (a.getD (atR ds r) []) (dC ds rs (dr r) a)
  rw[et,List.length_map] at this;omega
 ·simp only[jL] at c
  have:x.1∈et (a.getD (atR ds r) []) (dC ds rs (dr r) a):=List.mem_map_of_mem c
  rcases(gu (b.v _ d) g).1 this with h|h
  ·have:=b.w _ _ h;omega
  ·have:=f _ h;omega
 ·simp only[jL];exact b.r _ d
 ·simp only[jL];exact k
theorem Eb(h:iQ ds rs){r}(b:r∈rs)(c:Ls r=true){a}(d:dU ds a)(e:cC a<=50):cC (iP ds rs r a)<=200000:=by
 obtain⟨_,_,f⟩:=pM h b d;have g:=tJ (a.getD (atR ds r) []) (dC ds rs (dr r) a);have i:(dC ds rs (dr r) a).length<=125000:=Nat.le_trans (sa _) (Mg h b c e);omega
end Go.Proofs.YtioeffnadipbaaaGreatDoor
namespace Go.Proofs.YtioeffnadipbaaaGreatDoor
open Go Go.Dn Go.Rl Go.Proofs
attribute [local irreducible] a0 vc
set_option maxRecDepth 20000
structure Qd where
 ds:List AV
 rs:List AV
 g:List Int
 bf:Nat
 all:List RL
 more:Bool
 i:Nat
abbrev qT(a:List RL):Dn.Obj:= .row 51 (bh a)
abbrev RY(r:AV):AV:= .agg [.agg [.lit (.string (toStr (ag (ag r 0) 0))), .ah 38 (af (ag (ag r 0) 1))], .ah 80 (af (ag r 1)), .int (toInt (ag r 2))]
abbrev Lw ds b g c n bf i a:=sp 71 [(1, .ah 3 g),(2, .ak 0 0 n),(3, .int bf),(4, .ptr 1 0 [] 0),(9, .bool a),(16, .ah 48 b),(17, .int b.length),(18, .int i)] [.row 51 c, .box 25 (eH ds b)]
abbrev K6(x:Qd):=Lw x.ds x.rs (iA x.g) (bh x.all) (bh x.all).length x.bf x.i x.more
def Pk:dL:=fun b st K=>∃a,(b,st)=K5 a/\qj a/\K (.ah 70 (rws (dC a.ds a.rs a.r a.all))) st
theorem GR:Pk.fU:=fun _ _ _ _ c ⟨a,d,e,b⟩=>⟨a,d,e,c _ _ b⟩
theorem VQ b st K(h:Pk b st K):aO K5 qj Tz b st K:=by
 obtain⟨a,d,e,c⟩:=h;obtain⟨rfl,rfl⟩:=Prod.mk.inj d;exact⟨a,rfl,e,c⟩
theorem VB κ a st K(h:Pk a st K):(BUn κ).E.call 50 a st K:=VQ _ _ K h
noncomputable def Vb κ:=EB.W7 _ GR (VB κ)
theorem xGw(κ:Kp)(x:Qd) I(N:Nat) K:(vc (Vb κ).E 12 46 none 1 (ad (Pr κ).toProgram 46 3) (K6 x) (bj (Vb κ).E 46 3 1 I N K))=(
 letI a:=Obj.box
 letI b:=AV.ah
 letI c:=List.length (bh x.all)
 letI f:=IntKind.wrap IntKind.i64 ((↑(x.i):Int)+(1:Int))
 letI j:=nth x.rs (Int.toNat (↑(x.i):Int))
 letI l:=a 25 (eH x.ds x.rs)=a 25 (eH x.ds x.rs)/\a 48 (RY j)=a 48 (RY j)/\True
 letI m:=List.take c (List.drop 0 (bh x.all))
 letI n:=(↑(x.i):Int)<(↑(x.rs.length):Int)
 aq (decide n) (aV (true&&decide n) (∃(e3:List AV×ByteArray),letI d:=decide ((0:Int)<=bx e3.2 e3.1)&&decide (bx e3.2 e3.1<(↑c:Int));letI e:=bx e3.2 e3.1;letI k:=af (nth (bh x.all) (0+Int.toNat e));([b 43 x.ds,AV.str (toStr (ag (ag j 0) 0))],[])=I6 e3/\ix e3/\aV (decide (List.length m<=100000)&&decide (ju m<=1000000000)) (aq (decide ((↑(ju m):Int)>(↑(x.bf):Int))) (K Exit.ret (sp 71 [(8,AV.bool false)] [qT x.all])) (aV (decide (List.length (iA x.g)<=9223372036854775807)) (aq (!YZ e (iA x.g)) (∃(e0:Nat),e0<N/\I e0 (Lw x.ds x.rs (iA x.g) (bh x.all) c (↑(x.bf):Int) f x.more)) (aV d (aV d ((∃(e2:Lm),([eH x.ds x.rs,RY j,AV.ak 0 0 c],[qT x.all])=K5 e2/\qj e2/\l/\∃(e1:P6),letI g:=bH (bh x.all) (0+Int.toNat e) (b 70 (List.take (List.length (et (cU e1.1) (cU e1.2))) (List.drop 0 (rws (et (cU e1.1) (cU e1.2))))));([b 70 k,b 70 (rws (dC e2.ds e2.rs e2.r e2.all))],[])=SK e1/\vw e1/\aV d (aq x.more (∃(e0:Nat),e0<N/\I e0 (Lw x.ds x.rs (iA x.g) g c (↑(x.bf):Int) f true)) (aV d (∃(e0:Nat),e0<N/\I e0 (Lw x.ds x.rs (iA x.g) g c (↑(x.bf):Int) f (decide ((↑(List.length (af (nth g (0+Int.toNat e)))):Int)>(↑(List.length k):Int))))))))/\∃(e2:Lm),([eH x.ds x.rs,RY j,AV.ak 0 0 c],[qT x.all])=K5 e2/\qj e2/\l/\∃(e1:P6),letI h:=bH (bh x.all) (0+Int.toNat e) (b 70 (List.take (List.length (et (cU e1.1) (cU e1.2))) (List.drop 0 (rws (et (cU e1.1) (cU e1.2))))));([b 70 k,b 70 (rws (dC e2.ds e2.rs e2.r e2.all))],[])=SK e1/\vw e1/\aV d (aq x.more (∃(e0:Nat),e0<N/\I e0 (Lw x.ds x.rs (iA x.g) h c (↑(x.bf):Int) f true)) (aV d (∃(e0:Nat),e0<N/\I e0 (Lw x.ds x.rs (iA x.g) h c (↑(x.bf):Int) f (decide ((↑(List.length (af (nth h (0+Int.toNat e)))):Int)>(↑(List.length k):Int))))))))/\∃(e2:Lm),([eH x.ds x.rs,RY j,AV.ak 0 0 c],[qT x.all])=K5 e2/\qj e2/\l/\aV d (∃(e1:P6),letI i:=bH (bh x.all) (0+Int.toNat e) (b 70 (List.take (List.length (et (cU e1.1) (cU e1.2))) (List.drop 0 (rws (et (cU e1.1) (cU e1.2))))));([b 70 k,b 70 (rws (dC e2.ds e2.rs e2.r e2.all))],[])=SK e1/\vw e1/\aV d (aq x.more (∃(e0:Nat),e0<N/\I e0 (Lw x.ds x.rs (iA x.g) i c (↑(x.bf):Int) f true)) (aV d (∃(e0:Nat),e0<N/\I e0 (Lw x.ds x.rs (iA x.g) i c (↑(x.bf):Int) f (decide ((↑(List.length (af (nth i (0+Int.toNat e)))):Int)>(↑(List.length k):Int))))))))))))))) (K (Exit.exit 0) (sp 71 [(9,AV.bool x.more)] [qT x.all]))):=by kernel_rfl
theorem eL a:(bh a).length=a.length:=by simp
theorem PR W:(rws W).take W.length=rws W:=by grind [dX]
theorem DR W: ∀a k,bH (bh a) k (.ah 70 (rws W))=bh (a.set k W)
 |[],0=>rfl
 |[],_+1=>rfl
 |_::_,0=>rfl
 |L::a,k+1=>by
  have:=DR W a k
  grind [bH]
def x3(ds b:List AV)(g:List Int)(bf:Nat):List AV->List RL->Bool
 |[],_=>false
 |r::xs,a=>bif decide (bf<cC a) then true
  else bif !g.contains (bx (dr r).rel ds) then x3 ds b g bf xs a
  else x3 ds b g bf xs (iP ds b r a)
theorem tF{ds d g bf}: ∀xs a m,x3 ds d g bf xs a=true->(cu ds d g bf xs a m).2=false
 |[],_,_,h=>by cases h
 | r::xs,a,m,h=>by
  rw[x3] at h;rw[cu];cases c:decide (bf<cC _) with
  |true=>rfl
  |false=>
   rw[c] at h;cases b: !g.contains _ with
   |true=>rw[b] at h;exact tF xs _ m h
   |false=>rw[b] at h;exact tF _ _ _ h
structure qk(x:Qd):Prop where
 p:iQ x.ds x.rs
 A:dU x.ds x.all
 t: ∀r,r∈x.rs->Ls r=true
 l:x.bf<=50
 n:cC x.all<=200000
 g:x.g.length<=100000
 i:x.i<=x.rs.length
def xq(x:Qd):Out (Exit×S):= .aq (x3 x.ds x.rs x.g x.bf (x.rs.drop x.i) x.all)
 (.one (.ret,sp 71 [(8, .bool false)] [qT (cu x.ds x.rs x.g x.bf (x.rs.drop x.i) x.all x.more).1]))
 (.one (.exit 0,sp 71 [(9, .bool (cu x.ds x.rs x.g x.bf (x.rs.drop x.i) x.all x.more).2)] [qT (cu x.ds x.rs x.g x.bf (x.rs.drop x.i) x.all x.more).1]))
theorem Fk{ds a}(h:iQ ds a):ds.length<=60:=by
 have b:=(sE.1 h.c).1
 grind [fA]
theorem lGw κ:aU (Vb κ).E 12 46 3 (aG 1 K6 qk xq):=by
 refine aC (fun x=>x.rs.length - x.i) ?_;rintro⟨ds,b,g,bf,a,j,i⟩ K r f;have k:=r.p;have v:=r.A;have O:=r.l;have Q:=r.n;have F:=r.g;have I:=r.i;have J:=k.s.2.1;have hdl:ds.length<=60:=Fk k;have o:=v.len;simp only[aW] at k v O Q F I J o;rw[show(Vb κ).E.P=Pr κ from rfl];refine Eq.mpr (xGw κ ⟨ds,b,g,bf,a,j,i⟩ _ _ K) ?_;simp only[Int.toNat_natCast,as4,List.take_length,Nat.zero_add];rw[ae,ar4,ar6];refine⟨fun h=>?_,fun h=>?_⟩
 ·have H:i<b.length:=by omega
  have w:nth b i∈b:=by rw[aM _ i H];exact List.getElem_mem _
  have C:=k.at w;have L:=r.t _ w;have hd:b.drop i=nth b i::b.drop (i+1):=by rw[as5 H,←aM b i H]
  have Y:IntKind.wrap .i64 ((i:Int)+1)=((i+1:Nat):Int):=by rw[az (by omega) (by omega)];omega
  have q: ∀d z,dU ds d->cC d<=200000->((xq ⟨ds,b,g,bf,d,z,i+1⟩).run fun y=>K y.1 y.2)->∃m,m<b.length - i/\ep K6 qk xq (fun x=>x.rs.length - x.i) K m (Lw ds b (iA g) (bh d) (bh d).length bf (IntKind.wrap .i64 ((i:Int)+1)) z):=fun d z V T Z=>
   ⟨_,by simp only;omega,⟨ds,b,g,bf,d,z,i+1⟩,by rw[Y],⟨k,V,r.t,O,T,F,H⟩,rfl,Z⟩
  unfold xq at f;simp only[hd] at f;rw[x3,cu] at f;refine ai.2 ⟨by simp;omega,⟨ds,(dr (nth b i)).rel⟩,rfl,k.s.1,ai.2 ⟨?_,?_⟩⟩
  ·rw[ya,eL,ar5,ar4,ar4];omega
  ·simp only[ya]
   rw[ae,ar4,ar6];refine⟨fun c=>?_,fun c=>?_⟩
   ·rw[as0 (show bf<cC a by omega)] at f
    exact f
   ·have c: ¬ bf<cC a:=by omega
    rw[ar8 c,ar9,ar9] at f;refine ai.2 ⟨by rw[ar4,jd];omega,?_⟩;rw[M1,ae];refine⟨fun e=>?_,fun e=>?_⟩
    ·rw[e,as1,as1] at f
     exact q a j v Q f
    ·rw[e,ar9,ar9] at f
     have B:(decide (0<=bx (dr (nth b i)).rel ds)&&decide (bx (dr (nth b i)).rel ds<((bh a).length:Int)))=true:=by
      rw[eL,o,ar5,ar4,ar4];exact C.1
     obtain⟨s1,s2,s3⟩:=pM k w v;have U:=YF k w L v (by omega);have R:=YE k w L v (by omega);have X:=Eb k w L v (by omega);have D:(bh (iP ds b (nth b i) a)).length=(bh a).length:=by rw[eL,eL,s1.len,o]
     have N:atR ds (nth b i)<a.length:=by rw[o];exact C.2
     have u:=fun z=>q (iP ds b (nth b i) a) z s1 X
     rw[D] at u;have hd:decide (((af (nth (bh (a.set (atR ds (nth b i)) (et (a.getD (atR ds (nth b i)) []) (dC ds b (dr (nth b i)) a)))) (atR ds (nth b i)))).length:Int)>((af (nth (bh a) (atR ds (nth b i)))).length:Int))=decide ((a.getD (atR ds (nth b i)) []).length<(et (a.getD (atR ds (nth b i)) []) (dC ds b (dr (nth b i)) a)).length):=by
      have F: ∀W:RL,(a.set (atR ds (nth b i)) W).getD (atR ds (nth b i)) []=W:=fun W=>by
       rw[List.getD_eq_getElem?_getD,List.getElem?_set_self N];rfl
      rw[mP,mP,dX,dX,F];exact decide_eq_decide.2 (by omega)
     refine ai.2 ⟨B,ai.2 ⟨B,?_,?_⟩,?_⟩
     all_goals
      refine⟨⟨ds,b,dr (nth b i),a⟩,rfl,U,(by refine⟨?_,?_,trivial⟩<;>first|exact trivial|rfl),?_⟩
      first
      |refine⟨(rws (a.getD (atR ds (nth b i)) []),rws (dC ds b (dr (nth b i)) a)),by rw[←mP];rfl,R,ai.2 ⟨B,?_⟩⟩
      |refine ai.2 ⟨B,⟨(rws (a.getD (atR ds (nth b i)) []),rws (dC ds b (dr (nth b i)) a)),by rw[←mP];rfl,R,ai.2 ⟨B,?_⟩⟩⟩
      simp only[jL,PR];change aq j (∃m,m<b.length - i/\ep K6 qk xq (fun x=>x.rs.length - x.i) K m (Lw ds b (iA g) (bH (bh a) (atR ds (nth b i)) (.ah 70 (rws (et (a.getD (atR ds (nth b i)) []) (dC ds b (dr (nth b i)) a))))) (bh a).length bf (IntKind.wrap .i64 ((i:Int)+1)) true)) (aV _ (∃m,m<b.length - i/\ep K6 qk xq (fun x=>x.rs.length - x.i) K m (Lw ds b (iA g) (bH (bh a) (atR ds (nth b i)) (.ah 70 (rws (et (a.getD (atR ds (nth b i)) []) (dC ds b (dr (nth b i)) a))))) (bh a).length bf (IntKind.wrap .i64 ((i:Int)+1)) (decide (((af (nth (bH (bh a) (atR ds (nth b i)) (.ah 70 (rws (et (a.getD (atR ds (nth b i)) []) (dC ds b (dr (nth b i)) a))))) (atR ds (nth b i)))).length:Int)>((af (nth (bh a) (atR ds (nth b i)))).length:Int))))));rw[DR,hd];cases j with
      |true=>exact u true f
      |false=>exact ai.2 ⟨B,u _ f⟩
 ·unfold xq at f
  rw[as2 (by simp only;omega)] at f;exact f
noncomputable def UH κ:=(Vb κ).loop (lGw _)
theorem yGw κ(x:Qd) K:(a0 (UH κ).E 12 46 [eH x.ds x.rs, .ah 3 (iA x.g), .ak 0 0 (bh x.all).length, .int x.bf] [qT x.all] K)=(
 ad (Pg.toProgram (Env.P (EB.E (Vb κ)))) 46 3=ad (Pg.toProgram (Env.P (EB.E (Vb κ)))) 46 3/\∃(a:Qd),letI b:=cu a.ds a.rs a.g a.bf (List.drop a.i a.rs) a.all a.more;Lw x.ds x.rs (iA x.g) (bh x.all) (List.length (bh x.all)) (↑(x.bf):Int) (0:Int) false=K6 a/\qk a/\aq (x3 a.ds a.rs a.g a.bf (List.drop a.i a.rs) a.all) (K (AV.bool false) [qT (Prod.fst b)]) (K (AV.bool (Prod.snd b)) [qT (Prod.fst b)])):=by kernel_rfl
def Uf(x:Qd):=([eH x.ds x.rs, .ah 3 (iA x.g), .ak 0 0 (bh x.all).length, .int x.bf],[qT x.all])
def Wi(x:Qd):Out (AV×List Dn.Obj):= .one (.bool (cu x.ds x.rs x.g x.bf x.rs x.all false).2,[qT (cu x.ds x.rs x.g x.bf x.rs x.all false).1])
theorem cGw κ:bc (UH κ).E 12 46 (aO Uf qk Wi):=by
 refine aR ?_;rintro⟨ds,e,g,bf,b,d,i⟩ K a c
 replace c:K _ _:=c
 refine Eq.mpr (yGw κ _ K) ⟨rfl,⟨ds,e,g,bf,b,_,0⟩,rfl,⟨a.p,a.A,a.t,a.l,a.n,a.g,Nat.zero_le _⟩,?_⟩
 grind [ae,tF]
noncomputable def Qj κ:=(UH κ).call (cGw _)
abbrev evS ds c xs a b bf i n:=sp 67 [(2, .int bf),(3, .ptr 0 0 [] 0),(8, .ak 1 0 (jY b).length),(11, .ak 2 0 n),(38, .ah 51 xs),(39, .int xs.length),(40, .int i)] [.box 25 (eH ds c), .row 35 (jY b), .row 51 a]
theorem xEa κ ds rs xs ALL gs bf(i:Nat) I N K:(vc (Qj κ).E 12 19 none 0 (ad (Pr κ).toProgram 19 10) (evS ds rs xs ALL gs bf i ALL.length) (bj (Qj κ).E 19 10 0 I N K))=(
 letI a:=(↑i:Int)<(↑(xs.length):Int)
 aq (decide a) (aV (true&&decide a) (∃(e1:RL),([AV.ah 70 (af (nth xs (Int.toNat (↑i:Int))))],[])=SG e1/\vt e1/\aV (decide ((ALL.length+1+1)*
 25<=70368744177664)) (∃(e0:Nat),e0<N/\I e0 (evS ds rs xs (List.take ALL.length ALL++[AV.ah 70 (rws (eo e1))]) gs bf (IntKind.wrap IntKind.i64 ((↑i:
 Int)+(1:Int))) (ALL.length+1))))) (K (Exit.exit 1) (sp 67 [(2,AV.int bf),(3,AV.ptr 0 0 [] 0),(8,AV.ak 1 0 (List.length (jY gs))),(11,AV.ak 2 0
 ALL.length)] [Obj.box 25 (eH ds rs),Obj.row 35 (jY gs),Obj.row 51 ALL]))):=by kernel_rfl
structure XE where
 ds:List AV
 rs:List AV
 xs:List AV
 gs:List (List Int)
 bf:Int
 all:List RL
 i:Nat
abbrev Sl(x:XE):=evS x.ds x.rs x.xs (bh ((x.all.take x.i).map eo)) x.gs x.bf x.i (bh ((x.all.take x.i).map eo)).length
structure InX(xs:List AV)(all:List RL):Prop where
 len:xs.length=all.length
 n:all.length<=100000
 a: ∀i,af (nth xs i)=rws (all.getD i [])
 f: ∀L,L∈all->vt L
def Gz(x:XE):=x.i<=x.xs.length/\InX x.xs x.all
def ZG(x:XE):Out (Exit×S):= .one (.exit 1,sp 67 [(2, .int x.bf),(3, .ptr 0 0 [] 0),(8, .ak 1 0 (jY x.gs).length),(11, .ak 2 0 (bh (x.all.map eo)).length)] [.box 25 (eH x.ds x.rs), .row 35 (jY x.gs),qT (x.all.map eo)])
theorem lEa κ:aU (Qj κ).E 12 19 10 (aG 0 Sl Gz ZG):=by
 refine aC (fun x=>x.xs.length - x.i) ?_;rintro⟨ds,j,xs,k,bf,b,i⟩ K ⟨o,c⟩ d;simp only at o c;rw[show(Qj κ).E.P=Pr κ from rfl];refine Eq.mpr (xEa κ ds j xs (bh ((b.take i).map eo)) k bf i _ _ K) ?_;simp only[Int.toNat_natCast,List.take_length];have r:=c.n;have q:=c.len;rw[ae,ar4,ar6];refine⟨fun h=>?_,fun h=>?_⟩
 ·have g:i<b.length:=by omega
  have p:(b.take (i+1)).map eo=(b.take i).map eo++[eo (b.getD i [])]:=by
   rw[List.take_add_one,List.map_append];simp[g,List.getD_eq_getElem?_getD]
  have m:(bh ((b.take i).map eo)).length<=100000:=by rw[eL,List.length_map,List.length_take];omega
  refine ai.2 ⟨by simp;omega,b.getD i [],by rw[c.a];rfl,c.f _ (kQ g),ai.2 ⟨by rw[ar4];omega,_,?_,⟨ds,j,xs,k,bf,b,i+1⟩,?_,⟨by simp only;omega,c⟩,rfl,d⟩⟩
  ·simp only;omega
  ·have e:bh ((b.take (i+1)).map eo)=bh ((b.take i).map eo)++[.ah 70 (rws (eo (b.getD i [])))]:=by rw[p,bh,List.map_append];rfl
   simp only[Sl,e,as9,List.length_singleton];rw[az (n:=(i:Int)+1) (by omega) (by omega)];rfl
 ·have l:b.take i=b:=List.take_of_length_le (by omega)
  simp only[l];exact d
noncomputable def UC κ:=(Qj κ).loop (lEa _)
abbrev ewS ds c b g a bf i n:=sp 67 [(2, .int bf),(3, .ptr 0 0 [] 0),(11, .ak 1 0 n),(15, .ah 3 g),(50, .ak 2 0 (jY a).length),(51, .int (jY a).length),(52, .int i)] [.box 25 (eH ds c), .row 51 b, .row 35 (jY a)]
abbrev VH ds c b a bf i n:=sp 67 [(2, .int bf),(3, .ptr 0 0 [] 0),(11, .ak 1 0 n),(50, .ak 2 0 (jY a).length),(51, .int (jY a).length),(52, .int i)] [.box 25 (eH ds c), .row 51 b, .row 35 (jY a)]
structure AEw where
 ds:List AV
 rs:List AV
 gs:List (List Int)
 bf:Nat
 all:List RL
 g:List Int
 i:Nat
 n:Nat
abbrev Sm(x:AEw):=ewS x.ds x.rs (bh x.all) (iA x.g) x.gs x.bf x.i (bh x.all).length
theorem xEw κ x I N K:(vc (UC κ).E 12 19 none 0 (ad (Pr κ).toProgram 19 17) (Sm x) (bj (UC κ).E 19 17 0 I N K))=(
 letI a:=List.length (bh x.all)
 ∃(e1:Qd),letI b:=cu e1.ds e1.rs e1.g e1.bf e1.rs e1.all false;([eH x.ds x.rs,AV.ah 3 (iA x.g),AV.ak 0 0 a,AV.int (↑(x.bf):Int)],[qT x.all])=Uf e1/\qk e1/\aq (Prod.snd b) (∃(e0:Nat),e0<N/\I e0 (ewS x.ds x.rs (bh (Prod.fst b)) (iA x.g) x.gs (↑(x.bf):Int) (↑(x.i):Int) a)) (K (Exit.exit 5) (VH x.ds x.rs (bh (Prod.fst b)) x.gs (↑(x.bf):Int) (↑(x.i):Int) a))):=by kernel_rfl
theorem wA{ds e}(h:iQ ds e)(i: ∀r,r∈e->Ls r=true){bf}(k:bf<=50) g: ∀xs a m,(∀r,r∈xs->r∈e)->dU ds a->cC a<=200000->cC (cu ds e g bf xs a m).1<=200000
 |[],_,_,_,_,f=>f
 | r::xs,a,m,l,j,f=>by
  have d: ∀r,r∈xs->r∈e:=fun r b=>l r (by simp[b])
  have b:=l r (by simp);rw[cu];by_cases c:bf<cC a
  ·grind
  ·rw[ar8 c]
   cases !g.contains _ with
   |true=>exact wA h i k g xs a m d j f
   |false=>exact wA h i k g xs _ _ d (pM h b j).1 (Eb h b (i r b) j (by omega))
theorem J1{ds b g bf a}(h:bf<cC a): ∀xs,(cu ds b g bf xs a false).2=false
 |[]=>rfl
 |r::xs=>by grind [cu]
structure iz(ds rs:List AV)(bf:Nat)(all:List RL):Prop where
 p:iQ ds rs
 A:dU ds all
 t: ∀r,r∈rs->Ls r=true
 l:bf<=50
 n:cC all<=200000
theorem iz.grow{ds b bf a}(h:iz ds b bf a) g:iz ds b bf (cu ds b g bf b a false).1:=
 ⟨h.p,(lF h.p g _ _ _ _ (by simp) h.A).1,h.t,h.l,wA h.p h.t h.l g _ _ _ (by simp) h.A h.n⟩
theorem iz.loop{ds b bf} g: ∀n {a},iz ds b bf a->iz ds b bf (fw ds b g bf n a)
 |0,_,h=>h
 |n+1,a,h=>by
  rw[fw];cases(cu _ _ g _ _ _ _).2 with
  |true=>exact iz.loop g n (h.grow g)
  |false=>exact h.grow g
structure Me(x:AEw):Prop where
 o:iz x.ds x.rs x.bf x.all
 g:x.g.length<=100000
 f:x.bf+2<=x.n+cC x.all/\1<=x.n
def ZJ(x:AEw):Out (Exit×S):= .one (.exit 5,VH x.ds x.rs (bh (fw x.ds x.rs x.g x.bf x.n x.all)) x.gs x.bf x.i (bh x.all).length)
theorem lEw κ:aU (UC κ).E 12 19 17 (aG 0 Sm Me ZJ):=by
 refine aC (fun x=>x.n) ?_;rintro⟨ds,b,j,bf,a,g,i,n⟩ K ⟨h,k,r,s⟩ f;simp only at h k r s;rw[show(UC κ).E.P=Pr κ from rfl];obtain⟨n,rfl⟩: ∃m,n=m+1:=⟨n - 1,by omega⟩
 have f:K (.exit 5) (VH ds b (bh (fw ds b g bf (n+1) a)) j bf i (bh a).length):=f;rw[fw] at f;obtain⟨q,y,u,_⟩:=lF h.p g bf b a false (fun _ o=>o) h.A;refine Eq.mpr (xEw κ ⟨ds,b,j,bf,a,g,i,n+1⟩ _ _ K) ⟨⟨ds,b,g,bf,a,false,0⟩,rfl,⟨h.p,h.A,h.t,h.l,h.n,k,Nat.zero_le _⟩,?_⟩;have d:(bh (cu ds b g bf b a false).1).length=(bh a).length:=by rw[eL,eL,q.len,h.A.len]
 rw[ae];refine⟨fun e=>?_,fun e=>?_⟩
 ·have e:(cu ds b g bf b a false).2=true:=e
  rw[e,as1,←d] at f;have w:=(u e).resolve_left (by simp);have v: ¬ bf<cC a:=fun c=>by rw[J1 c] at e;cases e
  refine⟨n,Nat.lt_succ_self n,⟨ds,b,j,bf,(cu ds b g bf b a false).1,g,i,n⟩,by simp only[Sm,d],⟨h.grow g,k,by simp only;omega,by simp only;omega⟩,rfl,f⟩
 grind
noncomputable def Qi κ:=(UC κ).loop (lEw _)
structure XF where
 ds:List AV
 rs:List AV
 gs:List (List Int)
 bf:Nat
 all:List RL
 i:Nat
abbrev PE(x:XF):=VH x.ds x.rs (bh x.all) x.gs x.bf x.i (bh x.all).length
theorem xEf κ x I N K:(vc (Qi κ).E 12 19 none 0 (ad (Pr κ).toProgram 19 15) (PE x) (bj (Qi κ).E 19 15 0 I N K))=(
 letI a:=(↑(x.i):Int)<(↑(List.length (jY x.gs)):Int)
 letI b:=Pg.toProgram (Env.P (EB.E (UC κ)))
 aq (decide a) (aV (true&&decide a) (ad b 19 17=ad b 19 17/\∃(e1:AEw),ewS x.ds x.rs (bh x.all) (af (nth (jY x.gs) (0+Int.toNat (↑(x.i):Int))))
 x.gs (↑(x.bf):Int) (↑(x.i):Int) (List.length (bh x.all))=Sm e1/\Me e1/\∃(e0:Nat),e0<N/\I e0 (VH e1.ds e1.rs (bh (fw e1.ds e1.rs e1.g e1.bf e1.n
 e1.all)) e1.gs (↑(e1.bf):Int) (IntKind.wrap IntKind.i64 ((↑(e1.i):Int)+(1:Int))) (List.length (bh e1.all))))) (K (Exit.exit 3) (sp 67 [(2,AV.int
 (↑(x.bf):Int)),(11,AV.ak 0 0 (List.length (bh x.all)))] [qT x.all]))):=by kernel_rfl
structure EW(x:XF):Prop where
 o:iz x.ds x.rs x.bf x.all
 g: ∀g,g∈x.gs->g.length<=100000
 i:x.i<=x.gs.length
 n:x.gs.length<=100000
def ZH(x:XF):Out (Exit×S):= .one (.exit 3,sp 67 [(2, .int x.bf),(11, .ak 0 0 (bh x.all).length)] [qT (gT x.ds x.rs x.bf (x.gs.drop x.i) x.all)])
theorem VN a i h:af (nth (jY a) i)=iA a[i]:=by
 grind [aM,jY,af]
theorem lEf κ:aU (Qi κ).E 12 19 15 (aG 0 PE EW ZH):=by
 refine aC (fun x=>x.gs.length - x.i) ?_;rintro⟨ds,f,b,bf,a,i⟩ K ⟨h,j,o,m⟩ e;simp only at h j o m;rw[show(Qi κ).E.P=Pr κ from rfl];refine Eq.mpr (xEf κ ⟨ds,f,b,bf,a,i⟩ _ _ K) ?_;simp only[Int.toNat_natCast,Nat.zero_add,HH];have e:K (.exit 3) (sp 67 [(2, .int bf),(11, .ak 0 0 (bh a).length)] [qT (gT ds f bf (b.drop i) a)]):=e;rw[ae,ar4,ar6];refine⟨fun c=>?_,fun c=>?_⟩
 ·have k:i<b.length:=by omega
  have g:=iz.loop b[i] 99 h;have d:(bh (fw ds f b[i] bf 99 a)).length=(bh a).length:=by rw[eL,eL,g.A.len,h.A.len]
  rw[as5 k] at e;rw[←d] at e;have p:=h.l;refine ai.2 ⟨by simp;omega,trivial,⟨ds,f,b,bf,a,b[i],i,99⟩,by rw[VN b i k],⟨h,j _ (List.getElem_mem _),by simp only;omega,by simp only;omega⟩,_,?_,⟨ds,f,b,bf,fw ds f b[i] bf 99 a,i+1⟩,?_,⟨g,j,k,m⟩,rfl,e⟩
  ·simp only;omega
  ·simp only[PE,d]
   rw[az (n:=(i:Int)+1) (by omega) (by omega)];rfl
 ·rw[as2 (by omega)] at e
  exact e
noncomputable def BEf κ:=(Qi κ).loop (lEf _)
theorem yEv κ ds rs xs(bf:Nat) K:(a0 (BEf κ).E 12 19 [eH ds rs, .ah 51 xs, .int bf] [] K)=(
 letI a:=AV.int
 letI b:=AV.aH
 letI c:=AV.nil
 letI l:=Pg.toProgram (Env.P (EB.E (Qj κ)))
 letI m:=Pg.toProgram (Env.P (EB.E (Qi κ)))
 letI n:=K (b [c,a 2]) []
 letI p:=decide ((↑bf:Int)>(2147483647:Int))
 letI q:=decide ((↑bf:Int)<(1:Int))
 letI r:=K (b [c,a 90]) []
 letI s:=K (b [c,a 91]) []
 letI t:=List.all rs fg&&iJ xs
 ∃(e2:Ca),letI o:=wy e2.1 e2.2;([eH ds rs],[])=WK e2/\GD e2/\aq (decide (Prod.snd o=(0:Int))) (aq q n (aq p n (aV t (aq (!ki ds rs xs) r (ad l 19 10=ad l 19 10/\∃(e1:XE),letI f:=bh (List.map eo e1.all);evS ds rs xs [] (Lv e2.1 e2.2) (↑bf:Int) (0:Int) 0=Sl e1/\Gz e1/\ad m 19 15=ad m 19 15/\∃(e0:XF),letI g:=gT e0.ds e0.rs e0.bf (List.drop e0.i e0.gs) e0.all;letI h:=List.length (bh e0.all);letI d:=List.take h (List.drop 0 (bh g));VH e1.ds e1.rs f e1.gs e1.bf (0:Int) (List.length f)=PE e0/\EW e0/\aV (decide (List.length d<=100000)&&decide (ju d<=1000000000)) (aq (decide ((↑(ju d):Int)>(↑(e0.bf):Int))) s (K (b [AV.ak 0 0 h,a 0]) [qT g]))))))) (aq (Prod.snd o != (0:Int)) (K (b [c,a (Prod.snd o)]) []) (aq q n (aq p n (aV t (aq (!ki ds rs xs) r (ad l 19 10=ad l 19 10/\∃(e1:XE),letI i:=bh (List.map eo e1.all);sp 67 [(2,a (↑bf:Int)),(3,AV.ptr 0 0 [] 0),(8,c),(11,AV.ak 1 0 0),(38,AV.ah 51 xs),(39,a (↑(xs.length):Int)),(40,a 0)] [Obj.box 25 (eH ds rs),Obj.row 51 []]=Sl e1/\Gz e1/\ad m 19 15=ad m 19 15/\∃(e0:XF),letI j:=gT e0.ds e0.rs e0.bf (List.drop e0.i e0.gs) e0.all;letI k:=List.length (bh e0.all);letI e:=List.take k (List.drop 0 (bh j));VH e1.ds e1.rs i e1.gs e1.bf (0:Int) (List.length i)=PE e0/\EW e0/\aV (decide (List.length e<=100000)&&decide (ju e<=1000000000)) (aq (decide ((↑(ju e):Int)>(↑(e0.bf):Int))) s (K (b [AV.ak 0 0 k,a 0]) [qT j]))))))))):=by kernel_rfl
theorem CM{n m L}: ∀f done,(yp n m L f done).length<=f/\∀g,g∈yp n m L f done->g.length<=n
 |0,_=>⟨Nat.le_refl _,fun g a=>(nomatch a)⟩
 | f+1,done=>by
  rw[yp];cases decide (gY n m L done<0) with
  |true=>simp
  |false=>
   rw[ar9];obtain⟨c,b⟩:=CM (n:=n) (m:=m) (L:=L) f (vB done (ig n m L (gY n m L done)));refine⟨by grind,fun g a=>?_⟩;rcases List.mem_cons.1 a with rfl|a
   ·exact Nat.le_trans (List.length_filter_le _ _) (by simp[jO])
   ·exact b g a
structure Qc where
 ds:List AV
 rs:List AV
 xs:List AV
 all:List RL
 bf:Nat
def jw ds b(a:List _) bf:=gT ds b bf (Lv ds b) (a.map eo)
def pr ds a xs b bf:=bif !decide ((wy ds a).2=0) then(wy ds a).2 else bif !ki ds a xs then 90 else bif decide (bf<cC (jw ds a b bf)) then 91 else 0
def GY(x:Qc):List AV×List Dn.Obj:=([eH x.ds x.rs, .ah 51 x.xs, .int x.bf],[])
structure mN(x:Qc):Prop where
 s:nJ x.ds x.rs
 f:(x.rs.all fg&&iJ x.xs)=true
 i:ki x.ds x.rs x.xs=true->InX x.xs x.all
 l:1<=x.bf/\x.bf<=50
 o:(wy x.ds x.rs).2=0->ki x.ds x.rs x.xs=true->iz x.ds x.rs x.bf (x.all.map eo)
def ZI(x:Qc):Out (AV×List Dn.Obj):= .aq (decide (pr x.ds x.rs x.xs x.all x.bf=0))
 (.one (.aH [.ak 0 0 (bh (jw x.ds x.rs x.all x.bf)).length, .int 0],[qT (jw x.ds x.rs x.all x.bf)]))
 (.one (.aH [.nil, .int (pr x.ds x.rs x.xs x.all x.bf)],[]))
theorem iz.eval{ds b bf}: ∀c {a},iz ds b bf a->iz ds b bf (gT ds b bf c a)
 |[],_,h=>h
 |g::c,_,h=>iz.eval c (iz.loop g _ h)
theorem cEv κ:bc (BEf κ).E 12 19 (aO GY mN ZI):=by
 refine aR ?_;rintro⟨ds,b,xs,a,bf⟩ K q d;have v:=q.f;have r:=q.i;have y:=q.l;have w:=q.o;simp only at v r y w;have d:aq (decide (pr ds b xs a bf=0)) (K (.aH [.ak 0 0 (bh (jw ds b a bf)).length, .int 0]) [qT (jw ds b a bf)]) (K (.aH [.nil, .int (pr ds b xs a bf)]) []):=d;refine Eq.mpr (yEv κ ds b xs bf K) ⟨(ds,b),rfl,q.s,ae.2 ⟨fun e=>?_,fun e=>?_⟩⟩
 ·have e:(wy ds b).2=0:=of_decide_eq_true e
  unfold pr at d;rw[as0 e,Bool.not_true,ar9] at d;refine ae.2 ⟨fun c=>?_,fun _=>ae.2 ⟨fun c=>?_,fun _=>ai.2 ⟨v,ae.2 ⟨fun c=>?_,fun c=>?_⟩⟩⟩⟩
  ·have:=of_decide_eq_true c;omega
  ·have:=of_decide_eq_true c;omega
  ·rw[c] at d;exact d
  ·rw[c,ar9] at d
   have j:=w e (by simpa using c);have r:=r (by simpa using c);have h:=iz.eval (Lv ds b) j;have t:=Fk j.p;have x:=CM (n:=ds.length) (m:=rE ds b) (L:=CG ds b);have k:(bh (jw ds b a bf)).length=(bh (a.map eo)).length:=by
    rw[eL,eL,show(jw ds b a bf).length=_ from h.A.len,j.A.len]
   refine⟨rfl,⟨ds,b,xs,Lv ds b,bf,a,0⟩,rfl,⟨Nat.zero_le _,r⟩,rfl,⟨ds,b,Lv ds b,bf,a.map eo,0⟩,rfl,⟨j,fun g u=>Nat.le_trans ((x _ _).2 g u) (by omega),Nat.zero_le _,Nat.le_trans (x _ _).1 ?_⟩,?_⟩
   ·have:=G5 ds.length []
    omega
   ·have B:List.take (bh (a.map eo)).length (List.drop 0 (bh (jw ds b a bf)))=bh (jw ds b a bf):=by rw[as4,←k,List.take_length]
    have z:(bh (jw ds b a bf)).length<=60:=by rw[eL,show(jw ds b a bf).length=_ from h.A.len];exact t
    have C:cC (jw ds b a bf)<=200000:=h.n;show aV (decide ((List.take (bh (a.map eo)).length (List.drop 0 (bh (jw ds b a bf)))).length<=100000)&&decide (ju (List.take (bh (a.map eo)).length (List.drop 0 (bh (jw ds b a bf))))<=1000000000)) (aq (decide ((ju (List.take (bh (a.map eo)).length (List.drop 0 (bh (jw ds b a bf)))):Int)>bf)) (K (.aH [.nil, .int 91]) []) (K (.aH [.ak 0 0 (bh (a.map eo)).length, .int 0]) [qT (jw ds b a bf)]))
    rw[B,ya];refine ai.2 ⟨by rw[ar5,ar4,ar4];omega,ae.2 ⟨fun c=>?_,fun c=>?_⟩⟩
    ·have c:=of_decide_eq_true c
     rw[as0 (show bf<cC (jw ds b a bf) by omega)] at d;exact d
    ·have c:=of_decide_eq_false c
     rw[ar8 (show ¬ bf<cC (jw ds b a bf) by omega),ar9,k] at d;exact d
 ·have e:(wy ds b).2≠0:=of_decide_eq_false e
  unfold pr at d;rw[ar8 e,Bool.not_false,as1,ar8 e] at d;refine ae.2 ⟨fun _=>d,fun c=>absurd c (by simpa using e)⟩
noncomputable def UD κ:=((BEf κ).call (cEv _)).calm [19]
def AN v:=decide (((toStr (ag v 2)).size:Int)>1000)
abbrev Ss(x:List _×Nat):=sp 17 [(0, .ah 72 x.1),(3, .int x.2)] []
theorem xLg κ x I n K:(vc (UD κ).E 12 30 none 0 (ad (Pr κ).toProgram 30 2) (Ss x) (bj (UD κ).E 30 2 0 I n K))=(
 letI a:=(↑(x.2):Int)<(↑(x.1.length):Int)
 aq (decide a) (aV (true&&decide a) (aq (decide ((↑(ByteArray.size (toStr (ag (nth x.1 (Int.toNat (↑(x.2):Int))) 2))):Int)>(1000:Int))) (K Exit.ret
 (sp 17 [(2,AV.int 1)] [])) (∃(e0:Nat),e0<n/\I e0 (sp 17 [(0,AV.ah 72 x.1),(3,AV.int (IntKind.wrap IntKind.i64 ((↑(x.2):Int)+(1:Int))))] []))))
 (K (Exit.exit 0) (sp 17 [] []))):=by kernel_rfl
def ZT(x:List AV×Nat):Out (Exit×S):= .aq ((x.1.drop x.2).any AN) (.one (.ret,sp 17 [(2, .int 1)] [])) (.one (.exit 0,sp 17 [] []))
theorem lLg κ:aU (UD κ).E 12 30 2 (aG 0 Ss (fun x=>x.2<=x.1.length/\x.1.length<=100000000) ZT):=by
 refine aC (fun x=>x.1.length - x.2) ?_;rintro⟨r,i⟩ K ⟨f,d⟩ b;simp only at f d;rw[show(UD κ).E.P=Pr κ from rfl];refine Eq.mpr (xLg κ (r,i) _ _ K) ?_;simp only[Int.toNat_natCast];have b:aq ((r.drop i).any AN) (K .ret (sp 17 [(2, .int 1)] [])) (K (.exit 0) (sp 17 [] [])):=b;rw[ae,ar4,ar6];refine⟨fun h=>?_,fun h=>?_⟩
 ·have c:i<r.length:=by omega
  have a:=b;rw[as5 c,List.any_cons,←aM r i c] at a;refine ai.2 ⟨by simp;omega,ae.2 ⟨fun e=>?_,fun e=>⟨_,?_,(r,i+1),?_,⟨c,d⟩,rfl,?_⟩⟩⟩
  ·rw[show AN (nth r i)=true from e] at a;exact a
  ·simp only;omega
  ·simp only[Ss]
   grind [az]
  ·rw[show AN (nth r i)=false from e,Bool.false_or] at a;exact a
 ·rw[as2 (by omega)] at b
  exact b
noncomputable def UJ κ:=(UD κ).loop (lLg _)
theorem yLg κ r K:(a0 (UJ κ).E 12 30 [.ah 72 r] [] K)=(
 letI a:=Pg.toProgram (Env.P (EB.E (UD κ)))
 ad a 30 2=ad a 30 2/\∃(e0:List AV×Nat),sp 17 [(0,AV.ah 72 r),(3,AV.int 0)] []=Ss e0/\(e0.2<=e0.1.length/\e0.1.length<=100000000)/\aq
 (List.any (List.drop e0.2 e0.1) AN) (K (AV.int 1) []) (K (AV.int 0) [])):=by kernel_rfl
def gLg:List AV->Option (Bool×AV)
 |[.ah 72 r]=>some (decide (r.length<=100000000), .int (bif r.any AN then 1 else 0))
 |_=>none
theorem pLg κ:cd (UJ κ).E 12 30 gLg:=by
 intro b x a;unfold gLg at a;split at a
 ·rename_i r
  simp   at a;obtain⟨c,rfl⟩:=a;refine⟨_,rfl,rfl,Eq.mpr (yLg κ r _) ⟨rfl,(r,0),rfl,by grind,?_⟩⟩;rw[as4];cases r.any _<;>exact rfl
 grind
noncomputable def UL κ:=EB.Fx ((UJ κ).pure (pLg _)) [30]
theorem jW{ds a}(h:nx ds a=true):nJ ds a:=by
 simp only[nx,ar5,ar4] at h;obtain⟨_,c,d,f⟩:=h;refine⟨by simp only[aW];omega,by simp only[aW];omega,fun x g=>?_⟩;have b:=zL (a.map xK) 2000 (by omega) c (xK x) (by grind);have e:xK x=aQ (dr x):=rfl;rw[e,fW] at b;refine⟨?_,by omega⟩
 grind [Gs,dr,zG,aQ]
structure ALk where
 xs:List AV
 ds:List AV
 rs:List AV
 i:Nat
 n:Nat
 k:Nat
abbrev WQ(x:ALk):=sp 91 [(1, .ah 51 x.xs),(2, .ptr 0 0 [] 0),(5, .int x.i),(6, .int x.n),(7, .int x.k)] [.box 25 (eH x.ds x.rs)]
theorem xLk κ x I n K:(vc (UL κ).E 12 12 none 0 (ad (Pr κ).toProgram 12 8) (WQ x) (bj (UL κ).E 12 8 0 I n K))=(
 letI a:=IntKind.wrap IntKind.i64
 letI b:=AV.ptr 0 0 []
 letI c:=AV.int
 letI e:=af (ag (nth x.rs (Int.toNat (↑(x.i):Int))) 1)
 letI f:=true&&decide ((↑(x.i):Int)<(↑(x.rs.length):Int))
 letI g:=a ((↑(x.k):Int)+(1:Int))
 letI h:=(↑(x.k):Int)<(↑(List.length e):Int)
 letI d:=eH x.ds x.rs
 aV f (aq (decide h) (aV f (aV (true&&decide h) (aq (toInt (ag (nth e (Int.toNat (↑(x.k):Int))) 0)==(1:Int)) (∃(e0:Nat),e0<n/\I e0 (sp 91
 [(1,AV.ah 51 x.xs),(2,b 0),(5,c (↑(x.i):Int)),(6,c (a ((↑(x.n):Int)+(1:Int)))),(7,c g)]
 [Obj.box 25 d])) (∃(e0:Nat),e0<n/\I e0 (sp 91 [(1,AV.ah 51 x.xs),(2,b 0),(5,c (↑(x.i):Int)),(6,c (↑(x.n):Int)),(7,
 c g)] [Obj.box 25 d]))))) (K (Exit.exit 2) (sp 91 [(1,AV.ah 51 x.xs),(2,b 0),(5,c (↑(x.i):Int)),(6,c (↑(x.n):Int))]
 [Obj.box 25 d])))):=by kernel_rfl
def OW(x:ALk):=x.i<x.rs.length/\x.k<=(af (ag (nth x.rs x.i) 1)).length/\(af (ag (nth x.rs x.i) 1)).length<=100000/\x.n<=x.k
def Od(x:ALk):Out (Exit×S):= .one (.exit 2,sp 91 [(1, .ah 51 x.xs),(2, .ptr 0 0 [] 0),(5, .int x.i),(6, .int (x.n+vW ((af (ag (nth x.rs x.i) 1)).drop x.k):Nat))] [.box 25 (eH x.ds x.rs)])
theorem lLk κ:aU (UL κ).E 12 12 8 (aG 0 WQ OW Od):=by
 refine aC (fun x=>(af (ag (nth x.rs x.i) 1)).length - x.k) ?_;rintro⟨xs,ds,b,i,n,k⟩ K ⟨d,j,f,g⟩ a;simp only at d j f g;rw[show(UL κ).E.P=Pr κ from rfl];refine Eq.mpr (xLk κ ⟨xs,ds,b,i,n,k⟩ _ _ K) ?_;simp only[Int.toNat_natCast];refine ai.2 ⟨by simp;omega,?_⟩;rw[ae,ar4,ar6];simp only[Od,Out.run] at a;refine⟨fun h=>ai.2 ⟨by simp;omega,ai.2 ⟨by simp;omega,?_⟩⟩,fun h=>?_⟩
 ·have c:k<(af (ag (nth b i) 1)).length:=by omega
  rw[az (n:=(k:Int)+1) (by omega) (by omega),az (n:=(n:Int)+1) (by omega) (by omega)];have hd:vW ((af (ag (nth b i) 1)).drop k)=(bif toInt (ag (nth (af (ag (nth b i) 1)) k) 0)==1 then 1 else 0)+vW ((af (ag (nth b i) 1)).drop (k+1)):=by
   rw[as5 c,←aM _ k c];unfold vW
   grind
  rw[hd] at a;rw[ae];refine⟨fun e=>?_,fun e=>?_⟩
  ·rw[e,as1] at a
   refine⟨_,?_,⟨xs,ds,b,i,n+1,k+1⟩,rfl,⟨d,c,f,by simp only;omega⟩,rfl,?_⟩
   ·simp only;omega
   ·simp only[Od,Out.run]
    rw[Nat.add_assoc];exact a
  ·rw[e,ar9,Nat.zero_add] at a
   refine⟨_,?_,⟨xs,ds,b,i,n,k+1⟩,rfl,⟨d,c,f,by simp only;omega⟩,rfl,a⟩;simp only;omega
 ·rw[as2 (by omega)] at a
  exact a
noncomputable def UK κ:=(UL κ).loop (lLk _)
abbrev ae0 xs ds a(i:Nat):=sp 91 [(1, .ah 51 xs),(2, .ptr 0 0 [] 0),(5, .int i)] [.box 25 (eH ds a)]
theorem xLr κ xs ds rs i I n K:(vc (UK κ).E 12 12 none 0 (ad (Pr κ).toProgram 12 4) (ae0 xs ds rs i) (bj (UK κ).E 12 4 0 I n K))=(
 letI a:=AV.int
 letI b:=Pg.toProgram (Env.P (EB.E (UL κ)))
 aq (decide ((↑i:Int)<(↑(rs.length):Int))) (ad b 12 8=ad b 12 8/\∃(e1:ALk),sp 91 [(1,AV.ah 51 xs),(2,AV.ptr 0 0 [] 0),(5,a (↑i:Int)),
 (6,a 0),(7,a 0)] [Obj.box 25 (eH ds rs)]=WQ e1/\OW e1/\aq (decide ((↑(e1.n+vW (List.drop e1.k (af (ag (nth e1.rs e1.i) 1)))):Int)>(3:
 Int))) (K Exit.ret (sp 91 [(4,a 0)] [])) (∃(e0:Nat),e0<n/\I e0 (sp 91 [(1,AV.ah 51 e1.xs),(2,AV.ptr 0 0 [] 0),(5,a (IntKind.wrap
 IntKind.i64 ((↑(e1.i):Int)+(1:Int))))] [Obj.box 25 (eH e1.ds e1.rs)]))) (K (Exit.exit 0) (sp 91 [(1,AV.ah 51 xs)] []))):=by kernel_rfl
structure ALr where
 xs:List AV
 ds:List AV
 rs:List AV
 i:Nat
abbrev T6(x:ALr):=ae0 x.xs x.ds x.rs x.i
def OX(x:ALr):=x.i<=x.rs.length/\x.rs.length<=100000/\∀r,r∈x.rs->(af (ag r 1)).length<=100000
def Oe(x:ALr):Out (Exit×S):= .aq ((x.rs.drop x.i).all Ls) (.one (.exit 0,sp 91 [(1, .ah 51 x.xs)] [])) (.one (.ret,sp 91 [(4, .int 0)] []))
theorem lLr κ:aU (UK κ).E 12 12 4 (aG 0 T6 OX Oe):=by
 refine aC (fun x=>x.rs.length - x.i) ?_;rintro⟨xs,ds,a,i⟩ K ⟨j,f,d⟩ b;simp only at j f d;rw[show(UK κ).E.P=Pr κ from rfl];refine Eq.mpr (xLr κ xs ds a i _ _ K) ?_;simp only[Oe,Out.run,ae] at b;rw[ae,ar4,ar6];refine⟨fun h=>?_,fun h=>?_⟩
 ·have c:i<a.length:=by omega
  have g:nth a i∈a:=by rw[aM _ _ c];exact List.getElem_mem _
  rw[as5 c,←aM _ i c,List.all_cons] at b;refine⟨rfl,⟨xs,ds,a,i,0,0⟩,rfl,⟨c,Nat.zero_le _,d _ g,Nat.le_refl _⟩,?_⟩;simp only[as4,Nat.zero_add];rw[az (n:=(i:Int)+1) (by omega) (by omega),ae,ar4,ar6];refine⟨fun e=>b.2 ?_,fun e=>⟨_,?_,⟨xs,ds,a,i+1⟩,rfl,⟨c,f,d⟩,rfl,?_⟩⟩
  ·rw[show Ls (nth a i)=false from ar8 (by omega),Bool.false_and]
  ·simp only;omega
  ·simp only[Oe,Out.run,ae]
   rw[show Ls (nth a i)=true from as0 (by omega),at2] at b;exact b
 ·rw[as2 (by omega)] at b
  exact b.1 rfl
noncomputable def UM κ:=(UK κ).loop (lLr _)
structure SW where
 xs:List AV
 n:Nat
 i:Nat
 k:Nat
abbrev St(x:SW):=sp 91 [(1, .ah 51 x.xs),(8, .int x.n),(9, .int x.i),(10, .int x.k)] []
theorem xLv κ x I n K:(vc (UM κ).E 12 12 none 0 (ad (Pr κ).toProgram 12 22) (St x) (bj (UM κ).E 12 22 0 I n K))=(
 letI a:=AV.int
 letI b:=af (nth x.xs (Int.toNat (↑(x.i):Int)))
 letI c:=true&&decide ((↑(x.i):Int)<(↑(x.xs.length):Int))
 letI d:=(↑(x.k):Int)<(↑(List.length b):Int)
 letI e:=af (nth b (Int.toNat (↑(x.k):Int)))
 aV c (aq (decide d) (aV c (aV (true&&decide d) (aV (decide (List.length e<=100000000)) (aq ((bif List.any e AN then(1:Int) else(0:Int))==(1:
 Int)) (K Exit.ret (sp 91 [(4,a 0)] [])) (∃(e0:Nat),e0<n/\I e0 (sp 91 [(1,AV.ah 51 x.xs),(8,a (↑(x.n):Int)),(9,a (↑(x.i):Int)),
 (10,a (IntKind.wrap IntKind.i64 ((↑(x.k):Int)+(1:Int))))] [])))))) (K (Exit.exit 6) (sp 91 [(1,AV.ah 51 x.xs),(8,a (↑(x.n):Int)),(9,
 a (↑(x.i):Int))] [])))):=by kernel_rfl
def Kg r:=(af r).any AN
def OY(x:SW):=x.i<x.xs.length/\x.k<=(af (nth x.xs x.i)).length/\iJ x.xs=true
def ZU(x:SW):Out (Exit×S):= .aq (((af (nth x.xs x.i)).drop x.k).any Kg) (.one (.ret,sp 91 [(4, .int 0)] [])) (.one (.exit 6,sp 91 [(1, .ah 51 x.xs),(8, .int x.n),(9, .int x.i)] []))
theorem lLv κ:aU (UM κ).E 12 12 22 (aG 0 St OY ZU):=by
 refine aC (fun x=>(af (nth x.xs x.i)).length - x.k) ?_;rintro⟨xs,n,i,k⟩ K ⟨f,j,d⟩ b;simp only at f j d;rw[show(UM κ).E.P=Pr κ from rfl];refine Eq.mpr (xLv κ ⟨xs,n,i,k⟩ _ _ K) ?_;simp only[Int.toNat_natCast];have g:=mq d i;have l:=iZ g;have b:aq (((af (nth xs i)).drop k).any Kg) (K .ret (sp 91 [(4, .int 0)] [])) (K (.exit 6) (sp 91 [(1, .ah 51 xs),(8, .int n),(9, .int i)] [])):=b;refine ai.2 ⟨by simp;omega,?_⟩;rw[ae,ar4,ar6];refine⟨fun h=>?_,fun h=>?_⟩
 ·have c:k<(af (nth xs i)).length:=by omega
  have a:=b;rw[as5 c,List.any_cons,←aM _ k c] at a;refine ai.2 ⟨by simp;omega,ai.2 ⟨by simp;omega,ai.2 ⟨as0 (lC g k),?_⟩⟩⟩;cases e:(af (nth (af (nth xs i)) k)).any AN with
  |true=>
   rw[show Kg (nth (af (nth xs i)) k)=true from e] at a;exact a
  | false=>
   rw[show Kg (nth (af (nth xs i)) k)=false from e,Bool.false_or] at a;refine⟨_,?_,⟨xs,n,i,k+1⟩,?_,⟨f,c,d⟩,rfl,a⟩
   ·simp only;omega
   ·simp only[St]
    rw[az (n:=(k:Int)+1) (by omega) (by omega)];rfl
 ·rw[as2 (by omega)] at b
  exact b
noncomputable def UN κ:=(UM κ).loop (lLv _)
abbrev Su(x:SW):=sp 91 [(1, .ah 51 x.xs),(8, .int x.n),(9, .int x.i)] []
theorem xLw κ x I n K:(vc (UN κ).E 12 12 none 0 (ad (Pr κ).toProgram 12 16) (Su x) (bj (UN κ).E 12 16 0 I n K))=(
 letI a:=IntKind.wrap IntKind.i64
 letI b:=AV.int
 letI c:=(↑(x.n):Int)+(↑(List.length (af (nth x.xs (Int.toNat (↑(x.i):Int))))):Int)
 letI d:=(↑(x.i):Int)<(↑(x.xs.length):Int)
 letI e:=K Exit.ret (sp 91 [(4,b 0)] [])
 letI f:=Pg.toProgram (Env.P (EB.E (UM κ)))
 aq (decide d) (aV (true&&decide d) (aq (decide (a c>(20:Int))) e (ad f 12 22=ad f 12 22/\∃(e1:SW),sp 91 [(1,AV.ah 51
 x.xs),(8,b (a c)),(9,b (↑(x.i):Int)),(10,b 0)] []=St e1/\OY e1/\aq (List.any (List.drop e1.k (af (nth e1.xs
 e1.i))) Kg) e (∃(e0:Nat),e0<n/\I e0 (sp 91 [(1,AV.ah 51 e1.xs),(8,b (↑(e1.n):Int)),(9,b (a ((↑(e1.i):Int)+(1
 :Int))))] []))))) (K (Exit.exit 4) (sp 91 [] []))):=by kernel_rfl
def uz:List AV->Nat->Bool
 |[],_=>true
 |x::xs,n=>decide (n+(af x).length<=20)&&(!(af x).any Kg&&uz xs (n+(af x).length))
def OZ(x:SW):=x.i<=x.xs.length/\x.n<=20/\iJ x.xs=true
def ZV(x:SW):Out (Exit×S):= .aq (uz (x.xs.drop x.i) x.n) (.one (.exit 4,sp 91 [] [])) (.one (.ret,sp 91 [(4, .int 0)] []))
theorem lLw κ:aU (UN κ).E 12 12 16 (aG 0 Su OZ ZV):=by
 refine aC (fun x=>x.xs.length - x.i) ?_;rintro⟨xs,n,i,k⟩ K ⟨m,o,b⟩ d;simp only at m o b;rw[show(UN κ).E.P=Pr κ from rfl];refine Eq.mpr (xLw κ ⟨xs,n,i,k⟩ _ _ K) ?_;simp only[Int.toNat_natCast];have p:=mq b i;have q:=iZ p;have l:xs.length<=100000000:=by simp only[iJ,ar5,ar4] at b;exact b.1
 have d:aq (uz (xs.drop i) n) (K (.exit 4) (sp 91 [] [])) (K .ret (sp 91 [(4, .int 0)] [])):=d;rw[ae,ar4,ar6];refine⟨fun h=>?_,fun h=>?_⟩
 ·have f:i<xs.length:=by omega
  have a:=d;rw[as5 f,←aM xs i f,uz] at a;have g:=az (n:=(n:Int)+(af (nth xs i)).length) (by omega) (by omega);refine ai.2 ⟨by simp;omega,ae.2 ⟨fun c=>?_,fun c=>⟨trivial,⟨xs,n+(af (nth xs i)).length,i,0⟩,by rw[g];rfl,⟨f,Nat.zero_le _,b⟩,?_⟩⟩⟩
  all_goals
   have j:=c
   first
   |have c:=of_decide_eq_true j
    rw[g] at c
   |have c:=of_decide_eq_false j
    rw[g] at c
  ·rw[ar8 (show ¬ n+(af (nth xs i)).length<=20 by omega),Bool.false_and] at a
   exact a
  ·rw[as0 (show n+(af (nth xs i)).length<=20 by omega),at2] at a
   simp only[as4];rw[ae];refine⟨fun e=>?_,fun e=>?_⟩
   ·rw[e] at a;exact a
   ·rw[e,Bool.not_false,at2] at a
    refine⟨_,?_,⟨xs,n+(af (nth xs i)).length,i+1,k⟩,?_,⟨f,by simp only;omega,b⟩,rfl,a⟩
    ·simp only;omega
    ·simp only[Su]
     rw[az (n:=(i:Int)+1) (by omega) (by omega)];rfl
 ·rw[as2 (by omega)] at d
  exact d
noncomputable def BLw κ:=(UN κ).loop (lLw _)
theorem yLw κ ds rs xs K:(a0 (BLw κ).E 12 12 [eH ds rs, .ah 51 xs] [] K)=(
 letI a:=AV.int
 letI b:=Pg.toProgram (Env.P (EB.E (UK κ)))
 letI c:=Pg.toProgram (Env.P (EB.E (UN κ)))
 aV (decide (ds.length<=9223372036854775807)&&List.all ds fun(e0:AV)=>decide (List.length (af (ag e0 1))<=9223372036854775807)) (aq ((bif nx ds rs then
 (1:Int) else(0:Int))==(0:Int)) (K (a 0) []) (aq (decide ((↑(rs.length):Int)>(8:Int))) (K (a 0) []) (aq (decide ((↑(xs.length):Int)>
 (60:Int))) (K (a 0) []) (ad b 12 4=ad b 12 4/\∃(e1:ALr),sp 91 [(1,AV.ah 51 xs),(2,AV.ptr 0 0 [] 0),(5,a 0)] [Obj.box 25 (eH ds rs)]=
 T6 e1/\OX e1/\aq (List.all (List.drop e1.i e1.rs) Ls) (ad c 12 16=ad c 12 16/\∃(e0:SW),sp 91 [(1,AV.ah 51 e1.xs),(8,a 0),(9,a 0)] []=
 Su e0/\OZ e0/\aq (uz (List.drop e0.i e0.xs) e0.n) (K (a 1) []) (K (a 0) [])) (K (a 0) [])))))):=by kernel_rfl
def jB ds a xs:=nx ds a&&(decide (a.length<=8)&&(decide (xs.length<=60)&&(a.all Ls&&uz xs 0)))
def gLw:List AV->Option (Bool×AV)
 |[.agg [.ah 43 ds, .ah 48 a], .ah 51 xs]=>some (decide (ds.length<=aW)&&ds.all (fun d=>decide ((af (ag d 1)).length<=aW))&&iJ xs, .int (bif jB ds a xs then 1 else 0))
 |_=>none
theorem pLw κ:cd (BLw κ).E 12 12 gLw:=by
 intro f x b;unfold gLw at b;split at b
 ·rename_i ds a xs
  simp only[ar7,as3] at b;obtain⟨c,rfl⟩:=b;rw[ar5] at c;obtain⟨c,g⟩:=c;refine⟨_,rfl,rfl,?_⟩;refine Eq.mpr (yLw κ ds a xs _) ?_;refine ai.2 ⟨c,?_⟩;unfold jB;cases h:nx ds a with
  |false=>exact rfl
  | true=>
   rw[at2];refine ae.2 ⟨fun e=>absurd e (by decide),fun _=>?_⟩;rw[ae,ar4,ar6];refine⟨fun e=>?_,fun e=>?_⟩
   ·rw[ar8 (show ¬ a.length<=8 by omega)];rfl
   ·rw[as0 (show a.length<=8 by omega),at2]
    rw[ae,ar4,ar6];refine⟨fun e=>?_,fun e=>⟨rfl,⟨xs,ds,a,0⟩,rfl,⟨Nat.zero_le _,by show a.length<=100000;omega,fun r i=>(jW h).2.2 r i|>.2⟩,?_⟩⟩
    ·rw[ar8 (show ¬ xs.length<=60 by omega)];rfl
    ·rw[as0 (show xs.length<=60 by omega),at2,as4]
     rw[ae];refine⟨fun d=>⟨rfl,⟨xs,0,0,0⟩,rfl,⟨Nat.zero_le _,Nat.zero_le _,g⟩,?_⟩,fun d=>?_⟩
     ·rw[d,at2,as4]
      cases uz xs 0<;>exact rfl
     ·rw[d];rfl
 ·cases b
noncomputable def Xj κ:=(BLw κ).pure (pLw _)
end Go.Proofs.YtioeffnadipbaaaGreatDoor
namespace Go.Proofs.YtioeffnadipbaaaGreatDoor
open Go Go.Dn Go.Rl Go.Proofs
attribute [local irreducible] a0 vc
set_option maxRecDepth 20000
structure Lo where
 A:List AV
 i:Nat
 k:Nat
abbrev SE(x:Lo):=sp 53 [(0, .ah 70 x.A),(1, .ah 70 x.A),(5, .int x.i),(6, .int x.k)] []
theorem xSe κ x I n K:(vc (Xj κ).E 12 16 none 0 (ad (Pr κ).toProgram 16 9) (SE x) (bj (Xj κ).E 16 9 0 I n K))=(
 letI b:=true&&decide ((↑(x.i):Int)<(↑(x.A.length):Int))
 letI d:=af (nth x.A (Int.toNat (↑(x.i):Int)))
 letI a:=nth d (Int.toNat (↑(x.k):Int))
 letI c:=(↑(x.k):Int)<(↑(List.length d):Int)
 aV b (aq (decide c) (aV b (aV (true&&decide c) (aV b (aV (true&&decide c) (aq (!(Dn.toBool (ag a 0)==Dn.toBool (ag a 0)&&(toInt (ag a 1)==
 toInt (ag a 1)&&(ByteArray.toList (toStr (ag a 2))==ByteArray.toList (toStr (ag a 2))&&true)))) (K Exit.ret (sp 53 [(4,AV.bool false)] [])) (∃(e0:
 Nat),e0<n/\I e0 (sp 53 [(0,AV.ah 70 x.A),(1,AV.ah 70 x.A),(5,AV.int (↑(x.i):Int)),(6,AV.int (IntKind.wrap IntKind.i64 ((↑(x.k):Int)+(1:
 Int))))] []))))))) (K (Exit.exit 2) (sp 53 [(0,AV.ah 70 x.A),(1,AV.ah 70 x.A),(5,AV.int (↑(x.i):Int))] [])))):=by kernel_rfl
def O8(x:Lo):=x.i<x.A.length/\x.k<=(af (nth x.A x.i)).length/\(af (nth x.A x.i)).length<=100000000
def Z7(x:Lo):Out (Exit×S):= .one (.exit 2,sp 53 [(0, .ah 70 x.A),(1, .ah 70 x.A),(5, .int x.i)] [])
theorem lSe κ:aU (Xj κ).E 12 16 9 (aG 0 SE O8 Z7):=by
 refine aC (fun x=>(af (nth x.A x.i)).length - x.k) ?_;rintro⟨A,i,k⟩ K ⟨e,f,d⟩ c;simp only at e f d;refine Eq.mpr (xSe κ ⟨A,i,k⟩ _ _ K) ?_;simp only[Int.toNat_natCast,beq_self_eq_true,Bool.and_self,Bool.not_true];have a:(true&&decide ((i:Int)<(A.length:Int)))=true:=by simp;omega
 refine ai.2 ⟨a,?_⟩;rw[ae,ar4,ar6];refine⟨fun h=>?_,fun h=>c⟩;have b:(true&&decide ((k:Int)<((af (nth A i)).length:Int)))=true:=by simp;omega
 refine ai.2 ⟨a,ai.2 ⟨b,ai.2 ⟨a,ai.2 ⟨b,_,?_,⟨A,i,k+1⟩,?_,⟨e,by simp only;omega,d⟩,rfl,c⟩⟩⟩⟩
 ·simp only;omega
 ·simp only[SE]
  grind [az]
noncomputable def Xn κ:=(Xj κ).loop (lSe _)
abbrev PL(x:Lo):=sp 53 [(0, .ah 70 x.A),(1, .ah 70 x.A),(5, .int x.i)] []
theorem xSf κ x I n K:(vc (Xn κ).E 12 16 none 0 (ad (Pr κ).toProgram 16 4) (PL x) (bj (Xn κ).E 16 4 0 I n K))=(
 letI a:=(↑(x.i):Int)<(↑(x.A.length):Int)
 letI b:=List.length (af (nth x.A (Int.toNat (↑(x.i):Int))))
 letI c:=Pg.toProgram (Env.P (EB.E (Xj κ)))
 aq (decide a) (aV (true&&decide a) (aV (true&&decide a) (aq ((↑b:Int) != (↑b:Int)) (K Exit.ret (sp 53 [(4,AV.bool false)] [])) (ad c 16 9=ad c
 16 9/\∃(e1:Lo),sp 53 [(0,AV.ah 70 x.A),(1,AV.ah 70 x.A),(5,AV.int (↑(x.i):Int)),(6,AV.int 0)] []=SE e1/\O8 e1/\∃(e0:Nat),e0<n/\I e0 (sp
 53 [(0,AV.ah 70 e1.A),(1,AV.ah 70 e1.A),(5,AV.int (IntKind.wrap IntKind.i64 ((↑(e1.i):Int)+(1:Int))))] []))))) (K (Exit.exit 0) (sp 53 [] []))):=by kernel_rfl
def GP(x:Lo):=x.i<=x.A.length/\eM x.A=true
def TQ(_:Lo):Out (Exit×S):= .one (.exit 0,sp 53 [] [])
theorem lSf κ:aU (Xn κ).E 12 16 4 (aG 0 PL GP TQ):=by
 refine aC (fun x=>x.A.length - x.i) ?_;rintro⟨A,i,k⟩ K ⟨e,a⟩ c;simp only at e a;refine Eq.mpr (xSf κ ⟨A,i,k⟩ _ _ K) ?_;simp only[Int.toNat_natCast,bne_self_eq_false];have f:=iZ a;rw[ae,ar4,ar6];refine⟨fun h=>?_,fun h=>c⟩;have d:(true&&decide ((i:Int)<(A.length:Int)))=true:=by simp;omega
 have b: ∃m,m<A.length - i/\ep PL GP TQ (fun x=>x.A.length - x.i) K m (sp 53 [(0, .ah 70 A),(1, .ah 70 A),(5, .int (IntKind.wrap .i64 ((i:Int)+1)))] []):=by
  refine⟨_,?_,⟨A,i+1,k⟩,?_,⟨by simp only;omega,a⟩,rfl,c⟩
  ·simp only;omega
  ·simp only[PL]
   grind [az]
 exact ai.2 ⟨d,ai.2 ⟨d,trivial,⟨A,i,0⟩,rfl,⟨by simp only;omega,Nat.zero_le _,lC a i⟩,b⟩⟩
noncomputable def BSf κ:=(Xn κ).loop (lSf _)
theorem ySf κ A K:(a0 (BSf κ).E 12 16 [.ah 70 A, .ah 70 A] [] K)=(
 letI a:=Pg.toProgram (Env.P (EB.E (Xn κ)))
 aq ((↑(A.length):Int) != (↑(A.length):Int)) (K (AV.bool false) []) (ad a 16 4=ad a 16 4/\∃(e0:Lo),sp 53 [(0,AV.ah 70 A),(1,AV.ah 70 A),(5,
 AV.int 0)] []=PL e0/\GP e0/\K (AV.bool true) [])):=by kernel_rfl
def K7(A:List AV):List AV×List Dn.Obj:=([.ah 70 A, .ah 70 A],[])
def TP(_:List AV):Out (AV×List Dn.Obj):= .one (.bool true,[])
theorem cS8 κ:bc (BSf κ).E 12 16 (aO K7 (fun A=>eM A=true) TP):=by
 refine aR ?_;intro A K h a;refine Eq.mpr (ySf _ A K) ?_;simp only[bne_self_eq_false];exact⟨trivial,⟨A,0,0⟩,rfl,⟨Nat.zero_le _,h⟩,a⟩
noncomputable def Xm κ:=(BSf κ).call (cS8 _)
abbrev SF(x:Lo):=sp 29 [(0, .ah 51 x.A),(1, .ah 51 x.A),(5, .int x.i)] []
theorem xSg κ x I n K:(vc (Xm κ).E 12 20 none 0 (ad (Pr κ).toProgram 20 4) (SF x) (bj (Xm κ).E 20 4 0 I n K))=(
 letI a:=(↑(x.i):Int)<(↑(x.A.length):Int)
 letI b:=af (nth x.A (Int.toNat (↑(x.i):Int)))
 aq (decide a) (aV (true&&decide a) (aV (true&&decide a) (∃(e1:List AV),([AV.ah 70 b,AV.ah 70 b],[])=K7 e1/\eM e1=true/\∃(e0:Nat),e0<n
 /\I e0 (sp 29 [(0,AV.ah 51 x.A),(1,AV.ah 51 x.A),(5,AV.int (IntKind.wrap IntKind.i64 ((↑(x.i):Int)+(1:Int))))] [])))) (K (Exit.exit 0) (sp 29 [] []))):=by kernel_rfl
def O9(x:Lo):=x.i<=x.A.length/\iJ x.A=true
def Z8(_:Lo):Out (Exit×S):= .one (.exit 0,sp 29 [] [])
theorem lSg κ:aU (Xm κ).E 12 20 4 (aG 0 SF O9 Z8):=by
 refine aC (fun x=>x.A.length - x.i) ?_;rintro⟨A,i,k⟩ K ⟨d,a⟩ c;refine Eq.mpr (xSg κ ⟨A,i,k⟩ _ _ K) ?_;simp only;have e:=by simp only[iJ,ar5] at a;exact a.1
 rw[ae,ar4];refine⟨fun h=>?_,fun h=>c⟩;have b:(true&&decide ((i:Int)<(A.length:Int)))=true:=by simp;omega
 refine ai.2 ⟨b,ai.2 ⟨b,_,rfl,mq a i,_,?_,⟨A,i+1,k⟩,?_,⟨by simp only;omega,a⟩,rfl,c⟩⟩
 ·simp only;omega
 ·simp only[SF]
  grind [az]
noncomputable def BSg κ:=(Xm κ).loop (lSg _)
theorem ySg κ A K:(a0 (BSg κ).E 12 20 [.ah 51 A, .ah 51 A] [] K)=(
 letI a:=Pg.toProgram (Env.P (EB.E (Xm κ)))
 aq ((↑(A.length):Int) != (↑(A.length):Int)) (K (AV.bool false) []) (ad a 20 4=ad a 20 4/\∃(e0:Lo),sp 29 [(0,AV.ah 51 A),(1,AV.ah 51 A),(5,
 AV.int 0)] []=SF e0/\O9 e0/\K (AV.bool true) [])):=by kernel_rfl
def ao8(A:List AV):List AV×List Dn.Obj:=([.ah 51 A, .ah 51 A],[])
theorem cS9 κ:bc (BSg κ).E 12 20 (aO ao8 (fun A=>iJ A=true) TP):=by
 refine aR ?_;intro A K h a;refine Eq.mpr (ySg _ A K) ?_;simp only[bne_self_eq_false];exact⟨trivial,⟨A,0,0⟩,rfl,⟨Nat.zero_le _,h⟩,a⟩
noncomputable def BS9 κ:=(BSg κ).call (cS9 _)
abbrev YN(c:UInt8):AV:= .lit (.string (ByteArray.mk #[c]))
abbrev vP(c:UInt8):AV:= .agg [.int 1,YN c, .int 0, .nil]
abbrev zP:AV:= .agg [.int 0, .lit (.string (ByteArray.mk #[])), .int 0, .nil]
abbrev dP(c:UInt8):AV:= .agg [YN c, .ah 9 [YN 97,YN 98], .ah 3 [.int 1, .int 1], .bool false, .bool false, .int 0]
abbrev aP(r a b:UInt8):AV:= .agg [YN r, .ah 38 [vP a,vP b]]
abbrev lP(r a b:UInt8):AV:= .agg [.int 1,aP r a b,zP,zP]
abbrev Fj:List AV:=[dP 101,dP 112]
abbrev Gp:List AV:=[.agg [aP 112 120 121, .ah 80 [lP 101 120 121], .int 0], .agg [aP 112 120 122, .ah 80 [lP 112 120 121,lP 101 121 122], .int 0]]
abbrev rP(a b:Int):List AV:=[.agg [.bool false, .int a, .lit (.string (ByteArray.mk #[]))], .agg [.bool false, .int b, .lit (.string (ByteArray.mk #[]))]]
abbrev P9:List AV:=[.ah 70 [.ah 72 (rP 1 2), .ah 72 (rP 2 3)], .nil]
abbrev Uo:List AV:=[.ah 72 (rP 1 2), .ah 72 (rP 1 3), .ah 72 (rP 2 3)]
theorem aq5 κ a b K:(a0 (BS9 κ).E 12 40 [.int a, .int b] [] K)=(
 K (AV.ah 72 (rP a b)) []):=by kernel_rfl
def YV:List AV->Option (Bool×AV)
 |[.int a, .int b]=>some (true, .ah 72 (rP a b))
 |_=>none
theorem ah4 κ:zZ (BS9 κ).E 12 40 YV:=by
 intro d x c;unfold YV at c;split at c
 ·rename_i a b
  simp   at c;subst c;exact⟨rfl,Eq.mpr (aq5 _ a b _) rfl⟩
 grind
noncomputable def U4 κ:=EB.inline (EB.Fx ((BS9 κ).fresh (ah4 _)) [40]) [41,83]
theorem ySx κ K:(a0 (U4 κ).E 12 17 [] [] K)=(
 letI a:=AV.ah
 letI c:=AV.bool false
 letI b:=(K c []/\K c [])/\K c []
 letI e:=AV.bool true
 ∃(e2:Qc),letI d:=bh (jw e2.ds e2.rs e2.all e2.bf);letI f:=[a 70 (af (nth d 1)),a 70 Uo];letI g:=∃(e0:List AV),(f,[])=K7 e0/\eM e0=true/\K e [];letI h:=true&&decide ((1:Int)<(↑(List.length d):Int));letI i:=pr e2.ds e2.rs e2.xs e2.all e2.bf==(0:Int);([AV.agg [a 43 Fj,a 48 Gp],a 51 P9,AV.int 5],[])=GY e2/\mN e2/\aq (decide (pr e2.ds e2.rs e2.xs e2.all e2.bf=(0:Int))) (∃(e1:Qc),([AV.agg [a 43 Fj,a 48 Gp],a 51 P9,AV.int 4],[])=GY e1/\mN e1/\aq (decide (pr e1.ds e1.rs e1.xs e1.all e1.bf=(0:Int))) b (aq (pr e1.ds e1.rs e1.xs e1.all e1.bf==(91:Int)) (aq ((↑(List.length d):Int)==(2:Int)) (aV h (g/\∃(e0:List AV),(f,[])=K7 e0/\eM e0=true/\K e [])/\aV h g) b) b)) (∃(e0:Qc),([AV.agg [a 43 Fj,a 48 Gp],a 51 P9,AV.int 4],[])=GY e0/\mN e0/\aq (decide (pr e0.ds e0.rs e0.xs e0.all e0.bf=(0:Int))) (aq i b b) (aq i (aq (pr e0.ds e0.rs e0.xs e0.all e0.bf==(91:Int)) b b) b))):=by kernel_rfl
abbrev qY:List RL:=[[rP 1 2,rP 2 3],[]]
theorem R5:nx Fj Gp=true:=by kernel_rfl
theorem prP:iQ Fj Gp:=⟨jW R5,by kernel_rfl⟩
theorem Ot a b:uI (rP a b):=fun v c=>by
 rcases List.mem_cons.1 c with rfl|c
 ·exact⟨rfl,rfl⟩
 ·rcases List.mem_cons.1 c with rfl|c
  ·exact⟨rfl,rfl⟩
  grind
theorem YU: ∀L,L∈qY->vt L:=fun L b=>by
 rcases List.mem_cons.1 b with rfl|b
 ·refine⟨by decide,fun r a=>?_,fun r a=>?_⟩
  ·grind
  ·rcases List.mem_cons.1 a with rfl|a
   ·exact Ot 1 2
   simp_all[Ot]
 ·rcases List.mem_cons.1 b with rfl|b
  ·exact⟨Nat.zero_le _,by simp,fun r a=>(nomatch a)⟩
  ·cases b
theorem nP:InX P9 qY:=⟨rfl,by simp,fun i=>by
 match i with
 |0=>rfl
 |1=>rfl
 |i+2=>rfl,YU⟩
theorem evP bf(h:bf<=50):iz Fj Gp bf (qY.map eo):=by
 have c:qY.map eo=qY:=by kernel_rfl
 rw[c];refine⟨prP,⟨rfl,fun L b=>(YU L b).v,fun L b=>?_,fun i r a=>?_⟩,fun r a=>?_,h,by decide⟩
 ·rcases List.mem_cons.1 b with rfl|b
  ·kernel_rfl
  ·rcases List.mem_cons.1 b with rfl|b
   ·rfl
   ·cases b
 ·match i,a with
  | 0,a=>
   rcases List.mem_cons.1 a with rfl|a
   ·rfl
   ·rcases List.mem_cons.1 a with rfl|a
    ·rfl
    ·cases a
  |1,a=>cases a
  |i+2,a=>cases a
 ·rcases List.mem_cons.1 a with rfl|a
  ·kernel_rfl
  ·rcases List.mem_cons.1 a with rfl|a
   ·kernel_rfl
   ·cases a
theorem O4 bf(a:1<=bf)(h:bf<=50):mN ⟨Fj,Gp,P9,qY,bf⟩:=
 ⟨prP.s,by rfl,fun _=>nP,⟨a,h⟩,fun _ _=>evP _ h⟩
theorem e5:pr Fj Gp P9 qY 5=0:=by kernel_rfl
theorem e4:pr Fj Gp P9 qY 4=91:=by kernel_rfl
theorem r5:bh (jw Fj Gp qY 5)=[.ah 70 (rws [rP 1 2,rP 2 3]), .ah 70 Uo]:=by kernel_rfl
def af6(_:Unit):List AV×List Dn.Obj:=([],[])
def aa2(_:Unit):Out (AV×List Dn.Obj):= .one (.bool true,[])
theorem cSx κ:bc (U4 κ).E 12 17 (aO af6 (fun _=>True) aa2):=by
 refine aR ?_;rintro⟨⟩ K _ a
 replace a:K (.bool true) []:=a
 refine Eq.mpr (ySx κ K) ⟨⟨Fj,Gp,P9,qY,5⟩,rfl,O4 5 (by decide) (by decide),?_⟩;refine ae.2 ⟨fun _=>⟨⟨Fj,Gp,P9,qY,4⟩,rfl,O4 4 (by decide) (by decide),ae.2 ⟨fun e=>?_,fun _=>ae.2 ⟨fun _=>?_,fun e=>?_⟩⟩⟩,fun e=>?_⟩
 ·rw[e4] at e;cases e
 ·have b:([AV.ah 70 (af (nth (bh (jw Fj Gp qY 5)) 1)),AV.ah 70 Uo],[])=K7 Uo:=by rw[r5];rfl
  have c:eM Uo=true:=by kernel_rfl
  have d:(true&&decide ((1:Int)<((bh (jw Fj Gp qY 5)).length:Int)))=true:=by rw[r5];rfl
  refine ae.2 ⟨fun _=>⟨ai.2 (by grind),ai.2 ⟨d,Uo,b,c,a⟩⟩,fun e=>?_⟩;rw[r5] at e;cases e
 ·rw[e4] at e;cases e
 ·have e: ¬ pr Fj Gp P9 qY 5=0:=of_decide_eq_false e
  exact absurd e5 e
noncomputable def Xo κ:=(U4 κ).call (cSx _)
structure ALm where
 R:List RL
 bf:Int
 i:Nat
structure S9(xs:List AV):Prop where
 f:iJ xs=true
 r: ∀x,x∈xs->∀r,r∈af x->r= .ah 72 (af r)
 v: ∀x,x∈xs->∀r,r∈af x->∀v,v∈af r->v=e6 (Ew v)
def fC(xs:List _):=xs.map fun x=>cU (af x)
theorem IA: ∀{l},(∀r,r∈l->r= .ah 72 (af r))->rws (cU l)=l
 |[],_=>rfl
 |a::l,h=>by
  have c:=h a (by simp);have b:=IA (l:=l) (by grind);show AV.ah _ _::rws (cU l)=a::l
  grind
theorem PT: ∀{t b},Lf t b=true->(∀v,v∈t->v=e6 (Ew v))->uI t
 |[],[],_,_,v,c=>nomatch c
 | v::t,k::b,h,d,w,a=>by
  simp only[Lf,ar5] at h;rcases List.mem_cons.1 a with rfl|a
  ·refine⟨d _ (by simp),?_⟩
   grind [Xz]
  ·exact PT h.2 (by grind) w a
theorem CA: ∀{xs ds},pW xs ds=true->∀i,i<xs.length->wc (af (nth xs i)) (af (ag (nth ds i) 2))=true
 |[],_,_,i,a=>absurd a (by simp)
 |x::xs,[],h,_,_=>by cases h
 |x::xs,d::ds,h,i,a=>by
  rw[pW,ar5] at h;cases i with
  |zero=>exact h.1
  |succ i=>exact CA h.2 i (by grind)
theorem uS xs i:(fC xs).getD i []=cU (af (nth xs i)):=by
 grind [aM,fC,fj,af,cU]
structure Yo(ds rs xs:List AV):Prop where
 i:InX xs (fC xs)
 l:xs.length=ds.length
 w: ∀i r,r∈(fC xs).getD i []->r.length=G7 ds i
theorem MG{ds n xs}(l:S9 xs)(t:xs.length<=60)(h:ki ds n xs=true):Yo ds n xs:=by
 simp only[ki,ar5,ar4] at h;obtain⟨_,s,p⟩:=h;have d: ∀i,i<xs.length->nth xs i∈xs:=fun i a=>by rw[aM _ i a];exact List.getElem_mem _
 have ty:=fun i a r b=>by
  have m:=CA p i a;simp only[wc,ar5,W8,List.all_eq_true] at m;exact m.1 r b
 have e: ∀L,L∈fC xs->∃i,i<xs.length/\L=cU (af (nth xs i)):=fun L j=>by
  obtain⟨i,a,rfl⟩:=List.getElem_of_mem j;have g:i<xs.length:=by simpa[fC] using a
  exact⟨i,g,by rw[←uS];simp[List.getD_eq_getElem?_getD,a]⟩
 refine⟨⟨by simp[fC],by simp[fC];omega,fun i=>?_,fun L j=>?_⟩,s,fun i r b=>?_⟩
 ·rw[uS]
  rcases Nat.lt_or_ge i xs.length with a|a
  ·exact(IA fun r b=>l.r _ (d i a) r b).symm
  ·rw[fj _ i a];rfl
 ·obtain⟨i,a,rfl⟩:=e L j
  have o:=mq l.f i;refine⟨by rw[lO];exact iZ o,fun r b=>?_,fun r b=>?_⟩
  ·obtain⟨x,c,rfl⟩:=List.mem_map.1 b
   obtain⟨k,q,rfl⟩:=List.getElem_of_mem c;have:=lC o k
   rwa [aM _ k q] at this
  ·obtain⟨x,c,rfl⟩:=List.mem_map.1 b
   exact PT (ty i a x c) (l.v _ (d i a) x c)
 ·rw[uS] at b
  rcases Nat.lt_or_ge i xs.length with a|a
  ·obtain⟨x,c,rfl⟩:=List.mem_map.1 b
   exact B1 _ _ (ty i a x c)
  ·rw[fj _ i a] at b;cases b
theorem HB: ∀xs n,uz xs n=true->n<=20->n+cC (fC xs)<=20
 |[],n,_,h=>h
 |x::xs,n,h,_=>by
  simp[uz] at h;have:=HB _ _ h.2.2 h.1
  grind [cC,fC,lO]
theorem Jd: ∀a,cC (a.map eo)<=cC a
 |[]=>Nat.le_refl _
 |L::a=>by
  have b:=Jd a
  grind [sa,cC]
theorem Y0{ds b xs}(p:S9 xs)(a:jB ds b xs=true)(h:(wy ds b).2=0)(s:ki ds b xs=true){bf}(q:bf<=50):iz ds b bf ((fC xs).map eo):=by
 simp only[jB,ar5,ar4,List.all_eq_true] at a;obtain⟨j,x,m,n,o⟩:=a;have c:=MG p m s;have k:(lZ ds b).2=0:=by
  unfold wy at h
  grind
 have t:=HB xs 0 o (by omega);have u:=Jd (fC xs);refine⟨⟨jW j,k⟩,⟨?_,fun L a=>?_,fun L a=>?_,fun i r g=>?_⟩,n,q,by omega⟩
 ·rw[List.length_map,fC,List.length_map];exact c.l
 ·obtain⟨M,e,rfl⟩:=List.mem_map.1 a
  exact(kc (c.i.f M e).v).2.2
 ·obtain⟨M,e,rfl⟩:=List.mem_map.1 a
  exact(kc (c.i.f M e).v).1
 ·refine c.w i r ?_
  rcases Nat.lt_or_ge i (fC xs).length with d|d
  ·rw[List.getD_eq_getElem?_getD,List.getElem?_map,as8 d] at g
   rw[List.getD_eq_getElem?_getD,as8 d];exact((kc (c.i.f _ (List.getElem_mem d)).v).2.1 r).1 g
  grind
theorem vj{ds d xs}(a:S9 xs)(b:jB ds d xs=true){bf}(k:1<=bf)(e:bf<=50):mN ⟨ds,d,xs,fC xs,bf⟩:=by
 have h:=b;simp[jB] at h;have g:=jW h.1;exact⟨g,by rw[HC g,a.f];rfl,fun c=>(MG a h.2.2.1 c).i,⟨k,e⟩,fun l j=>Y0 a b l j e⟩
theorem Rg{ds b xs a n}(i:(wy ds b).2=0->ki ds b xs=true->iz ds b n (a.map eo))(h:pr ds b xs a n=0):pr ds b xs a (n+1)=0/\jw ds b a (n+1)=jw ds b a n/\cC (jw ds b a n)<=n/\iz ds b n (jw ds b a n):=by
 unfold pr at h⊢;by_cases g:(wy ds b).2=0
 ·rw[as0 g,Bool.not_true,ar9] at h⊢
  cases f:ki ds b xs with
  |false=>rw[f] at h;cases h
  | true=>
   rw[f,Bool.not_true,ar9] at h;have d:=i g f;by_cases c:n<cC (jw ds b a n)
   ·grind
   ·have e:=(Ar d.p n (Lv ds b) (a.map eo) d.A).2.2 (show cC (jw ds b a n)<=n by omega)
    grind [jw,iz.eval]
 grind
end Go.Proofs.YtioeffnadipbaaaGreatDoor
