import Derived.Test.YtioeffnadipbaaaGreatDoorDePE
import Derived.Test.YtioeffnadipbaaaGreatDoorDeP4
namespace Go.Proofs.YtioeffnadipbaaaGreatDoor
open Go Go.Dn Go.Rl Go.Proofs
theorem tU A B:(eF A B).length<=A.length+B.length:=by
 match A,B with
 |[],B=>rw[Ce];simp
 |a::cs,[]=>
  have:=tU cs []
  grind [AM]
 |a::cs,b::bs=>
  have h1:=tU cs (b::bs);have h2:=tU cs bs;have h3:=tU (a::cs) bs;rw[BU]
  grind
termination_by A.length+B.length
def xp(l:List _):=(l.filter fun x=>toInt (af x 0)==1).length
def Lr r:=decide (xp (ag (af r 1))<=3)
theorem Fa{p}: ∀n {l:List _},l.Nodup->(∀x,x∈l->x<n)->(l.filter p).length<=((List.range n).filter p).length:=by
 intro n l hl hx;have h1:(l.filter p).Nodup:=hl.filter _;have h2: ∀x,x∈l.filter p->x∈(List.range n).filter p:=fun x h=>by
  grind
 generalize l.filter p=a at*
 generalize (List.range n).filter p=b at*
 clear hl hx;induction a generalizing b with
 |nil=>exact Nat.zero_le _
 |cons x a ih=>
  rw[List.nodup_cons] at h1;have:=ih h1.2 (b.erase x) (by grind)
  grind
theorem rI q: ∀l:List _,((List.range l.length).filter fun k=>q (nth l k)).length=(l.filter q).length
 |[]=>rfl
 | a::l=>by
  have ih:=rI q l;rw[List.length_cons,List.range_succ_eq_map,List.filter_cons,List.filter_cons];have e:((List.range l.length).map Nat.succ).filter (fun k=>q (nth (a::l) k))=((List.range l.length).filter fun k=>q (nth l k)).map Nat.succ:=by
   rw[List.filter_map];rfl
  grind [nth]
theorem Ux{ds rs r all}:BO (Pm ds rs r all) (cW (aM r))<=xp r.bl:=by
 have h:=Fa (p:=fun k=>toInt (af (nth r.bl k) 0)==1) _ (En (aM r)) fun x hx=>by
  have:=xv hx
  rwa [gM] at this
 rw[rI (fun t=>toInt (af t 0)==1) _] at h;exact h
variable {ds rs:List AV}
theorem MC(h:nM ds rs) i:EC ds i<=100:=by
 have h1:=(sZ.1 h.c).1;simp only[fF,an3,List.all_eq_true] at h1;rcases Nat.lt_or_ge i ds.length with hi|hi
 ·have:=h1.1.2 _ (show nth ds i∈ds by grind [aX])
  grind [KL,DZ,EC]
 ·unfold EC
  rw[fT _ i hi];exact Nat.zero_le _
theorem Yr(h:nM ds rs){r}(hr:r∈rs):(ea r).hl.length<=8:=by
 have h1:=(BT h.s h.c hr).r
 grind [a9,nC,aM,er]
theorem OE(_h:nM ds rs){r}(_hr:r∈rs)(h3:Lr r=true){all}(hn:dd all<=50):(Lj.V ⟨ds,rs,ea r,all⟩).length<=125000:=by
 have hN: ∀rel,((Pm ds rs (ea r) all).at rel).length<=50:=fun rel=>by
  rw[Gv,dU];rcases Nat.lt_or_ge _ all.length with hi|hi
  ·exact Nat.le_trans (rR (rX hi)) hn
  grind
 have h1:=Bk hN (by omega) (cW (aM (ea r))) [];have h2:BO (Pm ds rs (ea r) all) _<=3:=Nat.le_trans Ux (of_decide_eq_true h3);exact Nat.le_trans h1 (Nat.le_trans (Nat.pow_le_pow_right (by omega) h2) (by decide))
theorem XO(h:nM ds rs){r}(hr:r∈rs)(h3:Lr r=true){all}(hA:jB ds all)(hn:dd all<=50):qM ⟨ds,rs,ea r,all⟩:=by
 have hl:=OE h hr h3 hn;refine⟨BT h.s h.c hr,MA h.s h.c hr hA fun L hL=>?_,⟨by grind,fun x hx=>?_,B1 (HC hA.v) _ SO⟩⟩
 ·have:L.length<=dd all:=rR hL
  omega
 ·have h1:=Bm _ hx
  have h2:=Yr h hr;have h1:x.length=(ea r).hl.length:=h1;omega
theorem I8(h:nM ds rs){all}(hA:jB ds all) i x(hx:x∈all.getD i []):x.length<=100000000:=by
 have h1:=hA.w i x hx
 grind [MC]
theorem Y9(h:nM ds rs){r}(hr:r∈rs)(h3:Lr r=true){all}(hA:jB ds all)(hn:dd all<=50):wh (rws (all.getD (atR ds r) []),rws (fE ds rs (ea r) all)):=by
 obtain⟨g1,g2,g3⟩:=IE h hr hA;have hi:atR ds r<all.length:=by rw[hA.len];exact(h.at hr).2
 have hm:=rX hi;have hl:=OE h hr h3 hn;have hs:(fE ds rs (ea r) all).length<=125000:=Nat.le_trans (sE _) hl;have ht:=rR hm;have hw:=MC h (atR ds r);refine⟨⟨sF (by omega) (I8 h hA _),sF (by omega) (fun x hx=>by have:=g3 x hx;omega),?_,fun x hx=>?_⟩,?_,?_⟩
 ·simp only[nt]
  have:=tU (all.getD (atR ds r) []) (fE ds rs (ea r) all)
  rw[eF,List.length_map] at this;omega
 ·simp only[nt] at hx
  have:x.1∈eF (all.getD (atR ds r) []) (fE ds rs (ea r) all):=List.mem_map_of_mem hx
  rcases(jq (hA.v _ hm) g1).1 this with h|h
  ·have:=hA.w _ _ h;omega
  ·have:=g3 _ h;omega
 ·simp only[nt];exact hA.r _ hm
 ·simp only[nt];exact g2
theorem Ea(h:nM ds rs){r}(hr:r∈rs)(h3:Lr r=true){all}(hA:jB ds all)(hn:dd all<=50):dd (mD ds rs r all)<=200000:=by
 obtain⟨_,_,s3⟩:=vf h hr hA;have hu:=tU (all.getD (atR ds r) []) (fE ds rs (ea r) all);have hs:(fE ds rs (ea r) all).length<=125000:=Nat.le_trans (sE _) (OE h hr h3 hn);omega
end Go.Proofs.YtioeffnadipbaaaGreatDoor
namespace Go.Proofs.YtioeffnadipbaaaGreatDoor
open Go Go.Dn Go.Rl Go.Proofs
attribute [local irreducible] a7 vc
set_option maxRecDepth 20000
structure Rh where
 ds:List AV
 rs:List AV
 g:List Int
 br:Nat
 all:List RL
 more:Bool
 i:Nat
abbrev qb(all:List RL):Dn.Obj:= .row 51 (a8 all)
abbrev Qr(r:AV):AV:= .agg [.agg [.lit (.string (toStr (af (af r 0) 0))), .ah 38 (ag (af (af r 0) 1))], .ah 80 (ag (af r 1)), .int (toInt (af r 2))]
abbrev Lp ds rs g ALL n br i more:=sp 71 [(1, .ah 3 g),(2, .ak 0 0 n),(3, .int br),(4, .ptr 1 0 [] 0),(9, .bool more),(16, .ah 48 rs),(17, .int rs.length),(18, .int i)] [.row 51 ALL, .box 25 (fq ds rs)]
abbrev KI(x:Rh):=Lp x.ds x.rs (iA x.g) (a8 x.all) (a8 x.all).length x.br x.i x.more
def O0:dc:=fun args st K=>∃a,(args,st)=KD a/\qM a/\K (.ah 70 (rws (fE a.ds a.rs a.r a.all))) st
theorem FO:O0.gw:=fun _ _ _ _ hK ⟨a,h1,h2,h3⟩=>⟨a,h1,h2,hK _ _ h3⟩
theorem UB args st K(h:O0 args st K):aO KD qM SR args st K:=by
 obtain⟨a,h1,h2,h3⟩:=h;obtain⟨rfl,rfl⟩:=Prod.mk.inj h1;exact⟨a,rfl,h2,h3⟩
theorem Wz κ args st K(h:O0 args st K):(BUn κ).E.call 50 args st K:=UB _ _ K h
noncomputable def Wx κ:=EB.Ws _ FO (Wz κ)
theorem xGw(κ:Kp)(x:Rh) I(N:Nat) K:(vc (Wx κ).E 12 46 none 1 (ad (Pr κ).toProgram 46 3) (KI x) (bh (Wx κ).E 46 3 1 I N K))=(
 letI a:=Obj.box
 letI b:=AV.ah
 letI c:=List.length (a8 x.all)
 letI f:=IntKind.wrap IntKind.i64 ((↑(x.i):Int)+(1:Int))
 letI j:=nth x.rs (Int.toNat (↑(x.i):Int))
 letI l:=a 25 (fq x.ds x.rs)=a 25 (fq x.ds x.rs)/\a 48 (Qr j)=a 48 (Qr j)/\True
 letI m:=List.take c (List.drop 0 (a8 x.all))
 letI n:=(↑(x.i):Int)<(↑(x.rs.length):Int)
 aq (decide n) (aW (true&&decide n) (∃(e3:List AV×ByteArray),letI d:=decide ((0:Int)<=bH e3.2 e3.1)&&decide (bH e3.2 e3.1<(↑c:Int));letI e:=bH e3.2 e3.1;letI k:=ag (nth (a8 x.all) (0+Int.toNat e));([b 43 x.ds,AV.str (toStr (af (af j 0) 0))],[])=IM e3/\iD e3/\aW (decide (List.length m<=100000)&&decide (gQ m<=1000000000)) (aq (decide ((↑(gQ m):Int)>(↑(x.br):Int))) (K Exit.ret (sp 71 [(8,AV.bool false)] [qb x.all])) (aW (decide (List.length (iA x.g)<=9223372036854775807)) (aq (!XC e (iA x.g)) (∃(e0:Nat),e0<N/\I e0 (Lp x.ds x.rs (iA x.g) (a8 x.all) c (↑(x.br):Int) f x.more)) (aW d (aW d ((∃(e2:Lj),([fq x.ds x.rs,Qr j,AV.ak 0 0 c],[qb x.all])=KD e2/\qM e2/\l/\∃(e1:WN),letI g:=bM (a8 x.all) (0+Int.toNat e) (b 70 (List.take (List.length (eF (dm e1.1) (dm e1.2))) (List.drop 0 (rws (eF (dm e1.1) (dm e1.2))))));([b 70 k,b 70 (rws (fE e2.ds e2.rs e2.r e2.all))],[])=QD e1/\wh e1/\aW d (aq x.more (∃(e0:Nat),e0<N/\I e0 (Lp x.ds x.rs (iA x.g) g c (↑(x.br):Int) f true)) (aW d (∃(e0:Nat),e0<N/\I e0 (Lp x.ds x.rs (iA x.g) g c (↑(x.br):Int) f (decide ((↑(List.length (ag (nth g (0+Int.toNat e)))):Int)>(↑(List.length k):Int))))))))/\∃(e2:Lj),([fq x.ds x.rs,Qr j,AV.ak 0 0 c],[qb x.all])=KD e2/\qM e2/\l/\∃(e1:WN),letI h:=bM (a8 x.all) (0+Int.toNat e) (b 70 (List.take (List.length (eF (dm e1.1) (dm e1.2))) (List.drop 0 (rws (eF (dm e1.1) (dm e1.2))))));([b 70 k,b 70 (rws (fE e2.ds e2.rs e2.r e2.all))],[])=QD e1/\wh e1/\aW d (aq x.more (∃(e0:Nat),e0<N/\I e0 (Lp x.ds x.rs (iA x.g) h c (↑(x.br):Int) f true)) (aW d (∃(e0:Nat),e0<N/\I e0 (Lp x.ds x.rs (iA x.g) h c (↑(x.br):Int) f (decide ((↑(List.length (ag (nth h (0+Int.toNat e)))):Int)>(↑(List.length k):Int))))))))/\∃(e2:Lj),([fq x.ds x.rs,Qr j,AV.ak 0 0 c],[qb x.all])=KD e2/\qM e2/\l/\aW d (∃(e1:WN),letI i:=bM (a8 x.all) (0+Int.toNat e) (b 70 (List.take (List.length (eF (dm e1.1) (dm e1.2))) (List.drop 0 (rws (eF (dm e1.1) (dm e1.2))))));([b 70 k,b 70 (rws (fE e2.ds e2.rs e2.r e2.all))],[])=QD e1/\wh e1/\aW d (aq x.more (∃(e0:Nat),e0<N/\I e0 (Lp x.ds x.rs (iA x.g) i c (↑(x.br):Int) f true)) (aW d (∃(e0:Nat),e0<N/\I e0 (Lp x.ds x.rs (iA x.g) i c (↑(x.br):Int) f (decide ((↑(List.length (ag (nth i (0+Int.toNat e)))):Int)>(↑(List.length k):Int))))))))))))))) (K (Exit.exit 0) (sp 71 [(9,AV.bool x.more)] [qb x.all]))):=by kernel_rfl
theorem fG all:(a8 all).length=all.length:=by simp
theorem NC W:(rws W).take W.length=rws W:=by grind [dU]
theorem Dy W: ∀all k,bM (a8 all) k (.ah 70 (rws W))=a8 (all.set k W)
 |[],0=>rfl
 |[],_+1=>rfl
 |_::_,0=>rfl
 |L::all,k+1=>by
  have:=Dy W all k
  grind [bM]
def vX(ds rs:List AV)(g:List Int)(br:Nat):List AV->List RL->Bool
 |[],_=>false
 |r::xs,all=>bif decide (br<dd all) then true
  else bif !g.contains (bH (ea r).rel ds) then vX ds rs g br xs all
  else vX ds rs g br xs (mD ds rs r all)
theorem tq{ds rs g br}: ∀xs all m,vX ds rs g br xs all=true->(dB ds rs g br xs all m).2=false
 |[],_,_,h=>by cases h
 | r::xs,all,m,h=>by
  rw[vX] at h;rw[dB];cases c:decide (br<dd _) with
  |true=>rfl
  |false=>
   rw[c] at h;cases c2: !g.contains _ with
   |true=>rw[c2] at h;exact tq xs _ m h
   |false=>rw[c2] at h;exact tq _ _ _ h
structure qS(x:Rh):Prop where
 p:nM x.ds x.rs
 A:jB x.ds x.all
 t: ∀r,r∈x.rs->Lr r=true
 l:x.br<=50
 n:dd x.all<=200000
 g:x.g.length<=100000
 i:x.i<=x.rs.length
def w9(x:Rh):Out (Exit×S):= .aq (vX x.ds x.rs x.g x.br (x.rs.drop x.i) x.all)
 (.one (.ret,sp 71 [(8, .bool false)] [qb (dB x.ds x.rs x.g x.br (x.rs.drop x.i) x.all x.more).1]))
 (.one (.exit 0,sp 71 [(9, .bool (dB x.ds x.rs x.g x.br (x.rs.drop x.i) x.all x.more).2)] [qb (dB x.ds x.rs x.g x.br (x.rs.drop x.i) x.all x.more).1]))
theorem BJ{ds rs}(h:nM ds rs):ds.length<=60:=by
 have h1:=(sZ.1 h.c).1
 grind [fF]
theorem lGw κ:aR (Wx κ).E 12 46 3 (aG 1 KI qS w9):=by
 refine aD (fun x=>x.rs.length - x.i) ?_;rintro⟨ds,rs,g,br,all,more,i⟩ K hs ho;have hp:=hs.p;have hA:=hs.A;have hl:=hs.l;have hn:=hs.n;have hg:=hs.g;have hi':=hs.i;have hrl:=hp.s.2.1;have hdl:ds.length<=60:=BJ hp;have hal:=hA.len;simp only[aU] at hp hA hl hn hg hi' hrl hal;rw[show(Wx κ).E.P=Pr κ from rfl];refine Eq.mpr (xGw κ ⟨ds,rs,g,br,all,more,i⟩ _ _ K) ?_;simp only[Int.toNat_natCast,ao2,List.take_length,Nat.zero_add];rw[ae,an2,an4];refine⟨fun h=>?_,fun h=>?_⟩
 ·have hi:i<rs.length:=by omega
  have hr:nth rs i∈rs:=by rw[aX _ i hi];exact List.getElem_mem _
  have hat:=hp.at hr;have h3:=hs.t _ hr;have hd:rs.drop i=nth rs i::rs.drop (i+1):=by rw[ao3 hi,←aX rs i hi]
  have hw:IntKind.wrap .i64 ((i:Int)+1)=((i+1:Nat):Int):=by rw[az (by omega) (by omega)];omega
  have next: ∀all' m',jB ds all'->dd all'<=200000->((w9 ⟨ds,rs,g,br,all',m',i+1⟩).run fun y=>K y.1 y.2)->∃m,m<rs.length - i/\ei KI qS w9 (fun x=>x.rs.length - x.i) K m (Lp ds rs (iA g) (a8 all') (a8 all').length br (IntKind.wrap .i64 ((i:Int)+1)) m'):=fun all' m' a1 a2 a3=>
   ⟨_,by simp only;omega,⟨ds,rs,g,br,all',m',i+1⟩,by rw[hw],⟨hp,a1,hs.t,hl,a2,hg,hi⟩,rfl,a3⟩
  unfold w9 at ho;simp only[hd] at ho;rw[vX,dB] at ho;refine ai.2 ⟨by simp;omega,⟨ds,(ea (nth rs i)).rel⟩,rfl,hp.s.1,ai.2 ⟨?_,?_⟩⟩
  ·rw[ou,fG,an3,an2,an2];omega
  ·simp only[ou]
   rw[ae,an2,an4];refine⟨fun c=>?_,fun c=>?_⟩
   ·rw[an8 (show br<dd all by omega)] at ho
    exact ho
   ·have c: ¬ br<dd all:=by omega
    rw[an6 c,an7,an7] at ho;refine ai.2 ⟨by rw[an2,jm];omega,?_⟩;rw[Nl,ae];refine⟨fun e=>?_,fun e=>?_⟩
    ·rw[e,an9,an9] at ho
     exact next all more hA hn ho
    ·rw[e,an7,an7] at ho
     have hk:(decide (0<=bH (ea (nth rs i)).rel ds)&&decide (bH (ea (nth rs i)).rel ds<((a8 all).length:Int)))=true:=by
      rw[fG,hal,an3,an2,an2];exact hat.1
     obtain⟨s1,s2,s3⟩:=vf hp hr hA;have hG:=XO hp hr h3 hA (by omega);have hU:=Y9 hp hr h3 hA (by omega);have hT:=Ea hp hr h3 hA (by omega);have hlen:(a8 (mD ds rs (nth rs i) all)).length=(a8 all).length:=by rw[fG,fG,s1.len,hal]
     have hkl:atR ds (nth rs i)<all.length:=by rw[hal];exact hat.2
     have fin:=fun m'=>next (mD ds rs (nth rs i) all) m' s1 hT
     rw[hlen] at fin;have hd:decide (((ag (nth (a8 (all.set (atR ds (nth rs i)) (eF (all.getD (atR ds (nth rs i)) []) (fE ds rs (ea (nth rs i)) all)))) (atR ds (nth rs i)))).length:Int)>((ag (nth (a8 all) (atR ds (nth rs i)))).length:Int))=decide ((all.getD (atR ds (nth rs i)) []).length<(eF (all.getD (atR ds (nth rs i)) []) (fE ds rs (ea (nth rs i)) all)).length):=by
      have hg: ∀W:RL,(all.set (atR ds (nth rs i)) W).getD (atR ds (nth rs i)) []=W:=fun W=>by
       rw[List.getD_eq_getElem?_getD,List.getElem?_set_self hkl];rfl
      rw[se,se,dU,dU,hg];exact decide_eq_decide.2 (by omega)
     refine ai.2 ⟨hk,ai.2 ⟨hk,?_,?_⟩,?_⟩
     all_goals
      refine⟨⟨ds,rs,ea (nth rs i),all⟩,rfl,hG,(by refine⟨?_,?_,trivial⟩<;>first|exact trivial|rfl),?_⟩
      first
      |refine⟨(rws (all.getD (atR ds (nth rs i)) []),rws (fE ds rs (ea (nth rs i)) all)),by rw[←se];rfl,hU,ai.2 ⟨hk,?_⟩⟩
      |refine ai.2 ⟨hk,⟨(rws (all.getD (atR ds (nth rs i)) []),rws (fE ds rs (ea (nth rs i)) all)),by rw[←se];rfl,hU,ai.2 ⟨hk,?_⟩⟩⟩
      simp only[nt,NC];change aq more (∃m,m<rs.length - i/\ei KI qS w9 (fun x=>x.rs.length - x.i) K m (Lp ds rs (iA g) (bM (a8 all) (atR ds (nth rs i)) (.ah 70 (rws (eF (all.getD (atR ds (nth rs i)) []) (fE ds rs (ea (nth rs i)) all))))) (a8 all).length br (IntKind.wrap .i64 ((i:Int)+1)) true)) (aW _ (∃m,m<rs.length - i/\ei KI qS w9 (fun x=>x.rs.length - x.i) K m (Lp ds rs (iA g) (bM (a8 all) (atR ds (nth rs i)) (.ah 70 (rws (eF (all.getD (atR ds (nth rs i)) []) (fE ds rs (ea (nth rs i)) all))))) (a8 all).length br (IntKind.wrap .i64 ((i:Int)+1)) (decide (((ag (nth (bM (a8 all) (atR ds (nth rs i)) (.ah 70 (rws (eF (all.getD (atR ds (nth rs i)) []) (fE ds rs (ea (nth rs i)) all))))) (atR ds (nth rs i)))).length:Int)>((ag (nth (a8 all) (atR ds (nth rs i)))).length:Int))))));rw[Dy,hd];cases more with
      |true=>exact fin true ho
      |false=>exact ai.2 ⟨hk,fin _ ho⟩
 ·unfold w9 at ho
  rw[ao0 (by simp only;omega)] at ho;exact ho
noncomputable def UN κ:=(Wx κ).loop (lGw _)
theorem yGw κ(x:Rh) K:(a7 (UN κ).E 12 46 [fq x.ds x.rs, .ah 3 (iA x.g), .ak 0 0 (a8 x.all).length, .int x.br] [qb x.all] K)=(
 ad (Pg.toProgram (Env.P (EB.E (Wx κ)))) 46 3=ad (Pg.toProgram (Env.P (EB.E (Wx κ)))) 46 3/\∃(a:Rh),letI b:=dB a.ds a.rs a.g a.br (List.drop a.i a.rs) a.all a.more;Lp x.ds x.rs (iA x.g) (a8 x.all) (List.length (a8 x.all)) (↑(x.br):Int) (0:Int) false=KI a/\qS a/\aq (vX a.ds a.rs a.g a.br (List.drop a.i a.rs) a.all) (K (AV.bool false) [qb (Prod.fst b)]) (K (AV.bool (Prod.snd b)) [qb (Prod.fst b)])):=by kernel_rfl
def Td(x:Rh):=([fq x.ds x.rs, .ah 3 (iA x.g), .ak 0 0 (a8 x.all).length, .int x.br],[qb x.all])
def Wl(x:Rh):Out (AV×List Dn.Obj):= .one (.bool (dB x.ds x.rs x.g x.br x.rs x.all false).2,[qb (dB x.ds x.rs x.g x.br x.rs x.all false).1])
theorem cGw κ:bg (UN κ).E 12 46 (aO Td qS Wl):=by
 refine aQ ?_;rintro⟨ds,rs,g,br,all,more,i⟩ K hs ho
 replace ho:K _ _:=ho
 refine Eq.mpr (yGw κ _ K) ⟨rfl,⟨ds,rs,g,br,all,_,0⟩,rfl,⟨hs.p,hs.A,hs.t,hs.l,hs.n,hs.g,Nat.zero_le _⟩,?_⟩
 grind [ae,tq]
noncomputable def Sb κ:=(UN κ).call (cGw _)
abbrev evS ds rs xs ALL gs br i n:=sp 67 [(2, .int br),(3, .ptr 0 0 [] 0),(8, .ak 1 0 (j5 gs).length),(11, .ak 2 0 n),(38, .ah 51 xs),(39, .int xs.length),(40, .int i)] [.box 25 (fq ds rs), .row 35 (j5 gs), .row 51 ALL]
theorem xEa κ ds rs xs ALL gs br(i:Nat) I N K:(vc (Sb κ).E 12 19 none 0 (ad (Pr κ).toProgram 19 10) (evS ds rs xs ALL gs br i ALL.length) (bh (Sb κ).E 19 10 0 I N K))=(
 letI a:=(↑i:Int)<(↑(xs.length):Int)
 aq (decide a) (aW (true&&decide a) (∃(e1:RL),([AV.ah 70 (ag (nth xs (Int.toNat (↑i:Int))))],[])=QX e1/\xe e1/\aW (decide ((ALL.length+1+1)*
 25<=70368744177664)) (∃(e0:Nat),e0<N/\I e0 (evS ds rs xs (List.take ALL.length ALL++[AV.ah 70 (rws (eT e1))]) gs br (IntKind.wrap IntKind.i64 ((↑i:
 Int)+(1:Int))) (ALL.length+1))))) (K (Exit.exit 1) (sp 67 [(2,AV.int br),(3,AV.ptr 0 0 [] 0),(8,AV.ak 1 0 (List.length (j5 gs))),(11,AV.ak 2 0
 ALL.length)] [Obj.box 25 (fq ds rs),Obj.row 35 (j5 gs),Obj.row 51 ALL]))):=by kernel_rfl
structure AEa where
 ds:List AV
 rs:List AV
 xs:List AV
 gs:List (List Int)
 br:Int
 all:List RL
 i:Nat
abbrev P2(x:AEa):=evS x.ds x.rs x.xs (a8 ((x.all.take x.i).map eT)) x.gs x.br x.i (a8 ((x.all.take x.i).map eT)).length
structure InX(xs:List AV)(all:List RL):Prop where
 len:xs.length=all.length
 n:all.length<=100000
 a: ∀i,ag (nth xs i)=rws (all.getD i [])
 f: ∀L,L∈all->xe L
def Fc(x:AEa):=x.i<=x.xs.length/\InX x.xs x.all
def YJ(x:AEa):Out (Exit×S):= .one (.exit 1,sp 67 [(2, .int x.br),(3, .ptr 0 0 [] 0),(8, .ak 1 0 (j5 x.gs).length),(11, .ak 2 0 (a8 (x.all.map eT)).length)] [.box 25 (fq x.ds x.rs), .row 35 (j5 x.gs),qb (x.all.map eT)])
theorem lEa κ:aR (Sb κ).E 12 19 10 (aG 0 P2 Fc YJ):=by
 refine aD (fun x=>x.xs.length - x.i) ?_;rintro⟨ds,rs,xs,gs,br,all,i⟩ K ⟨h1,hx⟩ ho;simp only at h1 hx;rw[show(Sb κ).E.P=Pr κ from rfl];refine Eq.mpr (xEa κ ds rs xs (a8 ((all.take i).map eT)) gs br i _ _ K) ?_;simp only[Int.toNat_natCast,List.take_length];have hn:=hx.n;have hl:=hx.len;rw[ae,an2,an4];refine⟨fun h=>?_,fun h=>?_⟩
 ·have hi:i<all.length:=by omega
  have hs:(all.take (i+1)).map eT=(all.take i).map eT++[eT (all.getD i [])]:=by
   rw[List.take_add_one,List.map_append];simp[hi,List.getD_eq_getElem?_getD]
  have hal:(a8 ((all.take i).map eT)).length<=100000:=by rw[fG,List.length_map,List.length_take];omega
  refine ai.2 ⟨by simp;omega,all.getD i [],by rw[hx.a];rfl,hx.f _ (rX hi),ai.2 ⟨by rw[an2];omega,_,?_,⟨ds,rs,xs,gs,br,all,i+1⟩,?_,⟨by simp only;omega,hx⟩,rfl,ho⟩⟩
  ·simp only;omega
  ·have e:a8 ((all.take (i+1)).map eT)=a8 ((all.take i).map eT)++[.ah 70 (rws (eT (all.getD i [])))]:=by rw[hs,a8,List.map_append];rfl
   simp only[P2,e,ao7,List.length_singleton];rw[az (n:=(i:Int)+1) (by omega) (by omega)];rfl
 ·have ht:all.take i=all:=List.take_of_length_le (by omega)
  simp only[ht];exact ho
noncomputable def V4 κ:=(Sb κ).loop (lEa _)
abbrev ewS ds rs ALL g gs br i n:=sp 67 [(2, .int br),(3, .ptr 0 0 [] 0),(11, .ak 1 0 n),(15, .ah 3 g),(50, .ak 2 0 (j5 gs).length),(51, .int (j5 gs).length),(52, .int i)] [.box 25 (fq ds rs), .row 51 ALL, .row 35 (j5 gs)]
abbrev Va ds rs ALL gs br i n:=sp 67 [(2, .int br),(3, .ptr 0 0 [] 0),(11, .ak 1 0 n),(50, .ak 2 0 (j5 gs).length),(51, .int (j5 gs).length),(52, .int i)] [.box 25 (fq ds rs), .row 51 ALL, .row 35 (j5 gs)]
structure AEw where
 ds:List AV
 rs:List AV
 gs:List (List Int)
 br:Nat
 all:List RL
 g:List Int
 i:Nat
 n:Nat
abbrev Sv(x:AEw):=ewS x.ds x.rs (a8 x.all) (iA x.g) x.gs x.br x.i (a8 x.all).length
theorem xEw κ x I N K:(vc (V4 κ).E 12 19 none 0 (ad (Pr κ).toProgram 19 17) (Sv x) (bh (V4 κ).E 19 17 0 I N K))=(
 letI a:=List.length (a8 x.all)
 ∃(e1:Rh),letI b:=dB e1.ds e1.rs e1.g e1.br e1.rs e1.all false;([fq x.ds x.rs,AV.ah 3 (iA x.g),AV.ak 0 0 a,AV.int (↑(x.br):Int)],[qb x.all])=Td e1/\qS e1/\aq (Prod.snd b) (∃(e0:Nat),e0<N/\I e0 (ewS x.ds x.rs (a8 (Prod.fst b)) (iA x.g) x.gs (↑(x.br):Int) (↑(x.i):Int) a)) (K (Exit.exit 5) (Va x.ds x.rs (a8 (Prod.fst b)) x.gs (↑(x.br):Int) (↑(x.i):Int) a))):=by kernel_rfl
theorem x7{ds rs}(h:nM ds rs)(ht: ∀r,r∈rs->Lr r=true){br}(hl:br<=50) g: ∀xs all m,(∀r,r∈xs->r∈rs)->jB ds all->dd all<=200000->dd (dB ds rs g br xs all m).1<=200000
 |[],_,_,_,_,hn=>hn
 | r::xs,all,m,hx,hA,hn=>by
  have hx': ∀r,r∈xs->r∈rs:=fun r hr=>hx r (by simp[hr])
  have hr:=hx r (by simp);rw[dB];by_cases c:br<dd all
  ·grind
  ·rw[an6 c]
   cases !g.contains _ with
   |true=>exact x7 h ht hl g xs all m hx' hA hn
   |false=>exact x7 h ht hl g xs _ _ hx' (vf h hr hA).1 (Ea h hr (ht r hr) hA (by omega))
theorem Kf{ds rs g br all}(h:br<dd all): ∀xs,(dB ds rs g br xs all false).2=false
 |[]=>rfl
 |r::xs=>by grind [dB]
structure ld(ds rs:List AV)(br:Nat)(all:List RL):Prop where
 p:nM ds rs
 A:jB ds all
 t: ∀r,r∈rs->Lr r=true
 l:br<=50
 n:dd all<=200000
theorem ld.grow{ds rs br all}(h:ld ds rs br all) g:ld ds rs br (dB ds rs g br rs all false).1:=
 ⟨h.p,(ry h.p g _ _ _ _ (by simp) h.A).1,h.t,h.l,x7 h.p h.t h.l g _ _ _ (by simp) h.A h.n⟩
theorem ld.loop{ds rs br} g: ∀n {all},ld ds rs br all->ld ds rs br (jX ds rs g br n all)
 |0,_,h=>h
 |n+1,all,h=>by
  rw[jX];cases(dB _ _ g _ _ _ _).2 with
  |true=>exact ld.loop g n (h.grow g)
  |false=>exact h.grow g
structure OT(x:AEw):Prop where
 o:ld x.ds x.rs x.br x.all
 g:x.g.length<=100000
 f:x.br+2<=x.n+dd x.all/\1<=x.n
def XQ(x:AEw):Out (Exit×S):= .one (.exit 5,Va x.ds x.rs (a8 (jX x.ds x.rs x.g x.br x.n x.all)) x.gs x.br x.i (a8 x.all).length)
theorem lEw κ:aR (V4 κ).E 12 19 17 (aG 0 Sv OT XQ):=by
 refine aD (fun x=>x.n) ?_;rintro⟨ds,rs,gs,br,all,g,i,n⟩ K ⟨h,hg,hf,hn⟩ ho;simp only at h hg hf hn;rw[show(V4 κ).E.P=Pr κ from rfl];obtain⟨n,rfl⟩: ∃m,n=m+1:=⟨n - 1,by omega⟩
 have ho:K (.exit 5) (Va ds rs (a8 (jX ds rs g br (n+1) all)) gs br i (a8 all).length):=ho;rw[jX] at ho;obtain⟨t1,t2,t3,_⟩:=ry h.p g br rs all false (fun _ hr=>hr) h.A;refine Eq.mpr (xEw κ ⟨ds,rs,gs,br,all,g,i,n+1⟩ _ _ K) ⟨⟨ds,rs,g,br,all,false,0⟩,rfl,⟨h.p,h.A,h.t,h.l,h.n,hg,Nat.zero_le _⟩,?_⟩;have hlen:(a8 (dB ds rs g br rs all false).1).length=(a8 all).length:=by rw[fG,fG,t1.len,h.A.len]
 rw[ae];refine⟨fun e=>?_,fun e=>?_⟩
 ·have e:(dB ds rs g br rs all false).2=true:=e
  rw[e,an9,←hlen] at ho;have h2:=(t3 e).resolve_left (by simp);have h3: ¬ br<dd all:=fun c=>by rw[Kf c] at e;cases e
  refine⟨n,Nat.lt_succ_self n,⟨ds,rs,gs,br,(dB ds rs g br rs all false).1,g,i,n⟩,by simp only[Sv,hlen],⟨h.grow g,hg,by simp only;omega,by simp only;omega⟩,rfl,ho⟩
 grind
noncomputable def Rx κ:=(V4 κ).loop (lEw _)
structure Xm where
 ds:List AV
 rs:List AV
 gs:List (List Int)
 br:Nat
 all:List RL
 i:Nat
abbrev Mu(x:Xm):=Va x.ds x.rs (a8 x.all) x.gs x.br x.i (a8 x.all).length
theorem xEf κ x I N K:(vc (Rx κ).E 12 19 none 0 (ad (Pr κ).toProgram 19 15) (Mu x) (bh (Rx κ).E 19 15 0 I N K))=(
 letI a:=(↑(x.i):Int)<(↑(List.length (j5 x.gs)):Int)
 letI b:=Pg.toProgram (Env.P (EB.E (V4 κ)))
 aq (decide a) (aW (true&&decide a) (ad b 19 17=ad b 19 17/\∃(e1:AEw),ewS x.ds x.rs (a8 x.all) (ag (nth (j5 x.gs) (0+Int.toNat (↑(x.i):Int))))
 x.gs (↑(x.br):Int) (↑(x.i):Int) (List.length (a8 x.all))=Sv e1/\OT e1/\∃(e0:Nat),e0<N/\I e0 (Va e1.ds e1.rs (a8 (jX e1.ds e1.rs e1.g e1.br e1.n
 e1.all)) e1.gs (↑(e1.br):Int) (IntKind.wrap IntKind.i64 ((↑(e1.i):Int)+(1:Int))) (List.length (a8 e1.all))))) (K (Exit.exit 3) (sp 67 [(2,AV.int
 (↑(x.br):Int)),(11,AV.ak 0 0 (List.length (a8 x.all)))] [qb x.all]))):=by kernel_rfl
structure Gg(x:Xm):Prop where
 o:ld x.ds x.rs x.br x.all
 g: ∀g,g∈x.gs->g.length<=100000
 i:x.i<=x.gs.length
 n:x.gs.length<=100000
def XW(x:Xm):Out (Exit×S):= .one (.exit 3,sp 67 [(2, .int x.br),(11, .ak 0 0 (a8 x.all).length)] [qb (jA x.ds x.rs x.br (x.gs.drop x.i) x.all)])
theorem Uc gs i h:ag (nth (j5 gs) i)=iA gs[i]:=by
 grind [aX,j5,ag]
theorem lEf κ:aR (Rx κ).E 12 19 15 (aG 0 Mu Gg XW):=by
 refine aD (fun x=>x.gs.length - x.i) ?_;rintro⟨ds,rs,gs,br,all,i⟩ K ⟨h,hg,hi,hn⟩ ho;simp only at h hg hi hn;rw[show(Rx κ).E.P=Pr κ from rfl];refine Eq.mpr (xEf κ ⟨ds,rs,gs,br,all,i⟩ _ _ K) ?_;simp only[Int.toNat_natCast,Nat.zero_add,HT];have ho:K (.exit 3) (sp 67 [(2, .int br),(11, .ak 0 0 (a8 all).length)] [qb (jA ds rs br (gs.drop i) all)]):=ho;rw[ae,an2,an4];refine⟨fun c=>?_,fun c=>?_⟩
 ·have hk:i<gs.length:=by omega
  have hlo:=ld.loop gs[i] 99 h;have hlen:(a8 (jX ds rs gs[i] br 99 all)).length=(a8 all).length:=by rw[fG,fG,hlo.A.len,h.A.len]
  rw[ao3 hk] at ho;rw[←hlen] at ho;have hl:=h.l;refine ai.2 ⟨by simp;omega,trivial,⟨ds,rs,gs,br,all,gs[i],i,99⟩,by rw[Uc gs i hk],⟨h,hg _ (List.getElem_mem _),by simp only;omega,by simp only;omega⟩,_,?_,⟨ds,rs,gs,br,jX ds rs gs[i] br 99 all,i+1⟩,?_,⟨hlo,hg,hk,hn⟩,rfl,ho⟩
  ·simp only;omega
  ·simp only[Mu,hlen]
   rw[az (n:=(i:Int)+1) (by omega) (by omega)];rfl
 ·rw[ao0 (by omega)] at ho
  exact ho
noncomputable def BEf κ:=(Rx κ).loop (lEf _)
theorem yEv κ ds rs xs(br:Nat) K:(a7 (BEf κ).E 12 19 [fq ds rs, .ah 51 xs, .int br] [] K)=(
 letI a:=AV.int
 letI b:=AV.aJ
 letI c:=AV.nil
 letI l:=Pg.toProgram (Env.P (EB.E (Sb κ)))
 letI m:=Pg.toProgram (Env.P (EB.E (Rx κ)))
 letI n:=K (b [c,a 2]) []
 letI p:=decide ((↑br:Int)>(2147483647:Int))
 letI q:=decide ((↑br:Int)<(1:Int))
 letI r:=K (b [c,a 90]) []
 letI s:=K (b [c,a 91]) []
 letI t:=List.all rs fj&&gj xs
 ∃(e2:Ch),letI o:=yw e2.1 e2.2;([fq ds rs],[])=V1 e2/\G1 e2/\aq (decide (Prod.snd o=(0:Int))) (aq q n (aq p n (aW t (aq (!nT ds rs xs) r (ad l 19 10=ad l 19 10/\∃(e1:AEa),letI f:=a8 (List.map eT e1.all);evS ds rs xs [] (Lg e2.1 e2.2) (↑br:Int) (0:Int) 0=P2 e1/\Fc e1/\ad m 19 15=ad m 19 15/\∃(e0:Xm),letI g:=jA e0.ds e0.rs e0.br (List.drop e0.i e0.gs) e0.all;letI h:=List.length (a8 e0.all);letI d:=List.take h (List.drop 0 (a8 g));Va e1.ds e1.rs f e1.gs e1.br (0:Int) (List.length f)=Mu e0/\Gg e0/\aW (decide (List.length d<=100000)&&decide (gQ d<=1000000000)) (aq (decide ((↑(gQ d):Int)>(↑(e0.br):Int))) s (K (b [AV.ak 0 0 h,a 0]) [qb g]))))))) (aq (Prod.snd o != (0:Int)) (K (b [c,a (Prod.snd o)]) []) (aq q n (aq p n (aW t (aq (!nT ds rs xs) r (ad l 19 10=ad l 19 10/\∃(e1:AEa),letI i:=a8 (List.map eT e1.all);sp 67 [(2,a (↑br:Int)),(3,AV.ptr 0 0 [] 0),(8,c),(11,AV.ak 1 0 0),(38,AV.ah 51 xs),(39,a (↑(xs.length):Int)),(40,a 0)] [Obj.box 25 (fq ds rs),Obj.row 51 []]=P2 e1/\Fc e1/\ad m 19 15=ad m 19 15/\∃(e0:Xm),letI j:=jA e0.ds e0.rs e0.br (List.drop e0.i e0.gs) e0.all;letI k:=List.length (a8 e0.all);letI e:=List.take k (List.drop 0 (a8 j));Va e1.ds e1.rs i e1.gs e1.br (0:Int) (List.length i)=Mu e0/\Gg e0/\aW (decide (List.length e<=100000)&&decide (gQ e<=1000000000)) (aq (decide ((↑(gQ e):Int)>(↑(e0.br):Int))) s (K (b [AV.ak 0 0 k,a 0]) [qb j]))))))))):=by kernel_rfl
theorem DF{n m L}: ∀f done,(yQ n m L f done).length<=f/\∀g,g∈yQ n m L f done->g.length<=n
 |0,_=>⟨Nat.le_refl _,fun g hg=>(nomatch hg)⟩
 | f+1,done=>by
  rw[yQ];cases decide (gR n m L done<0) with
  |true=>simp
  |false=>
   rw[an7];obtain⟨h1,h2⟩:=DF (n:=n) (m:=m) (L:=L) f (wo done (iy n m L (gR n m L done)));refine⟨by grind,fun g hg=>?_⟩;rcases List.mem_cons.1 hg with rfl|hg
   ·exact Nat.le_trans (List.length_filter_le _ _) (by simp[jR])
   ·exact h2 g hg
structure Q2 where
 ds:List AV
 rs:List AV
 xs:List AV
 all:List RL
 br:Nat
def lY ds rs(all:List _) br:=jA ds rs br (Lg ds rs) (all.map eT)
def kK ds rs xs all br:=bif !decide ((yw ds rs).2=0) then(yw ds rs).2 else bif !nT ds rs xs then 90 else bif decide (br<dd (lY ds rs all br)) then 91 else 0
def FC(x:Q2):List AV×List Dn.Obj:=([fq x.ds x.rs, .ah 51 x.xs, .int x.br],[])
structure nE(x:Q2):Prop where
 s:nW x.ds x.rs
 f:(x.rs.all fj&&gj x.xs)=true
 i:nT x.ds x.rs x.xs=true->InX x.xs x.all
 l:1<=x.br/\x.br<=50
 o:(yw x.ds x.rs).2=0->nT x.ds x.rs x.xs=true->ld x.ds x.rs x.br (x.all.map eT)
def Zs(x:Q2):Out (AV×List Dn.Obj):= .aq (decide (kK x.ds x.rs x.xs x.all x.br=0))
 (.one (.aJ [.ak 0 0 (a8 (lY x.ds x.rs x.all x.br)).length, .int 0],[qb (lY x.ds x.rs x.all x.br)]))
 (.one (.aJ [.nil, .int (kK x.ds x.rs x.xs x.all x.br)],[]))
theorem ld.eval{ds rs br}: ∀gs {all},ld ds rs br all->ld ds rs br (jA ds rs br gs all)
 |[],_,h=>h
 |g::gs,_,h=>ld.eval gs (ld.loop g _ h)
theorem cEv κ:bg (BEf κ).E 12 19 (aO FC nE Zs):=by
 refine aQ ?_;rintro⟨ds,rs,xs,all,br⟩ K hs ho;have hf:=hs.f;have hx:=hs.i;have hl:=hs.l;have hO:=hs.o;simp only at hf hx hl hO;have ho:aq (decide (kK ds rs xs all br=0)) (K (.aJ [.ak 0 0 (a8 (lY ds rs all br)).length, .int 0]) [qb (lY ds rs all br)]) (K (.aJ [.nil, .int (kK ds rs xs all br)]) []):=ho;refine Eq.mpr (yEv κ ds rs xs br K) ⟨(ds,rs),rfl,hs.s,ae.2 ⟨fun e=>?_,fun e=>?_⟩⟩
 ·have e:(yw ds rs).2=0:=of_decide_eq_true e
  unfold kK at ho;rw[an8 e,Bool.not_true,an7] at ho;refine ae.2 ⟨fun c=>?_,fun _=>ae.2 ⟨fun c=>?_,fun _=>ai.2 ⟨hf,ae.2 ⟨fun c=>?_,fun c=>?_⟩⟩⟩⟩
  ·have:=of_decide_eq_true c;omega
  ·have:=of_decide_eq_true c;omega
  ·rw[c] at ho;exact ho
  ·rw[c,an7] at ho
   have hev:=hO e (by simpa using c);have hx:=hx (by simpa using c);have hfin:=ld.eval (Lg ds rs) hev;have hdl:=BJ hev.p;have hg:=DF (n:=ds.length) (m:=so ds rs) (L:=Dh ds rs);have hlen:(a8 (lY ds rs all br)).length=(a8 (all.map eT)).length:=by
    rw[fG,fG,show(lY ds rs all br).length=_ from hfin.A.len,hev.A.len]
   refine⟨rfl,⟨ds,rs,xs,Lg ds rs,br,all,0⟩,rfl,⟨Nat.zero_le _,hx⟩,rfl,⟨ds,rs,Lg ds rs,br,all.map eT,0⟩,rfl,⟨hev,fun g hg2=>Nat.le_trans ((hg _ _).2 g hg2) (by omega),Nat.zero_le _,Nat.le_trans (hg _ _).1 ?_⟩,?_⟩
   ·have:=G6 ds.length []
    omega
   ·have ht:List.take (a8 (all.map eT)).length (List.drop 0 (a8 (lY ds rs all br)))=a8 (lY ds rs all br):=by rw[ao2,←hlen,List.take_length]
    have hal:(a8 (lY ds rs all br)).length<=60:=by rw[fG,show(lY ds rs all br).length=_ from hfin.A.len];exact hdl
    have hn:dd (lY ds rs all br)<=200000:=hfin.n;show aW (decide ((List.take (a8 (all.map eT)).length (List.drop 0 (a8 (lY ds rs all br)))).length<=100000)&&decide (gQ (List.take (a8 (all.map eT)).length (List.drop 0 (a8 (lY ds rs all br))))<=1000000000)) (aq (decide ((gQ (List.take (a8 (all.map eT)).length (List.drop 0 (a8 (lY ds rs all br)))):Int)>br)) (K (.aJ [.nil, .int 91]) []) (K (.aJ [.ak 0 0 (a8 (all.map eT)).length, .int 0]) [qb (lY ds rs all br)]))
    rw[ht,ou];refine ai.2 ⟨by rw[an3,an2,an2];omega,ae.2 ⟨fun c=>?_,fun c=>?_⟩⟩
    ·have c:=of_decide_eq_true c
     rw[an8 (show br<dd (lY ds rs all br) by omega)] at ho;exact ho
    ·have c:=of_decide_eq_false c
     rw[an6 (show ¬ br<dd (lY ds rs all br) by omega),an7,hlen] at ho;exact ho
 ·have e:(yw ds rs).2≠0:=of_decide_eq_false e
  unfold kK at ho;rw[an6 e,Bool.not_false,an9,an6 e] at ho;refine ae.2 ⟨fun _=>ho,fun c=>absurd c (by simpa using e)⟩
noncomputable def US κ:=((BEf κ).call (cEv _)).calm [19]
def An v:=decide (((toStr (af v 2)).size:Int)>1000)
abbrev Qd(x:List _×Nat):=sp 17 [(0, .ah 72 x.1),(3, .int x.2)] []
theorem xLg κ x I n K:(vc (US κ).E 12 30 none 0 (ad (Pr κ).toProgram 30 2) (Qd x) (bh (US κ).E 30 2 0 I n K))=(
 letI a:=(↑(x.2):Int)<(↑(x.1.length):Int)
 aq (decide a) (aW (true&&decide a) (aq (decide ((↑(ByteArray.size (toStr (af (nth x.1 (Int.toNat (↑(x.2):Int))) 2))):Int)>(1000:Int))) (K Exit.ret
 (sp 17 [(2,AV.int 1)] [])) (∃(e0:Nat),e0<n/\I e0 (sp 17 [(0,AV.ah 72 x.1),(3,AV.int (IntKind.wrap IntKind.i64 ((↑(x.2):Int)+(1:Int))))] []))))
 (K (Exit.exit 0) (sp 17 [] []))):=by kernel_rfl
def Yz(x:List AV×Nat):Out (Exit×S):= .aq ((x.1.drop x.2).any An) (.one (.ret,sp 17 [(2, .int 1)] [])) (.one (.exit 0,sp 17 [] []))
theorem lLg κ:aR (US κ).E 12 30 2 (aG 0 Qd (fun x=>x.2<=x.1.length/\x.1.length<=100000000) Yz):=by
 refine aD (fun x=>x.1.length - x.2) ?_;rintro⟨r,i⟩ K ⟨h1,h2⟩ ho;simp only at h1 h2;rw[show(US κ).E.P=Pr κ from rfl];refine Eq.mpr (xLg κ (r,i) _ _ K) ?_;simp only[Int.toNat_natCast];have ho:aq ((r.drop i).any An) (K .ret (sp 17 [(2, .int 1)] [])) (K (.exit 0) (sp 17 [] [])):=ho;rw[ae,an2,an4];refine⟨fun h=>?_,fun h=>?_⟩
 ·have hi:i<r.length:=by omega
  have ho2:=ho;rw[ao3 hi,List.any_cons,←aX r i hi] at ho2;refine ai.2 ⟨by simp;omega,ae.2 ⟨fun e=>?_,fun e=>⟨_,?_,(r,i+1),?_,⟨hi,h2⟩,rfl,?_⟩⟩⟩
  ·rw[show An (nth r i)=true from e] at ho2;exact ho2
  ·simp only;omega
  ·simp only[Qd]
   grind [az]
  ·rw[show An (nth r i)=false from e,Bool.false_or] at ho2;exact ho2
 ·rw[ao0 (by omega)] at ho
  exact ho
noncomputable def Vm κ:=(US κ).loop (lLg _)
theorem yLg κ r K:(a7 (Vm κ).E 12 30 [.ah 72 r] [] K)=(
 letI a:=Pg.toProgram (Env.P (EB.E (US κ)))
 ad a 30 2=ad a 30 2/\∃(e0:List AV×Nat),sp 17 [(0,AV.ah 72 r),(3,AV.int 0)] []=Qd e0/\(e0.2<=e0.1.length/\e0.1.length<=100000000)/\aq
 (List.any (List.drop e0.2 e0.1) An) (K (AV.int 1) []) (K (AV.int 0) [])):=by kernel_rfl
def gLg:List AV->Option (Bool×AV)
 |[.ah 72 r]=>some (decide (r.length<=100000000), .int (bif r.any An then 1 else 0))
 |_=>none
theorem pLg κ:cj (Vm κ).E 12 30 gLg:=by
 intro args x hh;unfold gLg at hh;split at hh
 ·rename_i r
  simp   at hh;obtain⟨h1,rfl⟩:=hh;refine⟨_,rfl,rfl,Eq.mpr (yLg κ r _) ⟨rfl,(r,0),rfl,by grind,?_⟩⟩;rw[ao2];cases r.any _<;>exact rfl
 grind
noncomputable def VN κ:=EB.JB ((Vm κ).pure (pLg _)) [30]
theorem lM{ds rs}(h:nr ds rs=true):nW ds rs:=by
 simp only[nr,an3,an2] at h;obtain⟨_,h1,h2,h3⟩:=h;refine⟨by simp only[aU];omega,by simp only[aU];omega,fun x hx=>?_⟩;have hc:=Ab (rs.map wN) 2000 (by omega) h1 (wN x) (by grind);have e:wN x=aM (ea x):=rfl;rw[e,gM] at hc;refine⟨?_,by omega⟩
 grind [GJ,ea,zW,aM]
structure ALk where
 xs:List AV
 ds:List AV
 rs:List AV
 i:Nat
 n:Nat
 k:Nat
abbrev VX(x:ALk):=sp 91 [(1, .ah 51 x.xs),(2, .ptr 0 0 [] 0),(5, .int x.i),(6, .int x.n),(7, .int x.k)] [.box 25 (fq x.ds x.rs)]
theorem xLk κ x I n K:(vc (VN κ).E 12 12 none 0 (ad (Pr κ).toProgram 12 8) (VX x) (bh (VN κ).E 12 8 0 I n K))=(
 letI a:=IntKind.wrap IntKind.i64
 letI b:=AV.ptr 0 0 []
 letI c:=AV.int
 letI e:=ag (af (nth x.rs (Int.toNat (↑(x.i):Int))) 1)
 letI f:=true&&decide ((↑(x.i):Int)<(↑(x.rs.length):Int))
 letI g:=a ((↑(x.k):Int)+(1:Int))
 letI h:=(↑(x.k):Int)<(↑(List.length e):Int)
 letI d:=fq x.ds x.rs
 aW f (aq (decide h) (aW f (aW (true&&decide h) (aq (toInt (af (nth e (Int.toNat (↑(x.k):Int))) 0)==(1:Int)) (∃(e0:Nat),e0<n/\I e0 (sp 91
 [(1,AV.ah 51 x.xs),(2,b 0),(5,c (↑(x.i):Int)),(6,c (a ((↑(x.n):Int)+(1:Int)))),(7,c g)]
 [Obj.box 25 d])) (∃(e0:Nat),e0<n/\I e0 (sp 91 [(1,AV.ah 51 x.xs),(2,b 0),(5,c (↑(x.i):Int)),(6,c (↑(x.n):Int)),(7,
 c g)] [Obj.box 25 d]))))) (K (Exit.exit 2) (sp 91 [(1,AV.ah 51 x.xs),(2,b 0),(5,c (↑(x.i):Int)),(6,c (↑(x.n):Int))]
 [Obj.box 25 d])))):=by kernel_rfl
def L2(x:ALk):=x.i<x.rs.length/\x.k<=(ag (af (nth x.rs x.i) 1)).length/\(ag (af (nth x.rs x.i) 1)).length<=100000/\x.n<=x.k
def PQ(x:ALk):Out (Exit×S):= .one (.exit 2,sp 91 [(1, .ah 51 x.xs),(2, .ptr 0 0 [] 0),(5, .int x.i),(6, .int (x.n+xp ((ag (af (nth x.rs x.i) 1)).drop x.k):Nat))] [.box 25 (fq x.ds x.rs)])
theorem lLk κ:aR (VN κ).E 12 12 8 (aG 0 VX L2 PQ):=by
 refine aD (fun x=>(ag (af (nth x.rs x.i) 1)).length - x.k) ?_;rintro⟨xs,ds,rs,i,n,k⟩ K ⟨h1,h2,h3,h4⟩ ho;simp only at h1 h2 h3 h4;rw[show(VN κ).E.P=Pr κ from rfl];refine Eq.mpr (xLk κ ⟨xs,ds,rs,i,n,k⟩ _ _ K) ?_;simp only[Int.toNat_natCast];refine ai.2 ⟨by simp;omega,?_⟩;rw[ae,an2,an4];simp only[PQ,Out.run] at ho;refine⟨fun h=>ai.2 ⟨by simp;omega,ai.2 ⟨by simp;omega,?_⟩⟩,fun h=>?_⟩
 ·have hk:k<(ag (af (nth rs i) 1)).length:=by omega
  rw[az (n:=(k:Int)+1) (by omega) (by omega),az (n:=(n:Int)+1) (by omega) (by omega)];have hd:xp ((ag (af (nth rs i) 1)).drop k)=(bif toInt (af (nth (ag (af (nth rs i) 1)) k) 0)==1 then 1 else 0)+xp ((ag (af (nth rs i) 1)).drop (k+1)):=by
   rw[ao3 hk,←aX _ k hk];unfold xp
   grind
  rw[hd] at ho;rw[ae];refine⟨fun e=>?_,fun e=>?_⟩
  ·rw[e,an9] at ho
   refine⟨_,?_,⟨xs,ds,rs,i,n+1,k+1⟩,rfl,⟨h1,hk,h3,by simp only;omega⟩,rfl,?_⟩
   ·simp only;omega
   ·simp only[PQ,Out.run]
    rw[Nat.add_assoc];exact ho
  ·rw[e,an7,Nat.zero_add] at ho
   refine⟨_,?_,⟨xs,ds,rs,i,n,k+1⟩,rfl,⟨h1,hk,h3,by simp only;omega⟩,rfl,ho⟩;simp only;omega
 ·rw[ao0 (by omega)] at ho
  exact ho
noncomputable def UR κ:=(VN κ).loop (lLk _)
abbrev XE xs ds rs(i:Nat):=sp 91 [(1, .ah 51 xs),(2, .ptr 0 0 [] 0),(5, .int i)] [.box 25 (fq ds rs)]
theorem xLr κ xs ds rs i I n K:(vc (UR κ).E 12 12 none 0 (ad (Pr κ).toProgram 12 4) (XE xs ds rs i) (bh (UR κ).E 12 4 0 I n K))=(
 letI a:=AV.int
 letI b:=Pg.toProgram (Env.P (EB.E (VN κ)))
 aq (decide ((↑i:Int)<(↑(rs.length):Int))) (ad b 12 8=ad b 12 8/\∃(e1:ALk),sp 91 [(1,AV.ah 51 xs),(2,AV.ptr 0 0 [] 0),(5,a (↑i:Int)),
 (6,a 0),(7,a 0)] [Obj.box 25 (fq ds rs)]=VX e1/\L2 e1/\aq (decide ((↑(e1.n+xp (List.drop e1.k (ag (af (nth e1.rs e1.i) 1)))):Int)>(3:
 Int))) (K Exit.ret (sp 91 [(4,a 0)] [])) (∃(e0:Nat),e0<n/\I e0 (sp 91 [(1,AV.ah 51 e1.xs),(2,AV.ptr 0 0 [] 0),(5,a (IntKind.wrap
 IntKind.i64 ((↑(e1.i):Int)+(1:Int))))] [Obj.box 25 (fq e1.ds e1.rs)]))) (K (Exit.exit 0) (sp 91 [(1,AV.ah 51 xs)] []))):=by kernel_rfl
structure ALr where
 xs:List AV
 ds:List AV
 rs:List AV
 i:Nat
abbrev TU(x:ALr):=XE x.xs x.ds x.rs x.i
def MG(x:ALr):=x.i<=x.rs.length/\x.rs.length<=100000/\∀r,r∈x.rs->(ag (af r 1)).length<=100000
def NG(x:ALr):Out (Exit×S):= .aq ((x.rs.drop x.i).all Lr) (.one (.exit 0,sp 91 [(1, .ah 51 x.xs)] [])) (.one (.ret,sp 91 [(4, .int 0)] []))
theorem lLr κ:aR (UR κ).E 12 12 4 (aG 0 TU MG NG):=by
 refine aD (fun x=>x.rs.length - x.i) ?_;rintro⟨xs,ds,rs,i⟩ K ⟨h1,h2,h3⟩ ho;simp only at h1 h2 h3;rw[show(UR κ).E.P=Pr κ from rfl];refine Eq.mpr (xLr κ xs ds rs i _ _ K) ?_;simp only[NG,Out.run,ae] at ho;rw[ae,an2,an4];refine⟨fun h=>?_,fun h=>?_⟩
 ·have hk:i<rs.length:=by omega
  have hx:nth rs i∈rs:=by rw[aX _ _ hk];exact List.getElem_mem _
  rw[ao3 hk,←aX _ i hk,List.all_cons] at ho;refine⟨rfl,⟨xs,ds,rs,i,0,0⟩,rfl,⟨hk,Nat.zero_le _,h3 _ hx,Nat.le_refl _⟩,?_⟩;simp only[ao2,Nat.zero_add];rw[az (n:=(i:Int)+1) (by omega) (by omega),ae,an2,an4];refine⟨fun e=>ho.2 ?_,fun e=>⟨_,?_,⟨xs,ds,rs,i+1⟩,rfl,⟨hk,h2,h3⟩,rfl,?_⟩⟩
  ·rw[show Lr (nth rs i)=false from an6 (by omega),Bool.false_and]
  ·simp only;omega
  ·simp only[NG,Out.run,ae]
   rw[show Lr (nth rs i)=true from an8 (by omega),ao8] at ho;exact ho
 ·rw[ao0 (by omega)] at ho
  exact ho.1 rfl
noncomputable def UJ κ:=(UR κ).loop (lLr _)
structure TZ where
 xs:List AV
 n:Nat
 i:Nat
 k:Nat
abbrev QN(x:TZ):=sp 91 [(1, .ah 51 x.xs),(8, .int x.n),(9, .int x.i),(10, .int x.k)] []
theorem xLv κ x I n K:(vc (UJ κ).E 12 12 none 0 (ad (Pr κ).toProgram 12 22) (QN x) (bh (UJ κ).E 12 22 0 I n K))=(
 letI a:=AV.int
 letI b:=ag (nth x.xs (Int.toNat (↑(x.i):Int)))
 letI c:=true&&decide ((↑(x.i):Int)<(↑(x.xs.length):Int))
 letI d:=(↑(x.k):Int)<(↑(List.length b):Int)
 letI e:=ag (nth b (Int.toNat (↑(x.k):Int)))
 aW c (aq (decide d) (aW c (aW (true&&decide d) (aW (decide (List.length e<=100000000)) (aq ((bif List.any e An then(1:Int) else(0:Int))==(1:
 Int)) (K Exit.ret (sp 91 [(4,a 0)] [])) (∃(e0:Nat),e0<n/\I e0 (sp 91 [(1,AV.ah 51 x.xs),(8,a (↑(x.n):Int)),(9,a (↑(x.i):Int)),
 (10,a (IntKind.wrap IntKind.i64 ((↑(x.k):Int)+(1:Int))))] [])))))) (K (Exit.exit 6) (sp 91 [(1,AV.ah 51 x.xs),(8,a (↑(x.n):Int)),(9,
 a (↑(x.i):Int))] [])))):=by kernel_rfl
def Kq r:=(ag r).any An
def Oj(x:TZ):=x.i<x.xs.length/\x.k<=(ag (nth x.xs x.i)).length/\gj x.xs=true
def Xe(x:TZ):Out (Exit×S):= .aq (((ag (nth x.xs x.i)).drop x.k).any Kq) (.one (.ret,sp 91 [(4, .int 0)] [])) (.one (.exit 6,sp 91 [(1, .ah 51 x.xs),(8, .int x.n),(9, .int x.i)] []))
theorem lLv κ:aR (UJ κ).E 12 12 22 (aG 0 QN Oj Xe):=by
 refine aD (fun x=>(ag (nth x.xs x.i)).length - x.k) ?_;rintro⟨xs,n,i,k⟩ K ⟨h1,h2,h3⟩ ho;simp only at h1 h2 h3;rw[show(UJ κ).E.P=Pr κ from rfl];refine Eq.mpr (xLv κ ⟨xs,n,i,k⟩ _ _ K) ?_;simp only[Int.toNat_natCast];have hf:=py h3 i;have hfl:=jV hf;have ho:aq (((ag (nth xs i)).drop k).any Kq) (K .ret (sp 91 [(4, .int 0)] [])) (K (.exit 6) (sp 91 [(1, .ah 51 xs),(8, .int n),(9, .int i)] [])):=ho;refine ai.2 ⟨by simp;omega,?_⟩;rw[ae,an2,an4];refine⟨fun h=>?_,fun h=>?_⟩
 ·have hk:k<(ag (nth xs i)).length:=by omega
  have ho2:=ho;rw[ao3 hk,List.any_cons,←aX _ k hk] at ho2;refine ai.2 ⟨by simp;omega,ai.2 ⟨by simp;omega,ai.2 ⟨an8 (lS hf k),?_⟩⟩⟩;cases e:(ag (nth (ag (nth xs i)) k)).any An with
  |true=>
   rw[show Kq (nth (ag (nth xs i)) k)=true from e] at ho2;exact ho2
  | false=>
   rw[show Kq (nth (ag (nth xs i)) k)=false from e,Bool.false_or] at ho2;refine⟨_,?_,⟨xs,n,i,k+1⟩,?_,⟨h1,hk,h3⟩,rfl,ho2⟩
   ·simp only;omega
   ·simp only[QN]
    rw[az (n:=(k:Int)+1) (by omega) (by omega)];rfl
 ·rw[ao0 (by omega)] at ho
  exact ho
noncomputable def Wr κ:=(UJ κ).loop (lLv _)
abbrev R3(x:TZ):=sp 91 [(1, .ah 51 x.xs),(8, .int x.n),(9, .int x.i)] []
theorem xLw κ x I n K:(vc (Wr κ).E 12 12 none 0 (ad (Pr κ).toProgram 12 16) (R3 x) (bh (Wr κ).E 12 16 0 I n K))=(
 letI a:=IntKind.wrap IntKind.i64
 letI b:=AV.int
 letI c:=(↑(x.n):Int)+(↑(List.length (ag (nth x.xs (Int.toNat (↑(x.i):Int))))):Int)
 letI d:=(↑(x.i):Int)<(↑(x.xs.length):Int)
 letI e:=K Exit.ret (sp 91 [(4,b 0)] [])
 letI f:=Pg.toProgram (Env.P (EB.E (UJ κ)))
 aq (decide d) (aW (true&&decide d) (aq (decide (a c>(20:Int))) e (ad f 12 22=ad f 12 22/\∃(e1:TZ),sp 91 [(1,AV.ah 51
 x.xs),(8,b (a c)),(9,b (↑(x.i):Int)),(10,b 0)] []=QN e1/\Oj e1/\aq (List.any (List.drop e1.k (ag (nth e1.xs
 e1.i))) Kq) e (∃(e0:Nat),e0<n/\I e0 (sp 91 [(1,AV.ah 51 e1.xs),(8,b (↑(e1.n):Int)),(9,b (a ((↑(e1.i):Int)+(1
 :Int))))] []))))) (K (Exit.exit 4) (sp 91 [] []))):=by kernel_rfl
def Bb:List AV->Nat->Bool
 |[],_=>true
 |x::xs,n=>decide (n+(ag x).length<=20)&&(!(ag x).any Kq&&Bb xs (n+(ag x).length))
def LH(x:TZ):=x.i<=x.xs.length/\x.n<=20/\gj x.xs=true
def Y5(x:TZ):Out (Exit×S):= .aq (Bb (x.xs.drop x.i) x.n) (.one (.exit 4,sp 91 [] [])) (.one (.ret,sp 91 [(4, .int 0)] []))
theorem lLw κ:aR (Wr κ).E 12 12 16 (aG 0 R3 LH Y5):=by
 refine aD (fun x=>x.xs.length - x.i) ?_;rintro⟨xs,n,i,k⟩ K ⟨h1,h2,h3⟩ ho;simp only at h1 h2 h3;rw[show(Wr κ).E.P=Pr κ from rfl];refine Eq.mpr (xLw κ ⟨xs,n,i,k⟩ _ _ K) ?_;simp only[Int.toNat_natCast];have hf:=py h3 i;have hfl:=jV hf;have hxl:xs.length<=100000000:=by simp only[gj,an3,an2] at h3;exact h3.1
 have ho:aq (Bb (xs.drop i) n) (K (.exit 4) (sp 91 [] [])) (K .ret (sp 91 [(4, .int 0)] [])):=ho;rw[ae,an2,an4];refine⟨fun h=>?_,fun h=>?_⟩
 ·have hk:i<xs.length:=by omega
  have ho2:=ho;rw[ao3 hk,←aX xs i hk,Bb] at ho2;have hw:=az (n:=(n:Int)+(ag (nth xs i)).length) (by omega) (by omega);refine ai.2 ⟨by simp;omega,ae.2 ⟨fun c=>?_,fun c=>⟨trivial,⟨xs,n+(ag (nth xs i)).length,i,0⟩,by rw[hw];rfl,⟨hk,Nat.zero_le _,h3⟩,?_⟩⟩⟩
  all_goals
   have c0:=c
   first
   |have c:=of_decide_eq_true c0
    rw[hw] at c
   |have c:=of_decide_eq_false c0
    rw[hw] at c
  ·rw[an6 (show ¬ n+(ag (nth xs i)).length<=20 by omega),Bool.false_and] at ho2
   exact ho2
  ·rw[an8 (show n+(ag (nth xs i)).length<=20 by omega),ao8] at ho2
   simp only[ao2];rw[ae];refine⟨fun e=>?_,fun e=>?_⟩
   ·rw[e] at ho2;exact ho2
   ·rw[e,Bool.not_false,ao8] at ho2
    refine⟨_,?_,⟨xs,n+(ag (nth xs i)).length,i+1,k⟩,?_,⟨hk,by simp only;omega,h3⟩,rfl,ho2⟩
    ·simp only;omega
    ·simp only[R3]
     rw[az (n:=(i:Int)+1) (by omega) (by omega)];rfl
 ·rw[ao0 (by omega)] at ho
  exact ho
noncomputable def BLw κ:=(Wr κ).loop (lLw _)
theorem yLw κ ds rs xs K:(a7 (BLw κ).E 12 12 [fq ds rs, .ah 51 xs] [] K)=(
 letI a:=AV.int
 letI b:=Pg.toProgram (Env.P (EB.E (UR κ)))
 letI c:=Pg.toProgram (Env.P (EB.E (Wr κ)))
 aW (decide (ds.length<=9223372036854775807)&&List.all ds fun(e0:AV)=>decide (List.length (ag (af e0 1))<=9223372036854775807)) (aq ((bif nr ds rs then
 (1:Int) else(0:Int))==(0:Int)) (K (a 0) []) (aq (decide ((↑(rs.length):Int)>(8:Int))) (K (a 0) []) (aq (decide ((↑(xs.length):Int)>
 (60:Int))) (K (a 0) []) (ad b 12 4=ad b 12 4/\∃(e1:ALr),sp 91 [(1,AV.ah 51 xs),(2,AV.ptr 0 0 [] 0),(5,a 0)] [Obj.box 25 (fq ds rs)]=
 TU e1/\MG e1/\aq (List.all (List.drop e1.i e1.rs) Lr) (ad c 12 16=ad c 12 16/\∃(e0:TZ),sp 91 [(1,AV.ah 51 e1.xs),(8,a 0),(9,a 0)] []=
 R3 e0/\LH e0/\aq (Bb (List.drop e0.i e0.xs) e0.n) (K (a 1) []) (K (a 0) [])) (K (a 0) [])))))):=by kernel_rfl
def oL ds rs xs:=nr ds rs&&(decide (rs.length<=8)&&(decide (xs.length<=60)&&(rs.all Lr&&Bb xs 0)))
def gLw:List AV->Option (Bool×AV)
 |[.agg [.ah 43 ds, .ah 48 rs], .ah 51 xs]=>some (decide (ds.length<=aU)&&ds.all (fun d=>decide ((ag (af d 1)).length<=aU))&&gj xs, .int (bif oL ds rs xs then 1 else 0))
 |_=>none
theorem pLw κ:cj (BLw κ).E 12 12 gLw:=by
 intro args x hh;unfold gLw at hh;split at hh
 ·rename_i ds rs xs
  simp only[an5,ao1] at hh;obtain⟨h1,rfl⟩:=hh;rw[an3] at h1;obtain⟨h1,hX⟩:=h1;refine⟨_,rfl,rfl,?_⟩;refine Eq.mpr (yLw κ ds rs xs _) ?_;refine ai.2 ⟨h1,?_⟩;unfold oL;cases hs:nr ds rs with
  |false=>exact rfl
  | true=>
   rw[ao8];refine ae.2 ⟨fun e=>absurd e (by decide),fun _=>?_⟩;rw[ae,an2,an4];refine⟨fun e=>?_,fun e=>?_⟩
   ·rw[an6 (show ¬ rs.length<=8 by omega)];rfl
   ·rw[an8 (show rs.length<=8 by omega),ao8]
    rw[ae,an2,an4];refine⟨fun e=>?_,fun e=>⟨rfl,⟨xs,ds,rs,0⟩,rfl,⟨Nat.zero_le _,by show rs.length<=100000;omega,fun r hr=>(lM hs).2.2 r hr|>.2⟩,?_⟩⟩
    ·rw[an6 (show ¬ xs.length<=60 by omega)];rfl
    ·rw[an8 (show xs.length<=60 by omega),ao8,ao2]
     rw[ae];refine⟨fun e2=>⟨rfl,⟨xs,0,0,0⟩,rfl,⟨Nat.zero_le _,Nat.zero_le _,hX⟩,?_⟩,fun e2=>?_⟩
     ·rw[e2,ao8,ao2]
      cases Bb xs 0<;>exact rfl
     ·rw[e2];rfl
 ·cases hh
noncomputable def WZ κ:=(BLw κ).pure (pLw _)
end Go.Proofs.YtioeffnadipbaaaGreatDoor
namespace Go.Proofs.YtioeffnadipbaaaGreatDoor
open Go Go.Dn Go.Rl Go.Proofs
attribute [local irreducible] a7 vc
set_option maxRecDepth 20000
structure Lm where
 A:List AV
 i:Nat
 k:Nat
abbrev Rm(x:Lm):=sp 53 [(0, .ah 70 x.A),(1, .ah 70 x.A),(5, .int x.i),(6, .int x.k)] []
theorem xSe κ x I n K:(vc (WZ κ).E 12 16 none 0 (ad (Pr κ).toProgram 16 9) (Rm x) (bh (WZ κ).E 16 9 0 I n K))=(
 letI b:=true&&decide ((↑(x.i):Int)<(↑(x.A.length):Int))
 letI d:=ag (nth x.A (Int.toNat (↑(x.i):Int)))
 letI a:=nth d (Int.toNat (↑(x.k):Int))
 letI c:=(↑(x.k):Int)<(↑(List.length d):Int)
 aW b (aq (decide c) (aW b (aW (true&&decide c) (aW b (aW (true&&decide c) (aq (!(Dn.toBool (af a 0)==Dn.toBool (af a 0)&&(toInt (af a 1)==
 toInt (af a 1)&&(ByteArray.toList (toStr (af a 2))==ByteArray.toList (toStr (af a 2))&&true)))) (K Exit.ret (sp 53 [(4,AV.bool false)] [])) (∃(e0:
 Nat),e0<n/\I e0 (sp 53 [(0,AV.ah 70 x.A),(1,AV.ah 70 x.A),(5,AV.int (↑(x.i):Int)),(6,AV.int (IntKind.wrap IntKind.i64 ((↑(x.k):Int)+(1:
 Int))))] []))))))) (K (Exit.exit 2) (sp 53 [(0,AV.ah 70 x.A),(1,AV.ah 70 x.A),(5,AV.int (↑(x.i):Int))] [])))):=by kernel_rfl
def OQ(x:Lm):=x.i<x.A.length/\x.k<=(ag (nth x.A x.i)).length/\(ag (nth x.A x.i)).length<=100000000
def Y0(x:Lm):Out (Exit×S):= .one (.exit 2,sp 53 [(0, .ah 70 x.A),(1, .ah 70 x.A),(5, .int x.i)] [])
theorem lSe κ:aR (WZ κ).E 12 16 9 (aG 0 Rm OQ Y0):=by
 refine aD (fun x=>(ag (nth x.A x.i)).length - x.k) ?_;rintro⟨A,i,k⟩ K ⟨h1,h2,h3⟩ ho;simp only at h1 h2 h3;refine Eq.mpr (xSe κ ⟨A,i,k⟩ _ _ K) ?_;simp only[Int.toNat_natCast,beq_self_eq_true,Bool.and_self,Bool.not_true];have c1:(true&&decide ((i:Int)<(A.length:Int)))=true:=by simp;omega
 refine ai.2 ⟨c1,?_⟩;rw[ae,an2,an4];refine⟨fun h=>?_,fun h=>ho⟩;have c2:(true&&decide ((k:Int)<((ag (nth A i)).length:Int)))=true:=by simp;omega
 refine ai.2 ⟨c1,ai.2 ⟨c2,ai.2 ⟨c1,ai.2 ⟨c2,_,?_,⟨A,i,k+1⟩,?_,⟨h1,by simp only;omega,h3⟩,rfl,ho⟩⟩⟩⟩
 ·simp only;omega
 ·simp only[Rm]
  grind [az]
noncomputable def W7 κ:=(WZ κ).loop (lSe _)
abbrev PL(x:Lm):=sp 53 [(0, .ah 70 x.A),(1, .ah 70 x.A),(5, .int x.i)] []
theorem xSf κ x I n K:(vc (W7 κ).E 12 16 none 0 (ad (Pr κ).toProgram 16 4) (PL x) (bh (W7 κ).E 16 4 0 I n K))=(
 letI a:=(↑(x.i):Int)<(↑(x.A.length):Int)
 letI b:=List.length (ag (nth x.A (Int.toNat (↑(x.i):Int))))
 letI c:=Pg.toProgram (Env.P (EB.E (WZ κ)))
 aq (decide a) (aW (true&&decide a) (aW (true&&decide a) (aq ((↑b:Int) != (↑b:Int)) (K Exit.ret (sp 53 [(4,AV.bool false)] [])) (ad c 16 9=ad c
 16 9/\∃(e1:Lm),sp 53 [(0,AV.ah 70 x.A),(1,AV.ah 70 x.A),(5,AV.int (↑(x.i):Int)),(6,AV.int 0)] []=Rm e1/\OQ e1/\∃(e0:Nat),e0<n/\I e0 (sp
 53 [(0,AV.ah 70 e1.A),(1,AV.ah 70 e1.A),(5,AV.int (IntKind.wrap IntKind.i64 ((↑(e1.i):Int)+(1:Int))))] []))))) (K (Exit.exit 0) (sp 53 [] []))):=by kernel_rfl
def Gh(x:Lm):=x.i<=x.A.length/\fD x.A=true
def SU(_:Lm):Out (Exit×S):= .one (.exit 0,sp 53 [] [])
theorem lSf κ:aR (W7 κ).E 12 16 4 (aG 0 PL Gh SU):=by
 refine aD (fun x=>x.A.length - x.i) ?_;rintro⟨A,i,k⟩ K ⟨h1,h2⟩ ho;simp only at h1 h2;refine Eq.mpr (xSf κ ⟨A,i,k⟩ _ _ K) ?_;simp only[Int.toNat_natCast,bne_self_eq_false];have hA:=jV h2;rw[ae,an2,an4];refine⟨fun h=>?_,fun h=>ho⟩;have c1:(true&&decide ((i:Int)<(A.length:Int)))=true:=by simp;omega
 have fin: ∃m,m<A.length - i/\ei PL Gh SU (fun x=>x.A.length - x.i) K m (sp 53 [(0, .ah 70 A),(1, .ah 70 A),(5, .int (IntKind.wrap .i64 ((i:Int)+1)))] []):=by
  refine⟨_,?_,⟨A,i+1,k⟩,?_,⟨by simp only;omega,h2⟩,rfl,ho⟩
  ·simp only;omega
  ·simp only[PL]
   grind [az]
 exact ai.2 ⟨c1,ai.2 ⟨c1,trivial,⟨A,i,0⟩,rfl,⟨by simp only;omega,Nat.zero_le _,lS h2 i⟩,fin⟩⟩
noncomputable def BSf κ:=(W7 κ).loop (lSf _)
theorem ySf κ A K:(a7 (BSf κ).E 12 16 [.ah 70 A, .ah 70 A] [] K)=(
 letI a:=Pg.toProgram (Env.P (EB.E (W7 κ)))
 aq ((↑(A.length):Int) != (↑(A.length):Int)) (K (AV.bool false) []) (ad a 16 4=ad a 16 4/\∃(e0:Lm),sp 53 [(0,AV.ah 70 A),(1,AV.ah 70 A),(5,
 AV.int 0)] []=PL e0/\Gh e0/\K (AV.bool true) [])):=by kernel_rfl
def La(A:List AV):List AV×List Dn.Obj:=([.ah 70 A, .ah 70 A],[])
def Tf(_:List AV):Out (AV×List Dn.Obj):= .one (.bool true,[])
theorem cS8 κ:bg (BSf κ).E 12 16 (aO La (fun A=>fD A=true) Tf):=by
 refine aQ ?_;intro A K h ho;refine Eq.mpr (ySf _ A K) ?_;simp only[bne_self_eq_false];exact⟨trivial,⟨A,0,0⟩,rfl,⟨Nat.zero_le _,h⟩,ho⟩
noncomputable def WY κ:=(BSf κ).call (cS8 _)
abbrev Sl(x:Lm):=sp 29 [(0, .ah 51 x.A),(1, .ah 51 x.A),(5, .int x.i)] []
theorem xSg κ x I n K:(vc (WY κ).E 12 20 none 0 (ad (Pr κ).toProgram 20 4) (Sl x) (bh (WY κ).E 20 4 0 I n K))=(
 letI a:=(↑(x.i):Int)<(↑(x.A.length):Int)
 letI b:=ag (nth x.A (Int.toNat (↑(x.i):Int)))
 aq (decide a) (aW (true&&decide a) (aW (true&&decide a) (∃(e1:List AV),([AV.ah 70 b,AV.ah 70 b],[])=La e1/\fD e1=true/\∃(e0:Nat),e0<n
 /\I e0 (sp 29 [(0,AV.ah 51 x.A),(1,AV.ah 51 x.A),(5,AV.int (IntKind.wrap IntKind.i64 ((↑(x.i):Int)+(1:Int))))] [])))) (K (Exit.exit 0) (sp 29 [] []))):=by kernel_rfl
def Pw(x:Lm):=x.i<=x.A.length/\gj x.A=true
def Xp(_:Lm):Out (Exit×S):= .one (.exit 0,sp 29 [] [])
theorem lSg κ:aR (WY κ).E 12 20 4 (aG 0 Sl Pw Xp):=by
 refine aD (fun x=>x.A.length - x.i) ?_;rintro⟨A,i,k⟩ K ⟨h1,h2⟩ ho;refine Eq.mpr (xSg κ ⟨A,i,k⟩ _ _ K) ?_;simp only;have hA:=by simp only[gj,an3] at h2;exact h2.1
 rw[ae,an2];refine⟨fun h=>?_,fun h=>ho⟩;have c1:(true&&decide ((i:Int)<(A.length:Int)))=true:=by simp;omega
 refine ai.2 ⟨c1,ai.2 ⟨c1,_,rfl,py h2 i,_,?_,⟨A,i+1,k⟩,?_,⟨by simp only;omega,h2⟩,rfl,ho⟩⟩
 ·simp only;omega
 ·simp only[Sl]
  grind [az]
noncomputable def BSg κ:=(WY κ).loop (lSg _)
theorem ySg κ A K:(a7 (BSg κ).E 12 20 [.ah 51 A, .ah 51 A] [] K)=(
 letI a:=Pg.toProgram (Env.P (EB.E (WY κ)))
 aq ((↑(A.length):Int) != (↑(A.length):Int)) (K (AV.bool false) []) (ad a 20 4=ad a 20 4/\∃(e0:Lm),sp 29 [(0,AV.ah 51 A),(1,AV.ah 51 A),(5,
 AV.int 0)] []=Sl e0/\Pw e0/\K (AV.bool true) [])):=by kernel_rfl
def Mn(A:List AV):List AV×List Dn.Obj:=([.ah 51 A, .ah 51 A],[])
theorem cS9 κ:bg (BSg κ).E 12 20 (aO Mn (fun A=>gj A=true) Tf):=by
 refine aQ ?_;intro A K h ho;refine Eq.mpr (ySg _ A K) ?_;simp only[bne_self_eq_false];exact⟨trivial,⟨A,0,0⟩,rfl,⟨Nat.zero_le _,h⟩,ho⟩
noncomputable def BS9 κ:=(BSg κ).call (cS9 _)
abbrev Ym(c:UInt8):AV:= .lit (.string (ByteArray.mk #[c]))
abbrev vP(c:UInt8):AV:= .agg [.int 1,Ym c, .int 0, .nil]
abbrev zP:AV:= .agg [.int 0, .lit (.string (ByteArray.mk #[])), .int 0, .nil]
abbrev dP(c:UInt8):AV:= .agg [Ym c, .ah 9 [Ym 97,Ym 98], .ah 3 [.int 1, .int 1], .bool false, .bool false, .int 0]
abbrev aP(r a b:UInt8):AV:= .agg [Ym r, .ah 38 [vP a,vP b]]
abbrev lP(r a b:UInt8):AV:= .agg [.int 1,aP r a b,zP,zP]
abbrev Fe:List AV:=[dP 101,dP 112]
abbrev FL:List AV:=[.agg [aP 112 120 121, .ah 80 [lP 101 120 121], .int 0], .agg [aP 112 120 122, .ah 80 [lP 112 120 121,lP 101 121 122], .int 0]]
abbrev rP(a b:Int):List AV:=[.agg [.bool false, .int a, .lit (.string (ByteArray.mk #[]))], .agg [.bool false, .int b, .lit (.string (ByteArray.mk #[]))]]
abbrev PW:List AV:=[.ah 70 [.ah 72 (rP 1 2), .ah 72 (rP 2 3)], .nil]
abbrev TG:List AV:=[.ah 72 (rP 1 2), .ah 72 (rP 1 3), .ah 72 (rP 2 3)]
theorem al1 κ a b K:(a7 (BS9 κ).E 12 40 [.int a, .int b] [] K)=(
 K (AV.ah 72 (rP a b)) []):=by kernel_rfl
def Ya:List AV->Option (Bool×AV)
 |[.int a, .int b]=>some (true, .ah 72 (rP a b))
 |_=>none
theorem ai6 κ:A1 (BS9 κ).E 12 40 Ya:=by
 intro args x hh;unfold Ya at hh;split at hh
 ·rename_i a b
  simp   at hh;subst hh;exact⟨rfl,Eq.mpr (al1 _ a b _) rfl⟩
 grind
noncomputable def V3 κ:=EB.inline (EB.JB ((BS9 κ).fresh (ai6 _)) [40]) [41,83]
theorem ySx κ K:(a7 (V3 κ).E 12 17 [] [] K)=(
 letI a:=AV.ah
 letI c:=AV.bool false
 letI b:=(K c []/\K c [])/\K c []
 letI e:=AV.bool true
 ∃(e2:Q2),letI d:=a8 (lY e2.ds e2.rs e2.all e2.br);letI f:=[a 70 (ag (nth d 1)),a 70 TG];letI g:=∃(e0:List AV),(f,[])=La e0/\fD e0=true/\K e [];letI h:=true&&decide ((1:Int)<(↑(List.length d):Int));letI i:=kK e2.ds e2.rs e2.xs e2.all e2.br==(0:Int);([AV.agg [a 43 Fe,a 48 FL],a 51 PW,AV.int 5],[])=FC e2/\nE e2/\aq (decide (kK e2.ds e2.rs e2.xs e2.all e2.br=(0:Int))) (∃(e1:Q2),([AV.agg [a 43 Fe,a 48 FL],a 51 PW,AV.int 4],[])=FC e1/\nE e1/\aq (decide (kK e1.ds e1.rs e1.xs e1.all e1.br=(0:Int))) b (aq (kK e1.ds e1.rs e1.xs e1.all e1.br==(91:Int)) (aq ((↑(List.length d):Int)==(2:Int)) (aW h (g/\∃(e0:List AV),(f,[])=La e0/\fD e0=true/\K e [])/\aW h g) b) b)) (∃(e0:Q2),([AV.agg [a 43 Fe,a 48 FL],a 51 PW,AV.int 4],[])=FC e0/\nE e0/\aq (decide (kK e0.ds e0.rs e0.xs e0.all e0.br=(0:Int))) (aq i b b) (aq i (aq (kK e0.ds e0.rs e0.xs e0.all e0.br==(91:Int)) b b) b))):=by kernel_rfl
abbrev rr:List RL:=[[rP 1 2,rP 2 3],[]]
theorem QF:nr Fe FL=true:=by kernel_rfl
theorem prP:nM Fe FL:=⟨lM QF,by kernel_rfl⟩
theorem NW a b:u9 (rP a b):=fun v hv=>by
 rcases List.mem_cons.1 hv with rfl|hv
 ·exact⟨rfl,rfl⟩
 ·rcases List.mem_cons.1 hv with rfl|hv
  ·exact⟨rfl,rfl⟩
  grind
theorem Xh: ∀L,L∈rr->xe L:=fun L hL=>by
 rcases List.mem_cons.1 hL with rfl|hL
 ·refine⟨by decide,fun r hr=>?_,fun r hr=>?_⟩
  ·grind
  ·rcases List.mem_cons.1 hr with rfl|hr
   ·exact NW 1 2
   simp_all[NW]
 ·rcases List.mem_cons.1 hL with rfl|hL
  ·exact⟨Nat.zero_le _,by simp,fun r hr=>(nomatch hr)⟩
  ·cases hL
theorem oa:InX PW rr:=⟨rfl,by simp,fun i=>by
 match i with
 |0=>rfl
 |1=>rfl
 |i+2=>rfl,Xh⟩
theorem evP br(h:br<=50):ld Fe FL br (rr.map eT):=by
 have hs:rr.map eT=rr:=by kernel_rfl
 rw[hs];refine⟨prP,⟨rfl,fun L hL=>(Xh L hL).v,fun L hL=>?_,fun i r hr=>?_⟩,fun r hr=>?_,h,by decide⟩
 ·rcases List.mem_cons.1 hL with rfl|hL
  ·kernel_rfl
  ·rcases List.mem_cons.1 hL with rfl|hL
   ·rfl
   ·cases hL
 ·match i,hr with
  | 0,hr=>
   rcases List.mem_cons.1 hr with rfl|hr
   ·rfl
   ·rcases List.mem_cons.1 hr with rfl|hr
    ·rfl
    ·cases hr
  |1,hr=>cases hr
  |i+2,hr=>cases hr
 ·rcases List.mem_cons.1 hr with rfl|hr
  ·kernel_rfl
  ·rcases List.mem_cons.1 hr with rfl|hr
   ·kernel_rfl
   ·cases hr
theorem Ly br(h1:1<=br)(h:br<=50):nE ⟨Fe,FL,PW,rr,br⟩:=
 ⟨prP.s,by rfl,fun _=>oa,⟨h1,h⟩,fun _ _=>evP _ h⟩
theorem e5:kK Fe FL PW rr 5=0:=by kernel_rfl
theorem e4:kK Fe FL PW rr 4=91:=by kernel_rfl
theorem r5:a8 (lY Fe FL rr 5)=[.ah 70 (rws [rP 1 2,rP 2 3]), .ah 70 TG]:=by kernel_rfl
def ZA(_:Unit):List AV×List Dn.Obj:=([],[])
def ab6(_:Unit):Out (AV×List Dn.Obj):= .one (.bool true,[])
theorem cSx κ:bg (V3 κ).E 12 17 (aO ZA (fun _=>True) ab6):=by
 refine aQ ?_;rintro⟨⟩ K _ ho
 replace ho:K (.bool true) []:=ho
 refine Eq.mpr (ySx κ K) ⟨⟨Fe,FL,PW,rr,5⟩,rfl,Ly 5 (by decide) (by decide),?_⟩;refine ae.2 ⟨fun _=>⟨⟨Fe,FL,PW,rr,4⟩,rfl,Ly 4 (by decide) (by decide),ae.2 ⟨fun e=>?_,fun _=>ae.2 ⟨fun _=>?_,fun e=>?_⟩⟩⟩,fun e=>?_⟩
 ·rw[e4] at e;cases e
 ·have r6:([AV.ah 70 (ag (nth (a8 (lY Fe FL rr 5)) 1)),AV.ah 70 TG],[])=La TG:=by rw[r5];rfl
  have hf:fD TG=true:=by kernel_rfl
  have hc:(true&&decide ((1:Int)<((a8 (lY Fe FL rr 5)).length:Int)))=true:=by rw[r5];rfl
  refine ae.2 ⟨fun _=>⟨ai.2 (by grind),ai.2 ⟨hc,TG,r6,hf,ho⟩⟩,fun e=>?_⟩;rw[r5] at e;cases e
 ·rw[e4] at e;cases e
 ·have e: ¬ kK Fe FL PW rr 5=0:=of_decide_eq_false e
  exact absurd e5 e
noncomputable def JC κ:=(V3 κ).call (cSx _)
structure Wn where
 R:List RL
 br:Int
 i:Nat
abbrev Gt(x:Wn):=sp 87 [(2, .int x.br),(7, .bool true),(8, .ak 0 0 (a8 x.R).length),(10, .ak 1 0 (a8 x.R).length),(11, .int 0),(12, .int (gQ ((a8 x.R).take x.i))),(13, .int x.i)] [qb x.R,qb x.R]
theorem xLm κ x I n K:(vc (JC κ).E 12 6 none 0 (ad (Pr κ).toProgram 6 10) (Gt x) (bh (JC κ).E 6 10 0 I n K))=(
 letI a:=IntKind.wrap IntKind.i64
 letI b:=AV.int
 letI c:=List.length (a8 x.R)
 letI d:=(↑(x.i):Int)<(↑c:Int)
 letI e:=gQ (List.take x.i (a8 x.R))
 aq (decide d) (aW (true&&decide d) (∃(e0:Nat),e0<n/\I e0 (sp 87 [(2,b x.br),(7,AV.bool true),(8,AV.ak 0 0 c),(10,AV.ak 1 0 c),(11,
 b 0),(12,b (a ((↑e:Int)+(↑(List.length (ag (nth (a8 x.R) (0+Int.toNat (↑(x.i):Int))))):Int)))),(13,b
 (a ((↑(x.i):Int)+(1:Int))))] [qb x.R,qb x.R]))) (K (Exit.exit 0) (sp 87 [(2,b x.br),(7,AV.bool true),(8,AV.ak 0 0 c),
 (10,AV.ak 1 0 c),(11,b 0),(12,b (↑e:Int))] [qb x.R,qb x.R]))):=by kernel_rfl
def xL(x:Wn):=x.i<=x.R.length/\x.R.length<=100000/\dd x.R<=200000
def ab9(x:Wn):Out (Exit×S):= .one (.exit 0,sp 87 [(2, .int x.br),(7, .bool true),(8, .ak 0 0 (a8 x.R).length),(10, .ak 1 0 (a8 x.R).length),(11, .int 0),(12, .int (dd x.R))] [qb x.R,qb x.R])
theorem lLm κ:aR (JC κ).E 12 6 10 (aG 0 Gt xL ab9):=by
 refine aD (fun x=>x.R.length - x.i) ?_;rintro⟨R,br,i⟩ K ⟨h1,h2,h3⟩ ho;simp only at h1 h2 h3;rw[show(JC κ).E.P=Pr κ from rfl];refine Eq.mpr (xLm κ ⟨R,br,i⟩ _ _ K) ?_;simp only[Int.toNat_natCast,Nat.zero_add];have hl:=fG R;rw[ae,an2,an4];refine⟨fun h=>?_,fun h=>?_⟩
 ·have hi:i<(a8 R).length:=by omega
  have hs:gQ ((a8 R).take (i+1))=gQ ((a8 R).take i)+(ag (nth (a8 R) i)).length:=by
   rw[List.take_add_one,sG,aX _ i hi,ao6 hi];simp[gQ]
  have hle:gQ ((a8 R).take (i+1))<=dd R:=by
   have:=sG ((a8 R).take (i+1)) ((a8 R).drop (i+1))
   rw[List.take_append_drop,ou] at this;omega
  refine ai.2 ⟨by simp;omega,_,?_,⟨R,br,i+1⟩,?_,⟨by simp only;omega,h2,h3⟩,rfl,ho⟩
  ·simp only;omega
  ·simp only[Gt]
   rw[az (n:=(i:Int)+1) (by omega) (by omega),az  (by omega) (by omega),hs];rfl
 ·have ht:(a8 R).take i=a8 R:=List.take_of_length_le (by omega)
  simp only[ht,ou];exact ho
noncomputable def BLm κ:=(JC κ).loop (lLm _)
theorem yLm κ ds rs xs br K:(a7 (BLm κ).E 12 6 [fq ds rs, .ah 51 xs, .int br] [] K)=(
 letI a:=AV.int
 letI b:=AV.bool
 letI c:=AV.ah
 letI d:=Pg.toProgram (Env.P (EB.E (JC κ)))
 letI h:=IntKind.wrap IntKind.i64 (br+(1:Int))
 ∃(e4:Unit),([],[])=ZA e4/\True/\aW ((decide (ds.length<=9223372036854775807)&&List.all ds fun(e0:AV)=>decide (List.length (ag (af e0 1))<=9223372036854775807))&&gj xs) (aq ((bif oL ds rs xs then(1:Int) else(0:Int))==(0:Int)) (K (b true) []) (aq (decide (br<(1:Int))) (K (b true) []) (aq (decide (br>(19:Int))) (K (b true) []) (∃(e3:Q2),letI g:=lY e3.ds e3.rs e3.all e3.br;letI i:=kK e3.ds e3.rs e3.xs e3.all e3.br==(91:Int);letI j:=kK e3.ds e3.rs e3.xs e3.all e3.br != (0:Int);([fq ds rs,c 51 xs,a br],[])=FC e3/\nE e3/\aq (decide (kK e3.ds e3.rs e3.xs e3.all e3.br=(0:Int))) (∃(e2:Q2),letI k:=lY e2.ds e2.rs e2.all e2.br;([fq ds rs,c 51 xs,a h],[])=FC e2/\nE e2/\aq (decide (kK e2.ds e2.rs e2.xs e2.all e2.br=(0:Int))) (ad d 6 10=ad d 6 10/\∃(e1:Wn),letI l:=List.take (List.length (a8 e1.R)) (List.drop 0 (a8 e1.R));sp 87 [(2,a br),(7,b true),(8,AV.ak 0 0 (List.length (a8 g))),(10,AV.ak 1 0 (List.length (a8 k))),(11,a 0),(12,a 0),(13,a 0)] [qb g,qb k]=Gt e1/\xL e1/\aq (decide ((↑(dd e1.R):Int)<=e1.br)) (∃(e0:List AV),([c 51 l,c 51 l],[])=Mn e0/\gj e0=true/\K (b true) []) (K (b false) [])) (ad d 6 10=ad d 6 10/\∃(e1:Wn),letI m:=List.take (List.length (a8 e1.R)) (List.drop 0 (a8 e1.R));sp 87 [(2,a br),(7,b true),(8,AV.ak 0 0 (List.length (a8 g))),(10,AV.nil),(11,a (kK e2.ds e2.rs e2.xs e2.all e2.br)),(12,a 0),(13,a 0)] [qb g]=Gt e1/\xL e1/\aq (decide ((↑(dd e1.R):Int)<=e1.br)) (∃(e0:List AV),([c 51 m,c 51 m],[])=Mn e0/\gj e0=true/\K (b true) []) (K (b false) []))) (∃(e2:Q2),letI n:=lY e2.ds e2.rs e2.all e2.br;([fq ds rs,c 51 xs,a h],[])=FC e2/\nE e2/\aq (decide (kK e2.ds e2.rs e2.xs e2.all e2.br=(0:Int))) (aq j (aq (kK e3.ds e3.rs e3.xs e3.all e3.br==(0:Int)) (K (b true) []) (aq i (K (b true) []) (K (b false) []))) (ad d 6 10=ad d 6 10/\∃(e1:Wn),letI e:=List.take (List.length (a8 e1.R)) (List.drop 0 (a8 e1.R));sp 87 [(2,a br),(7,b true),(8,AV.nil),(10,AV.ak 0 0 (List.length (a8 n))),(11,a 0),(12,a 0),(13,a 0)] [qb n]=Gt e1/\xL e1/\aq (decide ((↑(dd e1.R):Int)<=e1.br)) (∃(e0:List AV),([c 51 e,c 51 e],[])=Mn e0/\gj e0=true/\K (b true) []) (K (b false) []))) (aq j (aq (kK e3.ds e3.rs e3.xs e3.all e3.br==kK e2.ds e2.rs e2.xs e2.all e2.br) (K (b true) []) (aq i (K (b (kK e2.ds e2.rs e2.xs e2.all e2.br==(0:Int))) []) (K (b false) []))) (ad d 6 10=ad d 6 10/\∃(e1:Wn),letI f:=List.take (List.length (a8 e1.R)) (List.drop 0 (a8 e1.R));sp 87 [(2,a br),(7,b true),(8,AV.nil),(10,AV.nil),(11,a (kK e2.ds e2.rs e2.xs e2.all e2.br)),(12,a 0),(13,a 0)] []=Gt e1/\xL e1/\aq (decide ((↑(dd e1.R):Int)<=e1.br)) (∃(e0:List AV),([c 51 f,c 51 f],[])=Mn e0/\gj e0=true/\K (b true) []) (K (b false) []))))))))):=by kernel_rfl
structure X2(xs:List AV):Prop where
 f:gj xs=true
 r: ∀x,x∈xs->∀r,r∈ag x->r= .ah 72 (ag r)
 v: ∀x,x∈xs->∀r,r∈ag x->∀v,v∈ag r->v=eZ (Ey v)
def iT(xs:List _):=xs.map fun x=>dm (ag x)
theorem Im: ∀{l},(∀r,r∈l->r= .ah 72 (ag r))->rws (dm l)=l
 |[],_=>rfl
 |a::l,h=>by
  have h1:=h a (by simp);have h2:=Im (l:=l) (by grind);show AV.ah _ _::rws (dm l)=a::l
  grind
theorem M7: ∀{t ts},Jz t ts=true->(∀v,v∈t->v=eZ (Ey v))->u9 t
 |[],[],_,_,v,hv=>nomatch hv
 | v::t,k::ts,h,hs,w,hw=>by
  simp only[Jz,an3] at h;rcases List.mem_cons.1 hw with rfl|hw
  ·refine⟨hs _ (by simp),?_⟩
   grind [WV]
  ·exact M7 h.2 (by grind) w hw
theorem DW: ∀{xs ds},vM xs ds=true->∀i,i<xs.length->zJ (ag (nth xs i)) (ag (af (nth ds i) 2))=true
 |[],_,_,i,hi=>absurd hi (by simp)
 |x::xs,[],h,_,_=>by cases h
 |x::xs,d::ds,h,i,hi=>by
  rw[vM,an3] at h;cases i with
  |zero=>exact h.1
  |succ i=>exact DW h.2 i (by grind)
theorem Bs xs i:(iT xs).getD i []=dm (ag (nth xs i)):=by
 grind [aX,iT,fT,ag,dm]
structure Y2(ds rs xs:List AV):Prop where
 i:InX xs (iT xs)
 l:xs.length=ds.length
 w: ∀i r,r∈(iT xs).getD i []->r.length=EC ds i
theorem Nd{ds rs xs}(hs:X2 xs)(hn:xs.length<=60)(h:nT ds rs xs=true):Y2 ds rs xs:=by
 simp only[nT,an3,an2] at h;obtain⟨_,hl,hw⟩:=h;have key: ∀i,i<xs.length->nth xs i∈xs:=fun i hi=>by rw[aX _ i hi];exact List.getElem_mem _
 have ty:=fun i hi r hr=>by
  have h1:=DW hw i hi;simp only[zJ,an3,W0,List.all_eq_true] at h1;exact h1.1 r hr
 have mem: ∀L,L∈iT xs->∃i,i<xs.length/\L=dm (ag (nth xs i)):=fun L hL=>by
  obtain⟨i,hi,rfl⟩:=List.getElem_of_mem hL;have hi':i<xs.length:=by simpa[iT] using hi
  exact⟨i,hi',by rw[←Bs];simp[List.getD_eq_getElem?_getD,hi]⟩
 refine⟨⟨by simp[iT],by simp[iT];omega,fun i=>?_,fun L hL=>?_⟩,hl,fun i r hr=>?_⟩
 ·rw[Bs]
  rcases Nat.lt_or_ge i xs.length with hi|hi
  ·exact(Im fun r hr=>hs.r _ (key i hi) r hr).symm
  ·rw[fT _ i hi];rfl
 ·obtain⟨i,hi,rfl⟩:=mem L hL
  have hf:=py hs.f i;refine⟨by rw[l6];exact jV hf,fun r hr=>?_,fun r hr=>?_⟩
  ·obtain⟨x,hx,rfl⟩:=List.mem_map.1 hr
   obtain⟨k,hk,rfl⟩:=List.getElem_of_mem hx;have:=lS hf k
   rwa [aX _ k hk] at this
  ·obtain⟨x,hx,rfl⟩:=List.mem_map.1 hr
   exact M7 (ty i hi x hx) (hs.v _ (key i hi) x hx)
 ·rw[Bs] at hr
  rcases Nat.lt_or_ge i xs.length with hi|hi
  ·obtain⟨x,hx,rfl⟩:=List.mem_map.1 hr
   exact B2 _ _ (ty i hi x hx)
  ·rw[fT _ i hi] at hr;cases hr
theorem HJ: ∀xs n,Bb xs n=true->n<=20->n+dd (iT xs)<=20
 |[],n,_,h=>h
 |x::xs,n,h,_=>by
  simp[Bb] at h;have:=HJ _ _ h.2.2 h.1
  grind [dd,iT,l6]
theorem Ha: ∀all,dd (all.map eT)<=dd all
 |[]=>Nat.le_refl _
 |L::all=>by
  have h1:=Ha all
  grind [sE,dd]
theorem YX{ds rs xs}(hs:X2 xs)(hL:oL ds rs xs=true)(hg:(yw ds rs).2=0)(hf:nT ds rs xs=true){br}(hl:br<=50):ld ds rs br ((iT xs).map eT):=by
 simp only[oL,an3,an2,List.all_eq_true] at hL;obtain⟨h1,h2,h3,h4,h5⟩:=hL;have hF:=Nd hs h3 hf;have hc:(mi ds rs).2=0:=by
  unfold yw at hg
  grind
 have ht:=HJ xs 0 h5 (by omega);have hk:=Ha (iT xs);refine⟨⟨lM h1,hc⟩,⟨?_,fun L hL=>?_,fun L hL=>?_,fun i r hr=>?_⟩,h4,hl,by omega⟩
 ·rw[List.length_map,iT,List.length_map];exact hF.l
 ·obtain⟨M,hM,rfl⟩:=List.mem_map.1 hL
  exact(mY (hF.i.f M hM).v).2.2
 ·obtain⟨M,hM,rfl⟩:=List.mem_map.1 hL
  exact(mY (hF.i.f M hM).v).1
 ·refine hF.w i r ?_
  rcases Nat.lt_or_ge i (iT xs).length with hi|hi
  ·rw[List.getD_eq_getElem?_getD,List.getElem?_map,ao6 hi] at hr
   rw[List.getD_eq_getElem?_getD,ao6 hi];exact((mY (hF.i.f _ (List.getElem_mem hi)).v).2.1 r).1 hr
  grind
theorem Hr{ds rs xs}(hs:X2 xs)(hL:oL ds rs xs=true){br}(h1:1<=br)(hl:br<=50):nE ⟨ds,rs,xs,iT xs,br⟩:=by
 have h:=hL;simp[oL] at h;have hp:=lM h.1;exact⟨hp,by rw[Ho hp,hs.f];rfl,fun c=>(Nd hs h.2.2.1 c).i,⟨h1,hl⟩,fun c1 c2=>YX hs hL c1 c2 hl⟩
theorem R6{ds rs xs all n}(hO:(yw ds rs).2=0->nT ds rs xs=true->ld ds rs n (all.map eT))(h:kK ds rs xs all n=0):kK ds rs xs all (n+1)=0/\lY ds rs all (n+1)=lY ds rs all n/\dd (lY ds rs all n)<=n/\ld ds rs n (lY ds rs all n):=by
 unfold kK at h⊢;by_cases g:(yw ds rs).2=0
 ·rw[an8 g,Bool.not_true,an7] at h⊢
  cases f:nT ds rs xs with
  |false=>rw[f] at h;cases h
  | true=>
   rw[f,Bool.not_true,an7] at h;have hev:=hO g f;by_cases c:n<dd (lY ds rs all n)
   ·grind
   ·have e:=(HL hev.p n (Lg ds rs) (all.map eT) hev.A).2.2 (show dd (lY ds rs all n)<=n by omega)
    grind [lY,ld.eval]
 grind
theorem Ny{ds rs xs all n}(h:kK ds rs xs all n≠0):kK ds rs xs all (n+1)=kK ds rs xs all n\/kK ds rs xs all n=91/\kK ds rs xs all (n+1)=0:=by
 grind [kK]
theorem KU{ds rs n R}(h:ld ds rs n R):gj (a8 R)=true:=by
 have hd:=BJ h.p;have hl:=h.A.len;have hn:=h.n;simp only[gj,an3,an2,List.all_eq_true];refine⟨by grind,fun x hx=>?_⟩;obtain⟨L,hL,rfl⟩:=List.mem_map.1 hx;obtain⟨i,hi,rfl⟩:=List.getElem_of_mem hL;refine sF ?_ fun r hr=>I8 h.p h.A i r ?_
 ·have:=rR hL;omega
 grind
theorem Z0 κ{ds rs xs br}(h1:(decide (ds.length<=aU)&&ds.all fun d=>decide ((ag (af d 1)).length<=aU))=true)(hs:X2 xs){K}(ho:K (.bool true) []):a7 (BLm κ).E 12 6 [fq ds rs, .ah 51 xs, .int br] [] K:=by
 refine Eq.mpr (yLm κ ds rs xs br K) ⟨(),rfl,trivial,ai.2 ⟨by rw[hs.f,Bool.and_true];exact h1,?_⟩⟩;cases hL:oL ds rs xs with
 |false=>exact ho
 | true=>
  refine ae.2 ⟨fun e=>absurd e (by decide),fun _=>ae.2 ⟨fun _=>ho,fun c1=>ae.2 ⟨fun _=>ho,fun c2=>?_⟩⟩⟩;have c1:=of_decide_eq_false c1;have c2:=of_decide_eq_false c2;obtain⟨n,rfl⟩: ∃n:Nat,br=n:=⟨br.toNat,by omega⟩
  have hw:IntKind.wrap .i64 ((n:Int)+1)=((n+1:Nat):Int):=by rw[az (by omega) (by omega)];omega
  have s1:=Hr hs hL (br:=n) (by omega) (by omega);have s2:=Hr hs hL (br:=n+1) (by omega) (by omega);refine⟨⟨ds,rs,xs,iT xs,n⟩,rfl,s1,ae.2 ⟨fun e=>?_,fun e=>?_⟩⟩
  ·have e:kK ds rs xs (iT xs) n=0:=of_decide_eq_true e
   obtain⟨z1,z2,z3,z4⟩:=R6 s1.o e;simp only at z1 z2 z3 z4;refine⟨⟨ds,rs,xs,iT xs,n+1⟩,by rw[hw];rfl,s2,ae.2 ⟨fun _=>?_,fun c=>?_⟩⟩
   ·have hd:=BJ z4.p
    have hl:=z4.A.len;refine⟨rfl,⟨lY ds rs (iT xs) n,n,0⟩,by rw[z2];rfl,⟨Nat.zero_le _,by simp only;omega,z4.n⟩,ae.2 ⟨fun _=>⟨a8 (lY ds rs (iT xs) n),?_,KU z4,ho⟩,fun c=>?_⟩⟩
    ·simp only[ao2,List.take_length];rfl
    ·have c:=of_decide_eq_false c
     simp only at c;omega
   ·have c: ¬ kK ds rs xs (iT xs) (n+1)=0:=of_decide_eq_false c
    exact absurd z1 c
  ·have e: ¬ kK ds rs xs (iT xs) n=0:=of_decide_eq_false e
   have e2:(kK ds rs xs (iT xs) n != 0)=true:=by simpa using e
   refine⟨⟨ds,rs,xs,iT xs,n+1⟩,by rw[hw];rfl,s2,ae.2 ⟨fun c=>ae.2 ⟨fun _=>?_,fun c3=>?_⟩,fun c=>ae.2 ⟨fun _=>?_,fun c3=>?_⟩⟩⟩
   ·have c:kK ds rs xs (iT xs) (n+1)=0:=of_decide_eq_true c
    have h91:kK ds rs xs (iT xs) n=91:=by
     rcases Ny e with k|k
     ·rw[c] at k;exact absurd k.symm e
     ·exact k.1
    refine ae.2 ⟨fun _=>ho,fun _=>ae.2 ⟨fun _=>ho,fun c4=>?_⟩⟩;have c4:(kK ds rs xs (iT xs) n==91)=false:=c4;rw[h91] at c4;cases c4
   ·exact absurd (e2.symm.trans c3) (by simp)
   ·have c: ¬ kK ds rs xs (iT xs) (n+1)=0:=of_decide_eq_false c
    have k:=(Ny e).resolve_right fun k=>c k.2
    refine ae.2 ⟨fun _=>ho,fun c4=>?_⟩;have c4:(kK ds rs xs (iT xs) n==kK ds rs xs (iT xs) (n+1))=false:=c4;rw[k] at c4;simp at c4
   ·exact absurd (e2.symm.trans c3) (by simp)
end Go.Proofs.YtioeffnadipbaaaGreatDoor
