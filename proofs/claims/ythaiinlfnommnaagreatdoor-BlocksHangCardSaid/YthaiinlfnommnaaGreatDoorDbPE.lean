import Derived.Test.YthaiinlfnommnaaGreatDoorDbMF
import Derived.Test.YthaiinlfnommnaaGreatDoorDbM2
import Derived.Test.YthaiinlfnommnaaGreatDoorDoG
import Derived.Test.YthaiinlfnommnaaGreatDoorRows
import Derived.ProofKit
import Derived.Deep.DeepHandedRow
import Derived.Stop.LaidTwo
import Derived.LaidHandle
namespace Go.Proofs.YthaiinlfnommnaaGreatDoor
open Go Go.Dn Go.Rl Go.Proofs
attribute [local irreducible] a8 vc
set_option maxRecDepth 20000
abbrev Z5(bs:List AV)(j:Nat):List AV:=ai (ae (nth bs j) 1)
abbrev YG(bs:List AV)(j:Nat):List AV:=ai (ae (nth bs j) 2)
abbrev Qm(bs:List AV)(j:Nat):List AV:=ai (ae (nth bs j) 0)
structure AT3 where
 bs:List AV
 q:QD
 l:List Int
 i:Nat
 k:Nat
 m:Nat
theorem J4: ∀(l:List Int) (k:Nat) (h:k<l.length),toInt (nth (cq l) k)=l[k]:=fun l k h=>by
 rw[bf _ _ (by rw[dW];exact h)]
 simp[cq,toInt]
structure Zw(bs:List AV):Prop where
 len:bs.length<=100
 f0: ∀j,j<bs.length->(Qm bs j).length<=60
 f1: ∀j,j<bs.length->(Z5 bs j).length<=100000000/\∀y,y∈Z5 bs j->∃q:QD,y=qA q/\q.delta= -1/\q.steps.length<=100000/\∀c,c∈nD q.steps->qY c (Qm bs j)=false
 f2: ∀j,j<bs.length->(YG bs j).length<=100000000000/\∀y,y∈YG bs j->∃q:QD,y=qA q/\∃k:Nat,k<q.steps.length/\q.delta=(k:Int)/\toInt (ae (nth q.steps k) 0)=1/\qY (toInt (ae (nth q.steps k) 2)) (Qm bs j)=true
structure AT2 where
 bs:List AV
 i:Nat
 k:Nat
theorem FV(c:Int)(g:List Int):qY c (iA g)=true↔c∈g:=by
 simp only[qY,iA,List.any_map,List.any_eq_true,Function.comp,beq_iff_eq]
 exact⟨fun⟨x,h1,h2⟩=>by have:x=c:=h2;rw[←this];exact h1,fun h=>⟨c,h,rfl⟩⟩
abbrev V0(ds rs bs ts:List AV):List Dn.Obj:=[.box 25 (gJ ds rs), .row 41 bs, .row 3 ts]
abbrev Re(ds rs bs ts:List AV)(i:Nat):S:=sp 101 [(1, .ptr 0 0 [] 0),(3, .bool true),(4, .an 1 0 bs.length),(6, .an 2 0 ts.length),(7, .int i)] (V0 ds rs bs ts)
abbrev O5(ds rs bs ts al:List AV)(i k:Nat):S:=sp 101 [(1, .ptr 0 0 [] 0),(3, .bool true),(4, .an 1 0 bs.length),(6, .an 2 0 ts.length),(7, .int i),(8, .an 3 0 al.length),(9, .int k)] (V0 ds rs bs ts++[.row 45 al])
abbrev Qu(ds rs bs ts al l:List AV)(i k m:Nat):S:=sp 101 [(1, .ptr 0 0 [] 0),(3, .bool true),(4, .an 1 0 bs.length),(6, .an 2 0 ts.length),(7, .int i),(8, .an 3 0 al.length),(9, .int k),(10, .ad 3 l),(11, .int m)] (V0 ds rs bs ts++[.row 45 al])
theorem xU3(κ:Kp)(ds rs bs ts al l:List AV)(i k m:Nat)(I:Nat->S->Prop)(n:Nat)(K:Exit->S->Prop):(vc (Rb κ).E 12 8 none 0 (af (Pr κ).toProgram 8 18) (Qu ds rs bs ts al l i k m) (bK (Rb κ).E 8 18 0 I n K))=(
 letI z1:=(↑m:Int)<(↑(l.length):Int)
 letI z2:=List.take ts.length (List.drop 0 ts)
 letI z3:=AV.agg [AV.ad 61 ds,AV.ad 66 rs]
 aD (decide z1) (aX (true&&decide z1) (aX (decide (List.length z2<=9223372036854775807)) (aD (!qY (toInt (nth l (Int.toNat (↑m:Int)))) z2) (K Exit.ret (sp
 101 [(2,AV.bool false)] [])) (∃(e0:Nat),e0<n/\I e0 (sp 101 [(1,AV.ptr 0 0 [] 0),(3,AV.bool true),(4,AV.an 1 0 bs.length),(6,AV.an 2 0 ts.length),
 (7,AV.int (↑i:Int)),(8,AV.an 3 0 al.length),(9,AV.int (↑k:Int)),(10,AV.ad 3 l),(11,AV.int (IntKind.wrap IntKind.i64 ((↑m:Int)+(1:Int))))]
 [Obj.box 25 z3,Obj.row 41 bs,Obj.row 3 ts,Obj.row 45 al]))))) (K (Exit.exit 4) (sp 101 [(1,AV.ptr 0 0 [] 0),(3,AV.bool true),(4,AV.an 1 0 bs.length),
 (6,AV.an 2 0 ts.length),(7,AV.int (↑i:Int)),(8,AV.an 3 0 al.length),(9,AV.int (↑k:Int))] [Obj.box 25 z3,Obj.row 41 bs,Obj.row 3 ts,Obj.row 45
 al]))):=by kernel_rfl
structure Wd where
 ds:List AV
 rs:List AV
 bs:List AV
 ts:List AV
 al:List AV
 l:List Int
 i:Nat
 k:Nat
 m:Nat
abbrev Mz(x:Wd):S:=Qu x.ds x.rs x.bs x.ts x.al (cq x.l) x.i x.k x.m
def Jy(x:Wd):Prop:=x.ts.length<=100000/\x.l.length<=100000/\x.m<=x.l.length/\∀c,c∈x.l->qY c x.ts=true
def Uc(x:Wd):Out (Exit×S):= .one (.exit 4,O5 x.ds x.rs x.bs x.ts x.al x.i x.k)
theorem lU3(κ:Kp):bj (Rb κ).E 12 8 18 (aO 0 Mz Jy Uc):=by
 refine aK (fun x=>x.l.length - x.m) ?_
 rintro⟨ds,rs,bs,ts,al,l,i,k,m⟩ K ⟨ht,hl,hm,hc⟩ ho
 simp only at ht hl hm hc
 rw[show(Rb κ).E.P=Pr κ from rfl]
 refine Eq.mpr (xU3 κ ds rs bs ts al (cq l) i k m _ _ K) ?_
 simp only[Int.toNat_natCast,ab1,List.take_length,dW]
 rw[ah,aa1,aa3]
 refine⟨fun h=>?_,fun _=>ho⟩
 have hk:m<l.length:=by omega
 rw[J4 l m hk,aW (n:=(m:Int)+1) (by omega) (by omega),hc _ (List.getElem_mem hk)]
 refine aq.2 ⟨by simp;omega,aq.2 ⟨by rw[aa1];omega,ah.2 ⟨fun e=>(by cases e),fun _=>?_⟩⟩⟩
 refine⟨_,?_,⟨ds,rs,bs,ts,al,l,i,k,m+1⟩,?_,⟨ht,hl,hk,hc⟩,rfl,ho⟩
 ·simp only;omega
 ·simp only[Mz,Qu,dW];rfl
noncomputable def tE(κ:Kp):EB:=(Rb κ).loop (lU3 κ)
theorem xU2(κ:Kp)(ds rs bs ts al:List AV)(i k:Nat)(I:Nat->S->Prop)(n:Nat)(K:Exit->S->Prop):(vc (tE κ).E 12 8 none 0 (af (Pr κ).toProgram 8 14) (O5 ds rs bs ts al i k) (bK (tE κ).E 8 14 0 I n K))=(
 letI z1:=nth al (0+Int.toNat (↑k:Int))
 letI z2:=(↑k:Int)<(↑(al.length):Int)
 letI z3:=Pg.toProgram (Env.P (EB.E (Rb κ)))
 letI z4:=AV.agg [AV.ad 61 ds,AV.ad 66 rs]
 aD (decide z2) (aX (true&&decide z2) (∃(e2:QD),([AV.agg [AV.int (toInt (ae z1 0)),AV.ad 58 (ai (ae z1 1)),AV.ad 56 (ai (ae z1 2)),AV.int (toInt (ae z1
 3))]],[])=UX e2/\L4 e2/\af z3 8 18=af z3 8 18/\∃(e1:Wd),sp 101 [(1,AV.ptr 0 0 [] 0),(3,AV.bool true),(4,AV.an 1 0 bs.length),(6,AV.an 2 0
 ts.length),(7,AV.int (↑i:Int)),(8,AV.an 3 0 al.length),(9,AV.int (↑k:Int)),(10,AV.ad 3 (cq (Um e2.steps))),(11,AV.int 0)] [Obj.box 25 z4,Obj.row
 41 bs,Obj.row 3 ts,Obj.row 45 al]=Mz e1/\Jy e1/\aX (true&&decide ((↑(e1.i):Int)<(↑(e1.bs.length):Int))) (aX (true&&decide ((↑(e1.k):Int)<
 (↑(e1.al.length):Int))) (aX (decide (List.length (ai (ae (nth e1.bs (0+Int.toNat (↑(e1.i):Int))) 0))<=9223372036854775807)) (aD (!qY (toInt (ae (nth
 e1.al (0+Int.toNat (↑(e1.k):Int))) 0)) (ai (ae (nth e1.bs (0+Int.toNat (↑(e1.i):Int))) 0))) (K Exit.ret (sp 101 [(2,AV.bool false)] [])) (∃(e0:Nat),
 e0<n/\I e0 (sp 101 [(1,AV.ptr 0 0 [] 0),(3,AV.bool true),(4,AV.an 1 0 e1.bs.length),(6,AV.an 2 0 e1.ts.length),(7,AV.int (↑(e1.i):Int)),(8,AV.an
 3 0 e1.al.length),(9,AV.int (IntKind.wrap IntKind.i64 ((↑(e1.k):Int)+(1:Int))))] [Obj.box 25 (AV.agg [AV.ad 61 e1.ds,AV.ad 66 e1.rs]),Obj.row 41
 e1.bs,Obj.row 3 e1.ts,Obj.row 45 e1.al]))))))) (K (Exit.exit 2) (sp 101 [(1,AV.ptr 0 0 [] 0),(3,AV.bool true),(4,AV.an 1 0 bs.length),(6,AV.an 2 0
 ts.length),(7,AV.int (↑i:Int))] [Obj.box 25 z4,Obj.row 41 bs,Obj.row 3 ts]))):=by kernel_rfl
structure P6(bs ts al:List AV)(i:Nat):Prop where
 hi:i<bs.length
 hr:(Qm bs i).length<=60
 ht:ts.length<=100000
 hl:al.length<=1000000000000
 all: ∀y,y∈al->∃q:QD,y=qA q/\q.steps.length<=100000/\(∀c,c∈nD q.steps->qY c ts=true)/\qY q.rel (Qm bs i)=true
structure Im where
 ds:List AV
 rs:List AV
 bs:List AV
 ts:List AV
 al:List AV
 i:Nat
 k:Nat
abbrev nh(x:Im):S:=O5 x.ds x.rs x.bs x.ts x.al x.i x.k
def kW(x:Im):Prop:=P6 x.bs x.ts x.al x.i/\x.k<=x.al.length
def Ta(x:Im):Out (Exit×S):= .one (.exit 2,Re x.ds x.rs x.bs x.ts x.i)
theorem lU2(κ:Kp):bj (tE κ).E 12 8 14 (aO 0 nh kW Ta):=by
 refine aK (fun x=>x.al.length - x.k) ?_
 rintro⟨ds,rs,bs,ts,al,i,k⟩ K ⟨hG,hk⟩ ho
 simp only at hG hk
 rw[show(tE κ).E.P=Pr κ from rfl]
 refine Eq.mpr (xU2 κ ds rs bs ts al i k _ _ K) ?_
 simp only[Int.toNat_natCast,Nat.zero_add]
 rw[ah,aa1,aa3]
 refine⟨fun h=>?_,fun _=>ho⟩
 have hk':k<al.length:=by omega
 have hi:=hG.hi
 have hl:=hG.hl
 have hb:(true&&decide ((i:Int)<(bs.length:Int)))=true:=by simp;omega
 have hb2:(true&&decide ((k:Int)<(al.length:Int)))=true:=by simp;omega
 have hm:nth al k∈al:=by rw[bf _ _ hk'];exact List.getElem_mem _
 obtain⟨q,hq,hs,hc,hr⟩:=hG.all _ hm
 rw[hq]
 have hrd:=NH q.steps
 refine aq.2 ⟨hb2,q,rfl,hs,trivial,⟨ds,rs,bs,ts,al,Um q.steps,i,k,0⟩,rfl,⟨hG.ht,by simp only;omega,Nat.zero_le _,fun c h=>hc c (Nb h)⟩,?_⟩
 simp only
 rw[hq]
 refine aq.2 ⟨hb,aq.2 ⟨hb2,aq.2 ⟨by rw[aa1];exact Nat.le_trans hG.hr (by decide),ah.2 ⟨fun e=>?_,fun _=>?_⟩⟩⟩⟩
 ·have hr:qY (toInt (ae (qA q) 0)) (ai (ae (nth bs i) 0))=true:=hr
  rw[hr] at e;cases e
 ·rw[aW (n:=(k:Int)+1) (by omega) (by omega)]
  exact⟨_,by simp only;omega,⟨ds,rs,bs,ts,al,i,k+1⟩,rfl,⟨hG,hk'⟩,rfl,ho⟩
noncomputable def OC(κ:Kp):EB:=(tE κ).loop (lU2 κ)
theorem xU1(κ:Kp)(ds rs bs ts:List AV)(i:Nat)(I:Nat->S->Prop)(n:Nat)(K:Exit->S->Prop):(vc (OC κ).E 12 8 none 0 (af (Pr κ).toProgram 8 9) (Re ds rs bs ts i) (bK (OC κ).E 8 9 0 I n K))=(
 letI z3:=nth bs (0+Int.toNat (↑i:Int))
 letI z5:=(↑i:Int)<(↑(bs.length):Int)
 letI z4:=true&&decide z5
 letI z6:=Pg.toProgram (Env.P (EB.E (tE κ)))
 letI z8:=ai (ae z3 1)
 letI z2:=decide ((0+List.length z8+1)*65<=70368744177664)
 letI z9:=AV.agg [AV.ad 61 ds,AV.ad 66 rs]
 letI z1:=aX (decide ((0+List.length z8+List.length (ai (ae z3 2))+1)*65<=70368744177664)) (af z6 8 14=af z6 8 14/\∃(e1:Im),sp 101 [(1,AV.ptr
  0 0 [] 0),(3,AV.bool true),(4,AV.an 1 0 bs.length),(6,AV.an 2 0 (ts.length+List.length (ai (ae z3 0)))),(7,AV.int (↑i:Int)),(8,AV.an 3 0 (0+
  List.length z8+List.length (ai (ae z3 2)))),(9,AV.int 0)] [Obj.box 25 z9,Obj.row 41 bs,Obj.row 3 (List.take ts.length ts++ai (ae z3 0)),Obj.row 45
  (List.take (0+List.length z8) ([]++ai (ae z3 1))++ai (ae z3 2))]=nh e1/\kW e1/\∃(e0:Nat),e0<n/\I e0 (sp 101 [(1,AV.ptr 0 0 [] 0),(3,AV.bool
  true),(4,AV.an 1 0 e1.bs.length),(6,AV.an 2 0 e1.ts.length),(7,AV.int (IntKind.wrap IntKind.i64 ((↑(e1.i):Int)+(1:Int))))] [Obj.box 25 (AV.agg
  [AV.ad 61 e1.ds,AV.ad 66 e1.rs]),Obj.row 41 e1.bs,Obj.row 3 e1.ts]))
 letI z7:=aX z2 z1/\aX z2 z1/\aX z2 z1
 aD (decide z5) (aX z4 (aX (decide ((ts.length+List.length (ai (ae z3 0))+1)*9<=70368744177664)) (aX z4 ((aX z2 (aX z4 z1)/\aX z4 z7)/\aX z4 (z7/\(aX
 z2 z1/\aX z2 z1)/\aX z2 z1))))) (K (Exit.exit 0) (sp 101 [(1,AV.ptr 0 0 [] 0),(3,AV.bool true),(6,AV.an 1 0 ts.length)] [Obj.box 25 z9,Obj.row 3 ts]))):=by kernel_rfl
structure Uu where
 ds:List AV
 rs:List AV
 i:Nat
noncomputable def Dt(ds rs:List AV)(i:Nat):List AV:=iA ((fu ds rs).take i).flatten
noncomputable abbrev JZ(x:Uu):S:=Re x.ds x.rs (iU x.ds x.rs) (Dt x.ds x.rs x.i) x.i
def EU(x:Uu):Prop:=fE x.ds x.rs/\(sR x.ds x.rs).2=0/\x.i<=(fu x.ds x.rs).length
noncomputable def SO(x:Uu):Out (Exit×S):= .one (.exit 0,sp 101 [(1, .ptr 0 0 [] 0),(3, .bool true),(6, .an 1 0 (Dt x.ds x.rs (fu x.ds x.rs).length).length)] [.box 25 (gJ x.ds x.rs), .row 3 (Dt x.ds x.rs (fu x.ds x.rs).length)])
theorem LY(ds rs:List AV){i:Nat}(h:i<(fu ds rs).length):Dt ds rs (i+1)=Dt ds rs i++iA (fu ds rs)[i]:=by
 unfold Dt
 rw[List.take_add_one,ab7 h,List.flatten_append,se]
 simp
theorem FL{ds rs:List AV}(f:pN ds rs)(i:Nat):(Dt ds rs i).length<=ds.length:=by
 have h1:=Be f
 have h2:(fu ds rs).flatten=((fu ds rs).take i).flatten++((fu ds rs).drop i).flatten:=by rw[←List.flatten_append,List.take_append_drop]
 rw[h2,ab9] at h1
 unfold Dt
 rw[fo];omega
theorem QI{ds rs:List AV}(hs:fE ds rs)(hz:(sR ds rs).2=0){i:Nat}(hi:i<(fu ds rs).length):P6 (iU ds rs) (Dt ds rs (i+1)) ((rI ds rs (fu ds rs)[i] rs).map qA++(rP ds rs (fu ds rs)[i] rs).map qA) i:=by
 have hc:=ua hz
 have hf:=il hc
 have hr:=hf.hr
 have hd:=hf.hd
 have hR:Qm (iU ds rs) i=iA (fu ds rs)[i]:=by unfold Qm;rw[G6 _ _ _ hi];rfl
 have l1:(rI ds rs (fu ds rs)[i] rs).length<=rs.length:=uj _ _ _ _ _
 have l2:(rP ds rs (fu ds rs)[i] rs).length<=rs.length*100000:=tR _ _ _ _ _ _ fun r h=>sd hs hc h
 refine⟨by rw[tV];exact hi,?_,Nat.le_trans (FL hf _) (by omega),?_,fun y hy=>?_⟩
 ·rw[hR,fo]
  exact Nat.le_trans (Ap (List.getElem_mem hi)) hd
 ·simp only[ab9,List.length_map];omega
 ·have⟨x,hx,hq⟩: ∃x:QD,(x∈rI ds rs (fu ds rs)[i] rs\/x∈rP ds rs (fu ds rs)[i] rs)/\y=qA x:=by
   rcases List.mem_append.1 hy with h|h
   ·obtain⟨x,h1,rfl⟩:=List.mem_map.1 h
    exact⟨x, .inl h1,rfl⟩
   ·obtain⟨x,h1,rfl⟩:=List.mem_map.1 h
    exact⟨x, .inr h1,rfl⟩
  refine⟨x,hq,?_,fun c h=>(FV _ _).2 (Kf hs hc hi hx h),?_⟩
  ·rcases hx with h|h
   ·obtain⟨r,h2,_,_,rfl⟩:=qy h
    exact sd hs hc h2
   ·obtain⟨r,h2,_,_,h3⟩:=ui h
    rw[(qB h3).2.1]
    exact sd hs hc h2
  ·rw[hR,FV]
   rcases hx with h|h
   ·exact RP h
   ·exact Rq h
theorem lU1(κ:Kp):bj (OC κ).E 12 8 9 (aO 0 JZ EU SO):=by
 refine aK (fun x=>(fu x.ds x.rs).length - x.i) ?_
 rintro⟨ds,rs,i⟩ K ⟨hs,hz,hi⟩ ho
 simp only at hs hz hi
 rw[show(OC κ).E.P=Pr κ from rfl]
 refine Eq.mpr (xU1 κ ds rs (iU ds rs) (Dt ds rs i) i _ _ K) ?_
 simp only[Int.toNat_natCast,Nat.zero_add,tV,List.take_length,List.nil_append]
 rw[ah,aa1,aa3]
 refine⟨fun h=>?_,fun h=>?_⟩
 ·have hi':i<(fu ds rs).length:=by omega
  have hb:(true&&decide ((i:Int)<((fu ds rs).length:Int)))=true:=by simp;omega
  have hc:=ua hz
  have hf:=il hc
  have hr:=hf.hr
  have hd:=hf.hd
  have l1:(rI ds rs (fu ds rs)[i] rs).length<=rs.length:=uj _ _ _ _ _
  have l2:(rP ds rs (fu ds rs)[i] rs).length<=rs.length*100000:=tR _ _ _ _ _ _ fun r h=>sd hs hc h
  have l3:=FL hf i
  have l4:=Ap (List.getElem_mem hi')
  have l5:=F6 ds rs
  have e0:ai (ae (Ba ds rs (fu ds rs)[i]) 0)=iA (fu ds rs)[i]:=rfl
  have e1:ai (ae (Ba ds rs (fu ds rs)[i]) 1)=(rI ds rs (fu ds rs)[i] rs).map qA:=rfl
  have e2:ai (ae (Ba ds rs (fu ds rs)[i]) 2)=(rP ds rs (fu ds rs)[i] rs).map qA:=rfl
  rw[G6 _ _ _ hi',e0,e1,e2]
  have c1:decide (((Dt ds rs i).length+(iA (fu ds rs)[i]).length+1)*9<=70368744177664)=true:=by rw[aa1,fo];omega
  have c2:decide ((((rI ds rs (fu ds rs)[i] rs).map qA).length+1)*65<=70368744177664)=true:=by rw[aa1,List.length_map];omega
  have c3:decide ((((rI ds rs (fu ds rs)[i] rs).map qA).length+((rP ds rs (fu ds rs)[i] rs).map qA).length+1)*65<=70368744177664)=true:=by rw[aa1,List.length_map,List.length_map];omega
  simp only[hb,c1,c2,c3,aq,true_and,and_self]
  refine⟨⟨ds,rs,iU ds rs,Dt ds rs (i+1),(rI ds rs (fu ds rs)[i] rs).map qA++(rP ds rs (fu ds rs)[i] rs).map qA,i,0⟩,?_,⟨QI hs hz hi',Nat.zero_le _⟩,?_⟩
  ·simp only[nh,O5,V0,LY ds rs hi',ab9,tV];rfl
  ·simp only
   rw[aW (n:=(i:Int)+1) (by omega) (by omega)]
   exact⟨_,by simp only;omega,⟨ds,rs,i+1⟩,rfl,⟨hs,hz,hi'⟩,rfl,ho⟩
 ·have hi':i=(fu ds rs).length:=by omega
  subst hi'
  exact ho
noncomputable def W4(κ:Kp):EB:=(OC κ).loop (lU1 κ)
theorem yHn(κ:Kp)(ds rs:List AV)(K:AV->List Dn.Obj->Prop):(a8 (W4 κ).E 12 8 [gJ ds rs] [] K)=(
 letI z1:=Pg.toProgram (Env.P (EB.E (OC κ)))
 aX (decide (ds.length<=9223372036854775807)&&List.all ds fun(e0:AV)=>decide (List.length (ai (ae e0 1))<=9223372036854775807)) (aD ((bif rZ ds rs then
 (1:Int) else(0:Int))==(0:Int)) (K (AV.bool true) []) (∃(e1:rT),([AV.agg [AV.ad 61 ds,AV.ad 66 rs]],[])=QF e1/\EP e1/\aD (decide (Prod.snd (sR
 e1.1 e1.2)=(0:Int))) (af z1 8 9=af z1 8 9/\∃(e0:Uu),sp 101 [(1,AV.ptr 0 0 [] 0),(3,AV.bool true),(4,AV.an 1 0 (List.length (iU e1.1 e1.2))),(6,
 AV.an 2 0 0),(7,AV.int 0)] [Obj.box 25 (AV.agg [AV.ad 61 ds,AV.ad 66 rs]),Obj.row 41 (iU e1.1 e1.2),Obj.row 3 []]=JZ e0/\EU e0/\K (AV.bool
 ((↑(List.length (Dt e0.ds e0.rs (List.length (fu e0.ds e0.rs)))):Int)==(↑(e0.ds.length):Int))) []) (aD (Prod.snd (sR e1.1 e1.2) != (0:Int)) (K (AV.bool
 true) []) (af z1 8 9=af z1 8 9/\∃(e0:Uu),sp 101 [(1,AV.ptr 0 0 [] 0),(3,AV.bool true),(4,AV.nil),(6,AV.an 1 0 0),(7,AV.int 0)] [Obj.box 25
 (AV.agg [AV.ad 61 ds,AV.ad 66 rs]),Obj.row 3 []]=JZ e0/\EU e0/\K (AV.bool ((↑(List.length (Dt e0.ds e0.rs (List.length (fu e0.ds e0.rs)))):Int)==
 (↑(e0.ds.length):Int))) []))))):=by kernel_rfl
theorem Ui(κ:Kp)(ds rs:List AV)(h1:ds.length<=aR)(h2: ∀d,d∈ds->(ai (ae d 1)).length<=aR):cM (Pr κ) 8 [gJ ds rs] [] (fun r _=>r= .bool true):=by
 refine iK (W4 κ).ok (W4 κ).mono (N:=12) ?_
 refine Eq.mpr (yHn κ ds rs _) (IT h1 h2 rfl fun hs _=>?_)
 have hp:=sO hs
 refine⟨(ds,rs),rfl,hp,?_⟩
 rw[ah,aa1,aa3]
 refine⟨fun e=>⟨rfl,⟨ds,rs,0⟩,rfl,⟨hp,e,Nat.zero_le _⟩,?_⟩,fun e=>?_⟩
 ·have hl:=Be (il (ua e))
  have:(Dt ds rs (fu ds rs).length).length=ds.length:=by
   unfold Dt
   rw[List.take_length,fo,hl]
  simp only
  rw[this,beq_self_eq_true]
 ·rw[ah]
  exact⟨fun _=>rfl,fun e2=>absurd (by simpa using e2) e⟩
end Go.Proofs.YthaiinlfnommnaaGreatDoor
namespace Go.Proofs.YthaiinlfnommnaaGreatDoor
open Go Go.Dn Go.Rl Go.Proofs Go.ChangeShapes Go.WideShapes Go.ChangeAt Go.RowKit
theorem own:ownKnob Tryz.prog.godebug=none:=by kernel_rfl
theorem Ks:laidOutB Tryz.prog=true:=by kernel_rfl
abbrev KS:List (String×DataW Unit):=[("sorites/dtree.errTree",Rows.laid_sorites_dtree_errTree),("sorites/dtype.errNoRel",Rows.laid_sorites_dtype_errNoRel),("sorites/dtype.errArity",Rows.laid_sorites_dtype_errArity),("sorites/dtype.errType",Rows.laid_sorites_dtype_errType),("sorites/dsafe.errStuck",Rows.laid_sorites_dsafe_errStuck)]
theorem PA:Tryz.prog.globalNamed "sorites/dtree.errTree" =some 1:=by kernel_rfl
theorem DH:Tryz.prog.globalNamed "sorites/dtype.errNoRel" =some 3:=by kernel_rfl
theorem Dw:Tryz.prog.globalNamed "sorites/dtype.errArity" =some 4:=by kernel_rfl
theorem MQ:Tryz.prog.globalNamed "sorites/dtype.errType" =some 2:=by kernel_rfl
theorem Kz:Tryz.prog.globalNamed "sorites/dsafe.errStuck" =some 0:=by kernel_rfl
theorem QX:(Tryz.prog.globals[1]?).map (·.type)=some 170:=by kernel_rfl
theorem FK:(Tryz.prog.globals[3]?).map (·.type)=some 170:=by kernel_rfl
theorem Gi:(Tryz.prog.globals[4]?).map (·.type)=some 170:=by kernel_rfl
theorem Mc:(Tryz.prog.globals[2]?).map (·.type)=some 170:=by kernel_rfl
theorem Ow:(Tryz.prog.globals[0]?).map (·.type)=some 170:=by kernel_rfl
theorem Af:Tryz.prog.cellsOf 331=1:=by kernel_rfl
theorem zp:Tryz.prog.cellsOf 9=1:=by kernel_rfl
theorem P7: "*" ++ "errors.errorString" = "*errors.errorString" :=by decide
theorem NZ(u:TypeId)(h:Tryz.prog.typeName? 3 u=some "*errors.errorString"):u=306:=
 typeName_ptr_named (nm:= "errors.errorString") (by rw[P7];kernel_rfl) (by kernel_rfl) (by decide) u (by rw[P7];exact h)
theorem mj{P:Program}{w:World}{n:String}{g:Nat}{cs:Array Value}(hg:P.globalNamed n=some g)(h:w.var? P n=some cs): ∃T z,w.heap[g]? =some (.cells cs T z):=by
 simp only[World.var?,hg,Option.bind_some] at h
 split at h
 ·rename_i cs' T z e
  cases h
  exact⟨T,z,e⟩
 ·cases h
theorem nN{W:World}{a:Addr}{s:ByteArray}{g:Nat}{v:Value}{T:TypeId}{z:Nat×Nat}(h:W.cell? a=some (.string s))(hv: ∀t,v≠ .string t)(hg:W.heap[g]? =some (.cells #[v] T z)):a.block≠g:=by
 intro e
 unfold World.cell? at h
 rw[e,hg] at h
 simp only at h
 split at h
 ·cases h
 ·obtain⟨h1,h2⟩:=Array.getElem?_eq_some_iff.1 h
  have:a.off=0:=by simp at h1;omega
  simp only[this] at h2
  exact hv s h2
theorem Ar{W:World}(h:laidMetH Tryz.prog KS W): ∃κ:Kp,∀b o,x2 κ b=some o->W.heap[b]? =some o:=by
 have h':laidMet Tryz.prog KS W:=h
 obtain⟨aT,aN,sT,sN,cT,cN,tT,tN,vT,vN,kT,xT,_,kN,xN,_,dTN,bT,bN⟩:=laid_sentinels2 h' PA QX DH FK Tryz.underlying170 NZ Tryz.underlying306 Tryz.underlying331 rfl rfl Tryz.underlying9 Af zp
 obtain⟨aN',aA,sN',sA,cN',cA,tN',tA,vN',vA,kN',_,_,kA,xA,_,dNA,_,bA⟩:=laid_sentinels2 h'.tail DH FK Dw Gi Tryz.underlying170 NZ Tryz.underlying306 Tryz.underlying331 rfl rfl Tryz.underlying9 Af zp
 obtain⟨aA',aY,sA',sY,cA',cY,tA',tY,vA',vY,kA',_,_,kY,xY,_,dAY,_,bY⟩:=laid_sentinels2 h'.tail.tail Dw Gi MQ Mc Tryz.underlying170 NZ Tryz.underlying306 Tryz.underlying331 rfl rfl Tryz.underlying9 Af zp
 obtain⟨aY',aS,sY',sS,cY',cS,tY',tS,vY',vS,kY',_,_,kS,xS,_,dYS,_,bS⟩:=laid_sentinels2 h'.tail.tail.tail MQ Mc Kz Ow Tryz.underlying170 NZ Tryz.underlying306 Tryz.underlying331 rfl rfl Tryz.underlying9 Af zp
 have eN:aN'=aN:=by
  rw[vN] at vN'
  simpa using vN'.symm
 have eA:aA'=aA:=by
  rw[vA] at vA'
  simpa using vA'.symm
 subst eN
 subst eA
 have dNY:aN'≠aY:=fun e=>by
  subst e
  rw[kN] at kY
  cases kY
  rw[xN] at xY
  revert xY
  decide
 obtain⟨T1,z1,e1⟩:=mj PA vT
 obtain⟨T2,z2,e2⟩:=mj Kz vS
 obtain⟨T3,z3,e3⟩:=mj DH vN
 obtain⟨T4,z4,e4⟩:=mj Dw vA
 obtain⟨T5,z5,e5⟩:=mj MQ vY
 have nn: ∀{a:Addr} {s:ByteArray},W.cell? a=some (.string s)->∀g,g∈[1,0,3,4,2]->a.block≠g:=fun hk g hg=>by
  simp only[ac3,List.not_mem_nil,or_false] at hg
  rcases hg with rfl|rfl|rfl|rfl|rfl
  ·exact nN hk (fun _=>by simp) e1
  ·exact nN hk (fun _=>by simp) e2
  ·exact nN hk (fun _=>by simp) e3
  ·exact nN hk (fun _=>by simp) e4
  ·exact nN hk (fun _=>by simp) e5
 refine⟨{tree:=aT,stuck:=aS,T1:=T1,T2:=T2,z1:=z1,z2:=z2,fK:=aN',arity:=aA',type:=aY,T3:=T3,T4:=T4,T5:=T5,z3:=z3,z4:=z4,z5:=z5,c3:=cN,c4:=cA,c5:=cY,t3:=tN,t4:=tA,t5:=tY,d1:=dNA,d2:=dNY,d3:=dAY,n3:=nn kN,n4:=nn kA,n5:=nn kY},fun b o hb=>?_⟩
 unfold x2 at hb
 cases q0:Nat.beq b 1 with
 |true=>
  rw[q0,aa8] at hb
  cases hb
  rw[Nat.eq_of_beq_eq_true q0];exact e1
 | false =>
  rw[q0,aa6] at hb
  cases q1:Nat.beq b 0 with
  |true=>
   rw[q1,aa8] at hb
   cases hb
   rw[Nat.eq_of_beq_eq_true q1];exact e2
  | false=>
   rw[q1,aa6] at hb
   cases q2:Nat.beq b 3 with
   |true=>
    rw[q2,aa8] at hb
    cases hb
    rw[Nat.eq_of_beq_eq_true q2];exact e3
   | false=>
    rw[q2,aa6] at hb
    cases q3:Nat.beq b 4 with
    |true=>
     rw[q3,aa8] at hb
     cases hb
     rw[Nat.eq_of_beq_eq_true q3];exact e4
    | false=>
     rw[q3,aa6] at hb
     cases q4:Nat.beq b 2 with
     |true=>
      rw[q4,aa8] at hb
      cases hb
      rw[Nat.eq_of_beq_eq_true q4];exact e5
     | false=>
      rw[q4,aa6] at hb
      cases q5:Nat.beq b aN'.block with
      |true=>
       rw[q5,aa8] at hb
       cases hb
       rw[Nat.eq_of_beq_eq_true q5];exact bN
      | false=>
       rw[q5,aa6] at hb
       cases q6:Nat.beq b aA'.block with
       |true=>
        rw[q6,aa8] at hb
        cases hb
        rw[Nat.eq_of_beq_eq_true q6];exact bA
       | false=>
        rw[q6,aa6] at hb
        cases q7:Nat.beq b aY.block with
        |true=>
         rw[q7,aa8] at hb
         cases hb
         rw[Nat.eq_of_beq_eq_true q7];exact bY
        |false=>
         rw[q7,aa6] at hb
         cases hb
abbrev Vn:ByteArray:={data:= #[110,111,32,116,114,101,101]}
abbrev R5:ByteArray:={data:= #[110,111,32,114,101,108,97,116,105,111,110]}
abbrev QT:ByteArray:={data:= #[97,110,111,116,104,101,114,32,110,117,109,98,101,114,32,111,102,32,99,111,108,117,109,110,115]}
abbrev VG:ByteArray:={data:= #[97,110,111,116,104,101,114,32,116,121,112,101]}
abbrev Qn:ByteArray:={data:= #[110,111,32,112,97,114,116,32,105,115,32,114,101,97,100,121]}
noncomputable def low:Nat:=(World.holding Tryz.prog default ⟨#[], #[],[]⟩).heap.size
def JV(n:Nat)(h:Array Go.Obj)(g:Nat):Array Go.Obj:=h.modify g fun
 | .cells _ t frozen=> .cells #[.iface 306 (.pointer (some ⟨n,0,none⟩))] t frozen
 |o=>o
noncomputable def yt(os:Os):World:=
 let w0:=World.holding Tryz.prog os ⟨#[.cells #[.string Vn] 331, .cells #[.string R5] 331, .cells #[.string QT] 331, .cells #[.string VG] 331, .cells #[.string Qn] 331], #[],[]⟩
 {w0 with heap:=(JV (low+4) (JV (low+3) (JV (low+2) (JV (low+1) (JV (low+0) w0.heap 1) 3) 4) 2) 0)}
theorem LJ(os:Os)(args:Array Value):laidMetH Tryz.prog KS ((yt os).forCall (fun _ _=>0) ⟨#[],args,[]⟩).memory:=
 laidMetH_of_parts (laidMet_of_run (ps:=[.cell 1 0, .cell (low+0) 0, .cell 3 0, .cell (low+1) 0, .cell 4 0, .cell (low+2) 0, .cell 2 0, .cell (low+3) 0, .cell 0 0, .cell (low+4) 0]) 8 (by kernel_rfl) (by kernel_rfl) (by kernel_rfl)) (by kernel_rfl)
end Go.Proofs.YthaiinlfnommnaaGreatDoor
