import Derived.Test.YthaiinlfnommnaaGreatDoorDbMF
import Derived.Test.YthaiinlfnommnaaGreatDoorDbM2
import Derived.Test.YthaiinlfnommnaaGreatDoorDoG
import Derived.Test.YthaiinlfnommnaaGreatDoorRows
import Derived.ProofKit
import Derived.Deep.DeepHandedRow
import Derived.Stop.LaidTwo
import Derived.LaidHandle
namespace Go.Proofs.YthaiinlfnommnaaGreatDoor
open Go Go.Dn Go.Rl Go.Proofs
attribute [local irreducible] ba vc
set_option maxRecDepth 20000
abbrev SL(bs:List AV)(i:Nat):S:=sp 122 [(3, .bool true),(4, .aq 0 0 bs.length),(6, .int i)] [.row 41 bs]
abbrev S7(bs:List AV)(i k:Nat):S:=sp 122 [(3, .bool true),(4, .aq 0 0 bs.length),(6, .int i),(7, .int k)] [.row 41 bs]
abbrev Sx(bs:List AV)(q:QD)(l:List AV)(i k n:Nat):S:=sp 122 [(3, .bool true),(4, .aq 0 0 bs.length),(6, .int i),(7, .int k),(8, .ptr 1 0 [] 0),(9, .ad 3 l),(10, .int n)] [.row 41 bs, .box 45 (qA q)]
abbrev Un(bs:List AV)(i k:Nat):S:=sp 122 [(3, .bool true),(4, .aq 0 0 bs.length),(6, .int i),(11, .int k)] [.row 41 bs]
theorem xT3(κ:Kp)(bs:List AV)(q:QD)(l:List AV)(i k m:Nat)(I:Nat->S->Prop)(n:Nat)(K:Exit->S->Prop):(vc (Qj κ).E 12 9 none 0 (af (Pr κ).toProgram 9 16) (Sx bs q l i k m) (bJ (Qj κ).E 9 16 0 I n K))=(
 letI z1:=AV.agg [AV.int q.rel,AV.ad 58 q.steps,AV.ad 56 q.out,AV.int q.delta]
 letI z2:=ai (ae (nth bs (0+Int.toNat (↑i:Int))) 0)
 letI z3:=(↑m:Int)<(↑(l.length):Int)
 aD (decide z3) (a7 (true&&decide ((↑i:Int)<(↑(bs.length):Int))) (a7 (true&&decide z3) (a7 (decide (List.length z2<=9223372036854775807)) (aD (sW
 (toInt (nth l (Int.toNat (↑m:Int)))) z2) (K Exit.ret (sp 122 [(2,AV.bool false)] [])) (∃(e0:Nat),e0<n/\I e0 (sp 122 [(3,AV.bool true),(4,AV.aq 0 0
 bs.length),(6,AV.int (↑i:Int)),(7,AV.int (↑k:Int)),(8,AV.ptr 1 0 [] 0),(9,AV.ad 3 l),(10,AV.int (IntKind.wrap IntKind.i64 ((↑m:Int)+(1:
 Int))))] [Obj.row 41 bs,Obj.box 45 z1])))))) (K (Exit.exit 4) (sp 122 [(3,AV.bool true),(4,AV.aq 0 0 bs.length),(6,AV.int (↑i:Int)),(7,AV.int (↑k:
 Int)),(8,AV.ptr 1 0 [] 0)] [Obj.row 41 bs,Obj.box 45 z1]))):=by kernel_rfl
abbrev ME(bs:List AV)(j:Nat):List AV:=ai (ae (nth bs j) 1)
abbrev MC(bs:List AV)(j:Nat):List AV:=ai (ae (nth bs j) 2)
abbrev Qu(bs:List AV)(j:Nat):List AV:=ai (ae (nth bs j) 0)
structure VT where
 bs:List AV
 q:QD
 l:List Int
 i:Nat
 k:Nat
 m:Nat
abbrev PC(x:VT):S:=Sx x.bs x.q (cq x.l) x.i x.k x.m
def K9(x:VT):Prop:=(x.i<x.bs.length/\(Qu x.bs x.i).length<=60)/\x.l.length<=100000/\x.m<=x.l.length/\∀c,c∈x.l->sW c (Qu x.bs x.i)=false
def UR(x:VT):Out (Exit×S):= .one (.exit 4,sp 122 [(3, .bool true),(4, .aq 0 0 x.bs.length),(6, .int x.i),(7, .int x.k),(8, .ptr 1 0 [] 0)] [.row 41 x.bs, .box 45 (qA x.q)])
theorem KF: ∀(l:List Int) (k:Nat) (h:k<l.length),toInt (nth (cq l) k)=l[k]:=fun l k h=>by
 rw[bf _ _ (by rw[ez];exact h)]
 simp[cq,toInt]
theorem lT3(κ:Kp):bj (Qj κ).E 12 9 16 (aO 0 PC K9 UR):=by
 refine aK (fun x=>x.l.length - x.m) ?_
 rintro⟨bs,q,l,i,k,m⟩ K ⟨⟨hi,hr⟩,hl,hm,hc⟩ ho
 simp only at hi hr hl hm hc
 rw[show(Qj κ).E.P=Pr κ from rfl]
 refine Eq.mpr (xT3 κ bs q (cq l) i k m _ _ K) ?_
 simp only[Int.toNat_natCast,Nat.zero_add,ez]
 rw[ah,aa1,aa3]
 refine⟨fun h=>?_,fun _=>ho⟩
 have hk:m<l.length:=by omega
 rw[KF l m hk,aV (n:=(m:Int)+1) (by omega) (by omega)]
 refine an.2 ⟨by simp;omega,an.2 ⟨by simp;omega,an.2 ⟨by rw[aa1];exact Nat.le_trans hr (by decide),ah.2 ⟨fun e=>?_,fun _=>?_⟩⟩⟩⟩
 ·rw[hc _ (List.getElem_mem hk)] at e;cases e
 ·exact⟨_,by simp only;omega,⟨bs,q,l,i,k,m+1⟩,rfl,⟨⟨hi,hr⟩,hl,hk,hc⟩,rfl,ho⟩
noncomputable def Q9(κ:Kp):EB:=(Qj κ).loop (lT3 κ)
theorem xT2(κ:Kp)(bs:List AV)(i k:Nat)(I:Nat->S->Prop)(n:Nat)(K:Exit->S->Prop):(vc (Q9 κ).E 12 9 none 0 (af (Pr κ).toProgram 9 11) (S7 bs i k) (bJ (Q9 κ).E 9 11 0 I n K))=(
 letI z2:=ai (ae (nth bs (0+Int.toNat (↑i:Int))) 1)
 letI z1:=nth z2 (Int.toNat (↑k:Int))
 letI z3:=true&&decide ((↑i:Int)<(↑(bs.length):Int))
 letI z4:=(↑k:Int)<(↑(List.length z2):Int)
 letI z5:=Pg.toProgram (Env.P (EB.E (Qj κ)))
 a7 z3 (aD (decide z4) (a7 z3 (a7 (true&&decide z4) (∃(e2:QD),([AV.agg [AV.int (toInt (ae z1 0)),AV.ad 58 (ai (ae z1 1)),AV.ad 56 (ai (ae z1 2)),AV.int
 (toInt (ae z1 3))]],[])=TW e2/\Ju e2/\af z5 9 16=af z5 9 16/\∃(e1:VT),sp 122 [(3,AV.bool true),(4,AV.aq 0 0 bs.length),(6,AV.int (↑i:Int)),
 (7,AV.int (↑k:Int)),(8,AV.ptr 1 0 [] 0),(9,AV.ad 3 (cq (Vg e2.steps))),(10,AV.int 0)] [Obj.row 41 bs,Obj.box 45 (AV.agg [AV.int (toInt (ae z1 0)),
 AV.ad 58 (ai (ae z1 1)),AV.ad 56 (ai (ae z1 2)),AV.int (toInt (ae z1 3))])]=PC e1/\K9 e1/\aD (e1.q.delta != (-1:Int)) (K Exit.ret (sp 122 [(2,AV.bool
 false)] [])) (∃(e0:Nat),e0<n/\I e0 (sp 122 [(3,AV.bool true),(4,AV.aq 0 0 e1.bs.length),(6,AV.int (↑(e1.i):Int)),(7,AV.int (IntKind.wrap
 IntKind.i64 ((↑(e1.k):Int)+(1:Int))))] [Obj.row 41 e1.bs]))))) (K (Exit.exit 2) (sp 122 [(3,AV.bool true),(4,AV.aq 0 0 bs.length),(6,AV.int (↑i:
 Int))] [Obj.row 41 bs])))):=by kernel_rfl
structure GR(bs:List AV):Prop where
 len:bs.length<=100
 f0: ∀j,j<bs.length->(Qu bs j).length<=60
 f1: ∀j,j<bs.length->(ME bs j).length<=100000000/\∀y,y∈ME bs j->∃q:QD,y=qA q/\q.delta= -1/\q.steps.length<=100000/\∀c,c∈oI q.steps->sW c (Qu bs j)=false
 f2: ∀j,j<bs.length->(MC bs j).length<=100000000000/\∀y,y∈MC bs j->∃q:QD,y=qA q/\∃k:Nat,k<q.steps.length/\q.delta=(k:Int)/\toInt (ae (nth q.steps k) 0)=1/\sW (toInt (ae (nth q.steps k) 2)) (Qu bs j)=true
structure HI where
 bs:List AV
 i:Nat
 k:Nat
abbrev PY(x:HI):S:=S7 x.bs x.i x.k
def Mc(x:HI):Prop:=GR x.bs/\x.i<x.bs.length/\x.k<=(ME x.bs x.i).length
def SK(x:HI):Out (Exit×S):= .one (.exit 2,sp 122 [(3, .bool true),(4, .aq 0 0 x.bs.length),(6, .int x.i)] [.row 41 x.bs])
theorem lT2(κ:Kp):bj (Q9 κ).E 12 9 11 (aO 0 PY Mc SK):=by
 refine aK (fun x=>(ME x.bs x.i).length - x.k) ?_
 rintro⟨bs,i,k⟩ K ⟨hG,hi,hk⟩ ho
 simp only at hG hi hk
 rw[show(Q9 κ).E.P=Pr κ from rfl]
 refine Eq.mpr (xT2 κ bs i k _ _ K) ?_
 have hb:(true&&decide ((i:Int)<(bs.length:Int)))=true:=by simp;omega
 have f0:=hG.f0 i hi
 obtain⟨f1,f2⟩:=hG.f1 i hi
 simp only[Int.toNat_natCast,Nat.zero_add]
 refine an.2 ⟨hb,?_⟩
 rw[ah,aa1,aa3]
 refine⟨fun h=>?_,fun _=>ho⟩
 have hk':k<(ME bs i).length:=by have:(k:Int)<((ME bs i).length:Int):=h;omega
 have hm:nth (ME bs i) k∈ME bs i:=by rw[bf _ _ hk'];exact List.getElem_mem _
 obtain⟨q,hq,hd,hl,hc⟩:=f2 _ hm
 have hq:nth (ai (ae (nth bs i) 1)) k=qA q:=hq
 rw[hq]
 have hr:=Ny q.steps
 refine an.2 ⟨hb,an.2 ⟨by simpa using h,q,rfl,hl,trivial,⟨bs,q,Vg q.steps,i,k,0⟩,rfl,⟨⟨hi,f0⟩,by simp only;omega,Nat.zero_le _,fun c h=>hc c (NW h)⟩,ah.2 ⟨fun e=>?_,fun _=>?_⟩⟩⟩
 ·simp only[hd] at e;cases e
 ·simp only
  rw[aV (n:=(k:Int)+1) (by omega) (by omega)]
  exact⟨_,by simp only;omega,⟨bs,i,k+1⟩,rfl,⟨hG,hi,hk'⟩,rfl,ho⟩
noncomputable def RR(κ:Kp):EB:=(Q9 κ).loop (lT2 κ)
theorem xT4(κ:Kp)(bs:List AV)(i k:Nat)(I:Nat->S->Prop)(n:Nat)(K:Exit->S->Prop):(vc (RR κ).E 12 9 none 0 (af (Pr κ).toProgram 9 23) (Un bs i k) (bJ (RR κ).E 9 23 0 I n K))=(
 letI z2:=nth bs (0+Int.toNat (↑i:Int))
 letI z1:=nth (ai (ae z2 2)) (Int.toNat (↑k:Int))
 letI z3:=K Exit.ret (sp 122 [(2,AV.bool false)] [])
 letI z4:=true&&decide ((↑i:Int)<(↑(bs.length):Int))
 letI z5:=(↑k:Int)<(↑(List.length (ai (ae z2 2))):Int)
 letI z6:=nth (ai (ae z1 1)) (Int.toNat (toInt (ae z1 3)))
 letI z7:=List.length (ai (ae z1 1))
 a7 z4 (aD (decide z5) (a7 z4 (a7 (true&&decide z5) (aD (decide (toInt (ae z1 3)<(0:Int))) z3 (aD (decide (toInt (ae z1 3)>=(↑z7:Int))) z3 (a7 (decide
 ((0:Int)<=toInt (ae z1 3))&&decide (toInt (ae z1 3)<(↑z7:Int))) (aD (toInt (ae z6 0) != (1:Int)) z3 (a7 z4 (a7 (decide (List.length (ai (ae z2 0))<=
 9223372036854775807)) (aD (!sW (toInt (ae z6 2)) (ai (ae z2 0))) z3 (∃(e0:Nat),e0<n/\I e0 (sp 122 [(3,AV.bool true),(4,AV.aq 0 0 bs.length),(6,
 AV.int (↑i:Int)),(11,AV.int (IntKind.wrap IntKind.i64 ((↑k:Int)+(1:Int))))] [Obj.row 41 bs]))))))))))) (K (Exit.exit 6) (sp 122 [(3,AV.bool true),
 (4,AV.aq 0 0 bs.length),(6,AV.int (↑i:Int))] [Obj.row 41 bs])))):=by kernel_rfl
abbrev Po(x:HI):S:=Un x.bs x.i x.k
def Lz(x:HI):Prop:=GR x.bs/\x.i<x.bs.length/\x.k<=(MC x.bs x.i).length
def Uo(x:HI):Out (Exit×S):= .one (.exit 6,sp 122 [(3, .bool true),(4, .aq 0 0 x.bs.length),(6, .int x.i)] [.row 41 x.bs])
theorem lT4(κ:Kp):bj (RR κ).E 12 9 23 (aO 0 Po Lz Uo):=by
 refine aK (fun x=>(MC x.bs x.i).length - x.k) ?_
 rintro⟨bs,i,k⟩ K ⟨hG,hi,hk⟩ ho
 simp only at hG hi hk
 rw[show(RR κ).E.P=Pr κ from rfl]
 refine Eq.mpr (xT4 κ bs i k _ _ K) ?_
 have hb:(true&&decide ((i:Int)<(bs.length:Int)))=true:=by simp;omega
 have f0:=hG.f0 i hi
 obtain⟨f1,f2⟩:=hG.f2 i hi
 simp only[Int.toNat_natCast,Nat.zero_add]
 refine an.2 ⟨hb,?_⟩
 rw[ah,aa1,aa3]
 refine⟨fun h=>?_,fun _=>ho⟩
 have hk':k<(MC bs i).length:=by have:(k:Int)<((MC bs i).length:Int):=h;omega
 have hm:nth (MC bs i) k∈MC bs i:=by rw[bf _ _ hk'];exact List.getElem_mem _
 obtain⟨q,hq,d,h1,h2,h3,h4⟩:=f2 _ hm
 have hq:nth (ai (ae (nth bs i) 2)) k=qA q:=hq
 rw[hq]
 have e1:toInt (ae (qA q) 3)=(d:Int):=h2
 have e2:ai (ae (qA q) 1)=q.steps:=rfl
 rw[e1,e2,Int.toNat_natCast,h3]
 refine an.2 ⟨hb,an.2 ⟨by simpa using h,ah.2 ⟨fun e=>?_,fun _=>ah.2 ⟨fun e=>?_,fun _=>an.2 ⟨by simp;omega,ah.2 ⟨fun e=>?_,fun _=>an.2 ⟨hb,an.2 ⟨by rw[aa1];exact Nat.le_trans f0 (by decide),ah.2 ⟨fun e=>?_,fun _=>?_⟩⟩⟩⟩⟩⟩⟩⟩⟩
 ·rw[aa1] at e;omega
 ·rw[aa1] at e;omega
 ·cases e
 ·have h4:sW (toInt (ae (nth q.steps d) 2)) (ai (ae (nth bs i) 0))=true:=h4
  rw[h4] at e;cases e
 ·rw[aV (n:=(k:Int)+1) (by omega) (by omega)]
  exact⟨_,by simp only;omega,⟨bs,i,k+1⟩,rfl,⟨hG,hi,hk'⟩,rfl,ho⟩
noncomputable def MP(κ:Kp):EB:=((RR κ).loop (lT4 κ))
theorem xT1(κ:Kp)(bs:List AV)(i:Nat)(I:Nat->S->Prop)(n:Nat)(K:Exit->S->Prop):(vc (MP κ).E 12 9 none 0 (af (Pr κ).toProgram 9 8) (SL bs i) (bJ (MP κ).E 9 8 0 I n K))=(
 letI z1:=Pg.toProgram (Env.P (EB.E (Q9 κ)))
 letI z2:=Pg.toProgram (Env.P (EB.E (RR κ)))
 aD (decide ((↑i:Int)<(↑(bs.length):Int))) (af z1 9 11=af z1 9 11/\∃(e2:HI),sp 122 [(3,AV.bool true),(4,AV.aq 0 0 bs.length),(6,AV.int (↑i:
 Int)),(7,AV.int 0)] [Obj.row 41 bs]=PY e2/\Mc e2/\af z2 9 23=af z2 9 23/\∃(e1:HI),sp 122 [(3,AV.bool true),(4,AV.aq 0 0 e2.bs.length),(6,
 AV.int (↑(e2.i):Int)),(11,AV.int 0)] [Obj.row 41 e2.bs]=Po e1/\Lz e1/\∃(e0:Nat),e0<n/\I e0 (sp 122 [(3,AV.bool true),(4,AV.aq 0 0
 e1.bs.length),(6,AV.int (IntKind.wrap IntKind.i64 ((↑(e1.i):Int)+(1:Int))))] [Obj.row 41 e1.bs])) (K (Exit.exit 0) (sp 122 [(3,AV.bool true)] []))):=by kernel_rfl
abbrev Mr(x:HI):S:=SL x.bs x.i
def Eh(x:HI):Prop:=GR x.bs/\x.i<=x.bs.length
def TV(_:HI):Out (Exit×S):= .one (.exit 0,sp 122 [(3, .bool true)] [])
theorem lT1(κ:Kp):bj (MP κ).E 12 9 8 (aO 0 Mr Eh TV):=by
 refine aK (fun x=>x.bs.length - x.i) ?_
 rintro⟨bs,i,k⟩ K ⟨hG,hi⟩ ho
 simp only at hG hi
 rw[show(MP κ).E.P=Pr κ from rfl]
 refine Eq.mpr (xT1 κ bs i _ _ K) ?_
 rw[ah,aa1,aa3]
 refine⟨fun h=>?_,fun _=>ho⟩
 have hi':i<bs.length:=by omega
 have hl:=hG.len
 refine⟨rfl,⟨bs,i,0⟩,rfl,⟨hG,hi',Nat.zero_le _⟩,rfl,⟨bs,i,0⟩,rfl,⟨hG,hi',Nat.zero_le _⟩,?_⟩
 simp only
 rw[aV (n:=(i:Int)+1) (by omega) (by omega)]
 exact⟨_,by simp only;omega,⟨bs,i+1,0⟩,rfl,⟨hG,hi'⟩,rfl,ho⟩
noncomputable def WM(κ:Kp):EB:=(MP κ).loop (lT1 κ)
theorem yTn(κ:Kp)(ds rs:List AV)(K:AV->List Dn.Obj->Prop):(ba (WM κ).E 12 9 [gN ds rs] [] K)=(
 letI z1:=Pg.toProgram (Env.P (EB.E (MP κ)))
 a7 (decide (ds.length<=9223372036854775807)&&List.all ds fun(e0:AV)=>decide (List.length (ai (ae e0 1))<=9223372036854775807)) (aD ((bif ru ds rs then
 (1:Int) else(0:Int))==(0:Int)) (K (AV.bool true) []) (∃(e1:rr),([AV.agg [AV.ad 61 ds,AV.ad 66 rs]],[])=Qb e1/\DL e1/\aD (decide (Prod.snd (sF
 e1.1 e1.2)=(0:Int))) (af z1 9 8=af z1 9 8/\∃(e0:HI),sp 122 [(3,AV.bool true),(4,AV.aq 0 0 (List.length (je e1.1 e1.2))),(6,AV.int 0)] [Obj.row
 41 (je e1.1 e1.2)]=Mr e0/\Eh e0/\K (AV.bool true) []) (aD (Prod.snd (sF e1.1 e1.2) != (0:Int)) (K (AV.bool true) []) (af z1 9 8=af z1 9 8/\∃(e0:HI),
 sp 122 [(3,AV.bool true),(4,AV.nil),(6,AV.int 0)] []=Mr e0/\Eh e0/\K (AV.bool true) []))))):=by kernel_rfl
theorem GV(c:Int)(g:List Int):sW c (iA g)=true↔c∈g:=by
 simp only[sW,iA,List.any_map,List.any_eq_true,Function.comp,beq_iff_eq]
 exact⟨fun⟨x,h1,h2⟩=>by have:x=c:=h2;rw[←this];exact h1,fun h=>⟨c,h,rfl⟩⟩
theorem Qr{ds rs:List AV}(hs:fw ds rs)(hz:(sF ds rs).2=0):GR (je ds rs):=by
 have hc:=G8 hz
 have hf:=jF hc
 have hr:=hf.hr
 have hd:=hf.hd
 have hl:=FB ds rs
 have hO: ∀i (h:i<(ko ds rs).length),ME (je ds rs) i=(wT ds rs (ko ds rs)[i] rs).map qA:=fun i h=>by unfold ME;rw[Ay _ _ _ h];rfl
 have hL: ∀i (h:i<(ko ds rs).length),MC (je ds rs) i=(xa ds rs (ko ds rs)[i] rs).map qA:=fun i h=>by unfold MC;rw[Ay _ _ _ h];rfl
 have hR: ∀i (h:i<(ko ds rs).length),Qu (je ds rs) i=iA (ko ds rs)[i]:=fun i h=>by unfold Qu;rw[Ay _ _ _ h];rfl
 refine⟨by rw[qf];omega,fun i hi=>?_,fun i hi=>?_,fun i hi=>?_⟩
 ·rw[qf] at hi
  rw[hR i hi,gf]
  exact Nat.le_trans (GY (List.getElem_mem hi)) hd
 ·rw[qf] at hi
  rw[hO i hi,hR i hi,List.length_map]
  refine⟨?_,fun y hy=>?_⟩
  ·have:(wT ds rs (ko ds rs)[i] rs).length<=rs.length:=zG _ _ _ _ _
   omega
  ·obtain⟨x,h1,rfl⟩:=List.mem_map.1 hy
   refine⟨x,rfl,Dt h1,?_,fun c h=>?_⟩
   ·obtain⟨r,h2,_,_,rfl⟩:=qU h1
    exact yS hs hc h2
   ·have:=OK hs hz (List.getElem_mem hi) h1 h
    rw[Bool.eq_false_iff,Ne,GV]
    exact this
 ·rw[qf] at hi
  rw[hL i hi,hR i hi,List.length_map]
  refine⟨?_,fun y hy=>?_⟩
  ·have:(xa ds rs (ko ds rs)[i] rs).length<=rs.length*100000:=yE _ _ _ _ _ _ fun r h=>yS hs hc h
   omega
  ·obtain⟨x,h1,rfl⟩:=List.mem_map.1 hy
   obtain⟨k,h2,h3,h4,h5⟩:=MQ h1
   exact⟨x,rfl,k,h2,h3,h4,(GV _ _).2 h5⟩
theorem Tg(κ:Kp)(ds rs:List AV)(h1:ds.length<=aR)(h2: ∀d,d∈ds->(ai (ae d 1)).length<=aR):cM (Pr κ) 9 [gN ds rs] [] (fun r _=>r= .bool true):=by
 refine iB (WM κ).ok (WM κ).mono (N:=12) ?_
 refine Eq.mpr (yTn κ ds rs _) (HH h1 h2 rfl fun hs _=>?_)
 have hp:=sQ hs
 refine⟨(ds,rs),rfl,hp,?_⟩
 rw[ah,aa1,aa3]
 refine⟨fun e=>⟨rfl,⟨je ds rs,0,0⟩,rfl,⟨Qr hp e,Nat.zero_le _⟩,rfl⟩,fun e=>?_⟩
 rw[ah]
 exact⟨fun _=>rfl,fun e2=>absurd (by simpa using e2) e⟩
end Go.Proofs.YthaiinlfnommnaaGreatDoor
namespace Go.Proofs.YthaiinlfnommnaaGreatDoor
open Go Go.Dn Go.Rl Go.Proofs Go.ChangeShapes Go.WideShapes Go.ChangeAt Go.RowKit
theorem own:ownKnob Tryz.prog.godebug=none:=by kernel_rfl
theorem Ks:laidOutB Tryz.prog=true:=by kernel_rfl
abbrev I5:List (String×DataW Unit):=[("sorites/dtree.errTree",Rows.laid_sorites_dtree_errTree),("sorites/dtype.errNoRel",Rows.laid_sorites_dtype_errNoRel),("sorites/dtype.errArity",Rows.laid_sorites_dtype_errArity),("sorites/dtype.errType",Rows.laid_sorites_dtype_errType),("sorites/dsafe.errStuck",Rows.laid_sorites_dsafe_errStuck)]
theorem P5:Tryz.prog.globalNamed "sorites/dtree.errTree" =some 1:=by kernel_rfl
theorem EE:Tryz.prog.globalNamed "sorites/dtype.errNoRel" =some 3:=by kernel_rfl
theorem Di:Tryz.prog.globalNamed "sorites/dtype.errArity" =some 4:=by kernel_rfl
theorem Kx:Tryz.prog.globalNamed "sorites/dtype.errType" =some 2:=by kernel_rfl
theorem KK:Tryz.prog.globalNamed "sorites/dsafe.errStuck" =some 0:=by kernel_rfl
theorem QK:(Tryz.prog.globals[1]?).map (·.type)=some 170:=by kernel_rfl
theorem GI:(Tryz.prog.globals[3]?).map (·.type)=some 170:=by kernel_rfl
theorem FO:(Tryz.prog.globals[4]?).map (·.type)=some 170:=by kernel_rfl
theorem LX:(Tryz.prog.globals[2]?).map (·.type)=some 170:=by kernel_rfl
theorem OJ:(Tryz.prog.globals[0]?).map (·.type)=some 170:=by kernel_rfl
theorem yZ:Tryz.prog.cellsOf 331=1:=by kernel_rfl
theorem yW:Tryz.prog.cellsOf 9=1:=by kernel_rfl
theorem PQ: "*" ++ "errors.errorString" = "*errors.errorString" :=by decide
theorem M8(u:TypeId)(h:Tryz.prog.typeName? 3 u=some "*errors.errorString"):u=306:=
 typeName_ptr_named (nm:= "errors.errorString") (by rw[PQ];kernel_rfl) (by kernel_rfl) (by decide) u (by rw[PQ];exact h)
theorem mb{P:Program}{w:World}{n:String}{g:Nat}{cs:Array Value}(hg:P.globalNamed n=some g)(h:w.var? P n=some cs): ∃T z,w.heap[g]? =some (.cells cs T z):=by
 simp only[World.var?,hg,Option.bind_some] at h
 split at h
 ·rename_i cs' T z e
  cases h
  exact⟨T,z,e⟩
 ·cases h
theorem nX{W:World}{a:Addr}{s:ByteArray}{g:Nat}{v:Value}{T:TypeId}{z:Nat×Nat}(h:W.cell? a=some (.string s))(hv: ∀t,v≠ .string t)(hg:W.heap[g]? =some (.cells #[v] T z)):a.block≠g:=by
 intro e
 unfold World.cell? at h
 rw[e,hg] at h
 simp only at h
 split at h
 ·cases h
 ·obtain⟨h1,h2⟩:=Array.getElem?_eq_some_iff.1 h
  have:a.off=0:=by simp at h1;omega
  simp only[this] at h2
  exact hv s h2
theorem zV{W:World}(h:laidMetH Tryz.prog I5 W): ∃κ:Kp,∀b o,yf κ b=some o->W.heap[b]? =some o:=by
 have h':laidMet Tryz.prog I5 W:=h
 obtain⟨aT,aN,sT,sN,cT,cN,tT,tN,vT,vN,kT,xT,_,kN,xN,_,dTN,bT,bN⟩:=laid_sentinels2 h' P5 QK EE GI Tryz.underlying170 M8 Tryz.underlying306 Tryz.underlying331 rfl rfl Tryz.underlying9 yZ yW
 obtain⟨aN',aA,sN',sA,cN',cA,tN',tA,vN',vA,kN',_,_,kA,xA,_,dNA,_,bA⟩:=laid_sentinels2 h'.tail EE GI Di FO Tryz.underlying170 M8 Tryz.underlying306 Tryz.underlying331 rfl rfl Tryz.underlying9 yZ yW
 obtain⟨aA',aY,sA',sY,cA',cY,tA',tY,vA',vY,kA',_,_,kY,xY,_,dAY,_,bY⟩:=laid_sentinels2 h'.tail.tail Di FO Kx LX Tryz.underlying170 M8 Tryz.underlying306 Tryz.underlying331 rfl rfl Tryz.underlying9 yZ yW
 obtain⟨aY',aS,sY',sS,cY',cS,tY',tS,vY',vS,kY',_,_,kS,xS,_,dYS,_,bS⟩:=laid_sentinels2 h'.tail.tail.tail Kx LX KK OJ Tryz.underlying170 M8 Tryz.underlying306 Tryz.underlying331 rfl rfl Tryz.underlying9 yZ yW
 have eN:aN'=aN:=by
  rw[vN] at vN'
  simpa using vN'.symm
 have eA:aA'=aA:=by
  rw[vA] at vA'
  simpa using vA'.symm
 subst eN
 subst eA
 have dNY:aN'≠aY:=fun e=>by
  subst e
  rw[kN] at kY
  cases kY
  rw[xN] at xY
  revert xY
  decide
 obtain⟨T1,z1,e1⟩:=mb P5 vT
 obtain⟨T2,z2,e2⟩:=mb KK vS
 obtain⟨T3,z3,e3⟩:=mb EE vN
 obtain⟨T4,z4,e4⟩:=mb Di vA
 obtain⟨T5,z5,e5⟩:=mb Kx vY
 have nn: ∀{a:Addr} {s:ByteArray},W.cell? a=some (.string s)->∀g,g∈[1,0,3,4,2]->a.block≠g:=fun hk g hg=>by
  simp only[ac3,List.not_mem_nil,or_false] at hg
  rcases hg with rfl|rfl|rfl|rfl|rfl
  ·exact nX hk (fun _=>by simp) e1
  ·exact nX hk (fun _=>by simp) e2
  ·exact nX hk (fun _=>by simp) e3
  ·exact nX hk (fun _=>by simp) e4
  ·exact nX hk (fun _=>by simp) e5
 refine⟨{tree:=aT,stuck:=aS,T1:=T1,T2:=T2,z1:=z1,z2:=z2,fE:=aN',arity:=aA',type:=aY,T3:=T3,T4:=T4,T5:=T5,z3:=z3,z4:=z4,z5:=z5,c3:=cN,c4:=cA,c5:=cY,t3:=tN,t4:=tA,t5:=tY,d1:=dNA,d2:=dNY,d3:=dAY,n3:=nn kN,n4:=nn kA,n5:=nn kY},fun b o hb=>?_⟩
 unfold yf at hb
 cases q0:Nat.beq b 1 with
 |true=>
  rw[q0,aa8] at hb
  cases hb
  rw[Nat.eq_of_beq_eq_true q0];exact e1
 | false =>
  rw[q0,aa6] at hb
  cases q1:Nat.beq b 0 with
  |true=>
   rw[q1,aa8] at hb
   cases hb
   rw[Nat.eq_of_beq_eq_true q1];exact e2
  | false=>
   rw[q1,aa6] at hb
   cases q2:Nat.beq b 3 with
   |true=>
    rw[q2,aa8] at hb
    cases hb
    rw[Nat.eq_of_beq_eq_true q2];exact e3
   | false=>
    rw[q2,aa6] at hb
    cases q3:Nat.beq b 4 with
    |true=>
     rw[q3,aa8] at hb
     cases hb
     rw[Nat.eq_of_beq_eq_true q3];exact e4
    | false=>
     rw[q3,aa6] at hb
     cases q4:Nat.beq b 2 with
     |true=>
      rw[q4,aa8] at hb
      cases hb
      rw[Nat.eq_of_beq_eq_true q4];exact e5
     | false=>
      rw[q4,aa6] at hb
      cases q5:Nat.beq b aN'.block with
      |true=>
       rw[q5,aa8] at hb
       cases hb
       rw[Nat.eq_of_beq_eq_true q5];exact bN
      | false=>
       rw[q5,aa6] at hb
       cases q6:Nat.beq b aA'.block with
       |true=>
        rw[q6,aa8] at hb
        cases hb
        rw[Nat.eq_of_beq_eq_true q6];exact bA
       | false=>
        rw[q6,aa6] at hb
        cases q7:Nat.beq b aY.block with
        |true=>
         rw[q7,aa8] at hb
         cases hb
         rw[Nat.eq_of_beq_eq_true q7];exact bY
        |false=>
         rw[q7,aa6] at hb
         cases hb
abbrev SH:ByteArray:={data:= #[110,111,32,116,114,101,101]}
abbrev Qe:ByteArray:={data:= #[110,111,32,114,101,108,97,116,105,111,110]}
abbrev RL:ByteArray:={data:= #[97,110,111,116,104,101,114,32,110,117,109,98,101,114,32,111,102,32,99,111,108,117,109,110,115]}
abbrev Tf:ByteArray:={data:= #[97,110,111,116,104,101,114,32,116,121,112,101]}
abbrev RM:ByteArray:={data:= #[110,111,32,112,97,114,116,32,105,115,32,114,101,97,100,121]}
noncomputable def low:Nat:=(World.holding Tryz.prog default ⟨#[], #[],[]⟩).heap.size
def Mg(n:Nat)(h:Array Go.Obj)(g:Nat):Array Go.Obj:=h.modify g fun
 | .cells _ t frozen=> .cells #[.iface 306 (.pointer (some ⟨n,0,none⟩))] t frozen
 |o=>o
noncomputable def x7(os:Os):World:=
 let w0:=World.holding Tryz.prog os ⟨#[.cells #[.string SH] 331, .cells #[.string Qe] 331, .cells #[.string RL] 331, .cells #[.string Tf] 331, .cells #[.string RM] 331], #[],[]⟩
 {w0 with heap:=(Mg (low+4) (Mg (low+3) (Mg (low+2) (Mg (low+1) (Mg (low+0) w0.heap 1) 3) 4) 2) 0)}
theorem K8(os:Os)(args:Array Value):laidMetH Tryz.prog I5 ((x7 os).forCall (fun _ _=>0) ⟨#[],args,[]⟩).memory:=
 laidMetH_of_parts (laidMet_of_run (ps:=[.cell 1 0, .cell (low+0) 0, .cell 3 0, .cell (low+1) 0, .cell 4 0, .cell (low+2) 0, .cell 2 0, .cell (low+3) 0, .cell 0 0, .cell (low+4) 0]) 8 (by kernel_rfl) (by kernel_rfl) (by kernel_rfl)) (by kernel_rfl)
end Go.Proofs.YthaiinlfnommnaaGreatDoor
