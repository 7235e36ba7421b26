import Derived.Test.YthaiinlfnommnaaGreatDoorDbM3
import Derived.Test.YthaiinlfnommnaaGreatDoorDbM1
import Derived.Test.YthaiinlfnommnaaGreatDoorDbM2
namespace Go.Proofs.YthaiinlfnommnaaGreatDoor
open Go Go.Dn Go.Rl Go.Proofs
attribute [local irreducible] a9 vc
set_option maxRecDepth 20000
theorem x65(κ:Kp)(l:List AV)(s:ByteArray)(i:Int)(I:Nat->S->Prop)(n:Nat)(K:Exit->S->Prop):(vc (MN κ) 12 242 none 0 (af (Pr κ).toProgram 242 2) (sp 19 [(0, .ad 9 l),(1, .lit (.string s)),(7, .int l.length),(8, .int i)] []) (bH (MN κ) 242 2 0 I n K))=(
 letI z1:=i<(↑(l.length):Int)
 aD (decide z1) (a7 (decide ((0:Int)<=i)&&decide z1) (aD (ByteArray.toList s==ByteArray.toList (toStr (nth l i.toNat))) (K Exit.ret (sp 19 [(4,AV.int i)]
 [])) (∃(e0:Nat),e0<n/\I e0 (sp 19 [(0,AV.ad 9 l),(1,AV.str s),(7,AV.int (↑(l.length):Int)),(8,AV.int (IntKind.wrap IntKind.i64 (i+(1:
 Int))))] [])))) (K (Exit.exit 0) (sp 19 [] []))):=by kernel_rfl
abbrev TB(a:List AV×ByteArray×Int):S:=sp 19 [(0, .ad 9 a.1),(1, .lit (.string a.2.1)),(7, .int a.1.length),(8, .int a.2.2)] []
def KE(a:List AV×ByteArray×Int):Prop:=a.1.length<=aR/\0<=a.2.2/\a.2.2<=a.1.length
def Gt(a:List AV×ByteArray×Int):Out (Exit×S):= .aD (decide (dQ a.2.1 (a.1.drop a.2.2.toNat) a.2.2>=0)) (.one (.ret,sp 19 [(4, .int (dQ a.2.1 (a.1.drop a.2.2.toNat) a.2.2))] [])) (.one (.exit 0,sp 19 [] []))
theorem l65(κ:Kp):bh (MN κ) 12 242 2 (aP 0 TB KE Gt):=by
 refine aL (fun a=>a.1.length - a.2.2.toNat) ?_
 rintro⟨l,s,i⟩ K ⟨h1,h2,h3⟩ ho
 simp only at h1 h2 h3
 rw[show(MN κ).P=Pr κ from rfl]
 refine Eq.mpr (x65 κ l s i _ _ K) ?_
 simp only[aR] at h1
 simp only[Gt,Out.run,ah] at ho
 simp only[ah,an,aa1,aa3,aa2]
 refine⟨fun hi=>⟨⟨h2,hi⟩,fun e=>?_,fun e=>?_⟩,fun hi=>?_⟩
 ·rw[ab2 (show i.toNat<l.length by omega),←bg l i.toNat (by omega),dQ,show lZ s (toStr (nth l i.toNat))=true from e,aa8,aa7 (show i>=0 from h2)] at ho
  exact ho.1 rfl
 ·rw[aW (n:=i+1) (by omega) (by omega)]
  refine⟨_,?_,(l,s,i+1),rfl,⟨by simpa[aR] using h1,by simp only;omega,by simp only;omega⟩,rfl,?_⟩
  ·simp only;omega
  ·rw[ab2 (show i.toNat<l.length by omega),←bg l i.toNat (by omega),dQ,show lZ s (toStr (nth l i.toNat))=false from e,aa6] at ho
   simp only[Gt,Out.run,ah,show(i+1).toNat=i.toNat+1 by omega]
   exact ho
 ·rw[aa9 (by omega)] at ho
  exact ho.2 rfl
noncomputable def H9(κ:Kp):Env:=(MN κ).ak 242 2 (aP 0 TB KE Gt)
theorem VF(κ:Kp):aB (H9 κ):=(e39 κ).ak (X2 κ) (l65 κ)
theorem S2(κ:Kp):aj (H9 κ):=(X2 κ).ak aF
theorem y65(κ:Kp)(l:List AV)(s:ByteArray)(K:AV->List Dn.Obj->Prop):(a9 (H9 κ) 12 242 [.ad 9 l, .lit (.string s)] [] K)=(
 af (Pg.toProgram (Env.P (MN κ))) 242 2=af (Pg.toProgram (Env.P (MN κ))) 242 2/\∃(a:List AV×ByteArray×Int),sp 19 [(0,AV.ad 9 l),(1,
 AV.str s),(7,AV.int (↑(l.length):Int)),(8,AV.int 0)] []=sp 19 [(0,AV.ad 9 a.1),(1,AV.str a.2.1),(7,AV.int (↑(a.1.length):Int)),(8,AV.int
 a.2.2)] []/\(a.1.length<=9223372036854775807/\(0:Int)<=a.2.2/\a.2.2<=(↑(a.1.length):Int))/\aD (decide (dQ a.2.1 (List.drop (Int.toNat a.2.2)
 a.1) a.2.2>=(0:Int))) (K (AV.int (dQ a.2.1 (List.drop (Int.toNat a.2.2) a.1) a.2.2)) []) (K (AV.int (-1)) [])):=by kernel_rfl
def V5:List AV->Option (Bool×AV)
 |[.ad 9 l, .lit (.string s)]=>some (decide (l.length<=aR), .int (dQ s l 0))
 |_=>none
theorem uN(s:ByteArray): ∀(l:List AV) (i:Int),¬ dQ s l i>=0->0<=i->dQ s l i= -1
 |[],_,_,_=>rfl
 |a::l,i,h,h0=>by
  simp only[dQ] at h⊢
  cases e:lZ s (toStr a) with
  |true=>rw[e] at h;exact absurd h0 h
  |false=>rw[e] at h;exact uN s l (i+1) h (by omega)
theorem p65(κ:Kp):c9 (H9 κ) 12 242 V5:=by
 intro args x hh
 unfold V5 at hh
 split at hh
 ·rename_i l s
  simp only[aa4,ab0,aa1] at hh
  obtain⟨h1,rfl⟩:=hh
  refine⟨_,rfl,rfl,?_⟩
  refine Eq.mpr (y65 κ l s _) ?_
  refine⟨rfl,(l,s,0),rfl,⟨h1,by simp only;omega,by simp only;omega⟩,?_⟩
  simp only[ab8,ab1,ah,aa1,aa3]
  exact⟨fun _=>trivial,fun e=>by rw[uN s l 0 e (by omega)]⟩
 ·cases hh
noncomputable def QZ(κ:Kp):Env:=(H9 κ).aH 242 V5
theorem e65(κ:Kp):aB (QZ κ):=(VF κ).aH (S2 κ) (p65 κ)
theorem Yd(κ:Kp):aj (QZ κ):=(S2 κ).aH
theorem ZB(κ:Kp)(l:List AV)(s:ByteArray)(K:AV->List Dn.Obj->Prop):(a9 (QZ κ) 12 193 [.ad 9 l, .lit (.string s)] [] K)=(
 a7 (decide (l.length<=9223372036854775807)) (K (AV.bool (decide (dQ s l (0:Int)>=(0:Int)))) [])):=by kernel_rfl
def Uy:List AV->Option (Bool×AV)
 |[.ad 9 l, .lit (.string s)]=>some (decide (l.length<=aR), .bool (decide (dQ s l 0>=0)))
 |_=>none
theorem p63(κ:Kp):c9 (QZ κ) 12 193 Uy:=by
 intro args x hh
 unfold Uy at hh
 split at hh
 ·rename_i l s
  simp only[aa4,ab0,aa1] at hh
  obtain⟨h1,rfl⟩:=hh
  refine⟨_,rfl,rfl,?_⟩
  refine Eq.mpr (ZB κ l s _) ?_
  rw[an,aa1]
  exact⟨h1,rfl⟩
 ·cases hh
noncomputable def Rd(κ:Kp):Env:=(QZ κ).aH 193 Uy
theorem e63(κ:Kp):aB (Rd κ):=(e65 κ).aH (Yd κ) (p63 κ)
theorem Yg(κ:Kp):aj (Rd κ):=(Yd κ).aH
theorem y24(κ:Kp)(a:cg)(k:Int)(K:AV->List Dn.Obj->Prop):(a9 (Rd κ) 12 122 [aq a, .int k] [] K)=(
 letI z2:=nth a.bl k.toNat
 letI z1:=∃(e1:List AV),([AV.ad 56 [AV.agg [AV.int (toInt (ae (ae z2 2) 0)),AV.str (toStr (ae (ae z2 2) 1)),AV.int (toInt (ae (ae z2 2) 2)),AV.ad 56 (ai
  (ae (ae z2 2) 3))]]],aI)=([AV.ad 56 e1],aI)/\bC e1/\∃(e0:cg×Int),([aq a,AV.int k],aI)=([aq e0.1,AV.int e0.2],aI)/\(aK (aG e0.1)=true/\(aX
  (aa (bc 56 e0.1.hl e0.1.bl))<=100000/\e0.1.bl.length<=100000)/\(0:Int)<=e0.2/\e0.2<(↑(e0.1.bl.length):Int))/\a7 (decide ((List.length (aw (aa e1))
  +List.length (strs (dX (aG e0.1) e0.2.toNat))+1)*17<=70368744177664)) (K (AV.ad 9 (List.take (List.length (aw (aa e1))+List.length (strs (dX (aG e0.1)
  e0.2.toNat))) (List.drop 0 (List.take (List.length (aw (aa e1))) (strs (aw (aa e1)))++strs (dX (aG e0.1) e0.2.toNat))))) [])
 a7 (decide ((0:Int)<=k)&&decide (k<(↑(a.bl.length):Int))) (aD (decide ((7:Int)<=toInt (ae z2 0))) ((z1/\z1)/\z1) (∃(e0:LA),([AV.agg [AV.int
 (toInt (ae z2 0)),AV.agg [AV.str (toStr (ae (ae z2 1) 0)),AV.ad 56 (ai (ae (ae z2 1) 1))],AV.agg [AV.int (toInt (ae (ae z2 2) 0)),AV.str (toStr (ae (ae z2
 2) 1)),AV.int (toInt (ae (ae z2 2) 2)),AV.ad 56 (ai (ae (ae z2 2) 3))],AV.agg [AV.int (toInt (ae (ae z2 3) 0)),AV.str (toStr (ae (ae z2 3) 1)),AV.int
 (toInt (ae (ae z2 3) 2)),AV.ad 56 (ai (ae (ae z2 3) 3))]]],aI)=([AV.agg [AV.int e0.op,AV.agg [AV.str e0.s,AV.ad 56 e0.l],AV.agg [AV.int e0.o1,AV.str
 e0.s1,AV.int e0.n1,AV.ad 56 e0.l1],AV.agg [AV.int e0.o2,AV.str e0.s2,AV.int e0.n2,AV.ad 56 e0.l2]]],aI)/\fQ e0/\K (AV.ad 9 (List.take (List.length (eb
 (LA.lt e0))) (List.drop 0 (strs (eb (LA.lt e0)))))) []))):=by kernel_rfl
def OJ(a:cg×Int):Out (AV×List Dn.Obj):= .one (.ad 9 (strs (cL (aG a.1) a.2.toNat)),[])
theorem Gh(l:Lt):aX [l.x]<=iJ l:=by
 simp only[iJ,aX];omega
theorem EO(x:AV):aa [o7 56 (ae x 2)]=[(cE x).x]:=by
 simp only[aa,ac1,ac2,pV];rfl
theorem rP{a:cg}(h:cV a)(k:Nat):(dX (aG a) k).length<=100000:=by
 have h5:(fc (aG a)).length<=100000:=by
  have h6:=cr (aa (bc 56 a.hl a.bl))
  rw[ig 56 a.rel a.hl a.bl] at h6
  exact Nat.le_trans h6 h.1
 have h7:=kt (fc (aG a)) []
 refine Nat.le_trans (List.length_filter_le _ _) ?_
 unfold cP
 cases aK (aG a)
 ·simp
 ·rw[aa8];omega
theorem c24(κ:Kp):bq (Rd κ) 12 122 (aM LK zr OJ):=by
 refine aZ ?_
 rintro⟨a,k⟩ K ⟨h1,h2,h3,h4⟩ ho
 refine Eq.mpr (y24 κ a k K) ?_
 simp only at h1 h2 h3 h4
 have hk:k.toNat<a.bl.length:=by omega
 have hlit:=kJ h2 hk
 have hv:=cr [(cE (nth a.bl k.toNat)).x]
 have hc:=Gh (cE (nth a.bl k.toNat))
 have ho':K (.ad 9 (strs (cL (aG a) k.toNat))) []:=ho
 unfold cL at ho'
 rw[show(aG a).body=c6 a.bl from rfl,j8 _ hk,show(cE (nth a.bl k.toNat)).op=toInt (ae (nth a.bl k.toNat) 0) from rfl] at ho'
 simp only[and_self]
 rw[an,aa2,aa1,aa1,ah,aa1,aa3]
 refine⟨⟨h3,h4⟩,fun e=>?_,fun e=>?_⟩
 ·rw[aa7 e] at ho'
  refine⟨[o7 56 (ae (nth a.bl k.toNat) 2)],rfl,by simp only[bC,EO];omega,(a,k),rfl,⟨h1,h2,h3,h4⟩,?_⟩
  have hol:=rP h2 k.toNat
  simp only[EO,aU,ab1,cQ,an,aa1]
  refine⟨by omega,?_⟩
  rw[←gR,List.take_of_length_le (by simp[aU])]
  exact ho'
 ·rw[aa5 e] at ho'
  refine⟨rS (nth a.bl k.toNat),rfl,by rw[fQ,ee];exact hlit,?_⟩
  simp only[ee,ab1,cQ]
  exact ho'
noncomputable def Q1(κ:Kp):Env:=(Rd κ).ay 122 (aM LK zr OJ)
theorem e24(κ:Kp):aB (Q1 κ):=(e63 κ).ay (Yg κ) (c24 κ)
theorem W2(κ:Kp):aj (Q1 κ):=(Yg κ).ay aJ
theorem y52(κ:Kp)(a:cg)(k:Int)(es:List (Value×AV))(K:AV->List Dn.Obj->Prop):(a9 (Q1 κ) 12 236 [.mp 0,aq a, .int k] [.map 9 4 es] K)=(
 letI z4:=nth a.bl k.toNat
 letI z5:=toStr (ae (ae z4 3) 1)
 letI z6:=ai (ae (ae z4 1) 1)
 letI z7:=toStr (ae (ae z4 1) 0)
 letI z8:=toInt (ae (ae z4 2) 0)
 letI z9:=toStr (ae (ae z4 2) 1)
 letI z10:=toInt (ae (ae z4 2) 2)
 letI z11:=toInt (ae (ae z4 3) 0)
 letI z12:=toInt (ae (ae z4 3) 2)
 letI z13:=ai (ae (ae z4 2) 3)
 letI z14:=ai (ae (ae z4 3) 3)
 letI z15:=Value×AV
 letI z1:=∃(e3:cg×Int),([aq a,AV.int k],aI)=([aq e3.1,AV.int e3.2],aI)/\(aK (aG e3.1)=true/\(aX (aa (bc 56 e3.1.hl e3.1.bl))<=100000/\
  e3.1.bl.length<=100000)/\(0:Int)<=e3.2/\e3.2<(↑(e3.1.bl.length):Int))/\∃(e2:List AV×List z15),([AV.mp 0,AV.ad 9 (strs (dX (aG e3.1)
  e3.2.toNat))],[Dn.Obj.map 9 4 es])=([AV.mp 0,AV.ad 9 e2.1],[Dn.Obj.map 9 4 e2.2])/\bj e2/\aD (gi e2.2 e2.1) (∃(e1:ByteArray×List AV),([AV.agg
  [AV.str z7,AV.ad 56 z6]],aI)=([AV.agg [AV.str e1.1,AV.ad 56 e1.2]],aI)/\jI e1/\∃(e0:List AV×List z15),([AV.mp 0,AV.ad 9 (List.take (List.length
  (dG (aa e1.2))) (List.drop 0 (strs (dG (aa e1.2)))))],[Dn.Obj.map 9 4 e2.2])=([AV.mp 0,AV.ad 9 e0.1],[Dn.Obj.map 9 4 e0.2])/\bj e0/\K (AV.bool (gi e0.2
  e0.1)) [Dn.Obj.map 9 4 e0.2]) (K (AV.bool false) [Dn.Obj.map 9 4 e2.2])
 letI z2:=∃(e1:LA),([AV.agg [AV.int (toInt (ae z4 0)),AV.agg [AV.str z7,AV.ad 56 z6],AV.agg [AV.int z8,AV.str z9,AV.int z10,AV.ad 56 z13],AV.agg
  [AV.int z11,AV.str z5,AV.int z12,AV.ad 56 z14]]],aI)=([AV.agg [AV.int e1.op,AV.agg [AV.str e1.s,AV.ad 56 e1.l],AV.agg [AV.int e1.o1,AV.str e1.s1,
  AV.int e1.n1,AV.ad 56 e1.l1],AV.agg [AV.int e1.o2,AV.str e1.s2,AV.int e1.n2,AV.ad 56 e1.l2]]],aI)/\fQ e1/\∃(e0:List AV×List z15),([AV.mp 0,AV.ad
  9 (List.take (List.length (eb (LA.lt e1))) (List.drop 0 (strs (eb (LA.lt e1)))))],[Dn.Obj.map 9 4 es])=([AV.mp 0,AV.ad 9 e0.1],[Dn.Obj.map 9 4 e0.2])/\bj
  e0/\K (AV.bool (gi e0.2 e0.1)) [Dn.Obj.map 9 4 e0.2]
 letI z3:=∃(e4:List AV),([AV.ad 56 z6],aI)=([AV.ad 56 e4],aI)/\bC e4/\a7 (decide (List.length (List.take (List.length (aw (aa e4))) (List.drop 0
  (strs (aw (aa e4)))))<=9223372036854775807)) (aD (decide (dQ z5 (List.take (List.length (aw (aa e4))) (List.drop 0 (strs (aw (aa e4))))) (0:Int)>=(0:
  Int))) z1 (K (AV.bool false) [Dn.Obj.map 9 4 es]))
 a7 (decide ((0:Int)<=k)&&decide (k<(↑(a.bl.length):Int))) (aD (toInt (ae z4 0)==(1:Int)) (∃(e1:ByteArray×List AV),([AV.agg [AV.str z7,AV.ad
 56 z6]],aI)=([AV.agg [AV.str e1.1,AV.ad 56 e1.2]],aI)/\jI e1/\∃(e0:List AV×List z15),([AV.mp 0,AV.ad 9 (List.take (List.length (dG (aa e1.2)))
 (List.drop 0 (strs (dG (aa e1.2)))))],[Dn.Obj.map 9 4 es])=([AV.mp 0,AV.ad 9 e0.1],[Dn.Obj.map 9 4 e0.2])/\bj e0/\K (AV.bool (gi e0.2 e0.1)) [Dn.Obj.map
 9 4 e0.2]) (aD (toInt (ae z4 0)==(3:Int)) (∃(e3:TA),([AV.mp 0,AV.agg [AV.int z8,AV.str z9,AV.int z10,AV.ad 56 z13],AV.agg [AV.int z11,AV.str z5,
 AV.int z12,AV.ad 56 z14]],[Dn.Obj.map 9 4 es])=([AV.mp 0,AV.agg [AV.int e3.o1,AV.str e3.s1,AV.int e3.n1,AV.ad 56 e3.l1],AV.agg [AV.int e3.o2,AV.str
 e3.s2,AV.int e3.n2,AV.ad 56 e3.l2]],[Dn.Obj.map 9 4 e3.es])/\iB e3/\aD (lz e3.es (TA.x e3) (TA.y e3)) (K (AV.bool true) [Dn.Obj.map 9 4 e3.es]) (∃(e2:
 TA),([AV.mp 0,AV.agg [AV.int z11,AV.str z5,AV.int z12,AV.ad 56 z14],AV.agg [AV.int z8,AV.str z9,AV.int z10,AV.ad 56 z13]],[Dn.Obj.map 9 4 e3.es])=
 ([AV.mp 0,AV.agg [AV.int e2.o1,AV.str e2.s1,AV.int e2.n1,AV.ad 56 e2.l1],AV.agg [AV.int e2.o2,AV.str e2.s2,AV.int e2.n2,AV.ad 56 e2.l2]],[Dn.Obj.map 9
 4 e2.es])/\iB e2/\aD (lz e2.es (TA.x e2) (TA.y e2)) (K (AV.bool true) [Dn.Obj.map 9 4 e2.es]) (∃(e1:LA),([AV.agg [AV.int (toInt (ae z4 0)),AV.agg [AV.str
 z7,AV.ad 56 z6],AV.agg [AV.int z8,AV.str z9,AV.int z10,AV.ad 56 z13],AV.agg [AV.int z11,AV.str z5,AV.int z12,AV.ad 56 z14]]],aI)=([AV.agg [AV.int
 e1.op,AV.agg [AV.str e1.s,AV.ad 56 e1.l],AV.agg [AV.int e1.o1,AV.str e1.s1,AV.int e1.n1,AV.ad 56 e1.l1],AV.agg [AV.int e1.o2,AV.str e1.s2,AV.int e1.n2,
 AV.ad 56 e1.l2]]],aI)/\fQ e1/\∃(e0:List AV×List z15),([AV.mp 0,AV.ad 9 (List.take (List.length (eb (LA.lt e1))) (List.drop 0 (strs (eb (LA.lt
 e1)))))],[Dn.Obj.map 9 4 e2.es])=([AV.mp 0,AV.ad 9 e0.1],[Dn.Obj.map 9 4 e0.2])/\bj e0/\K (AV.bool (gi e0.2 e0.1)) [Dn.Obj.map 9 4 e0.2]))) (aD (toInt
 (ae z4 0)==(2:Int)) z2 (aD (toInt (ae z4 0)==(4:Int)) z2 (aD (toInt (ae z4 0)==(5:Int)) z2 (aD (toInt (ae z4 0)==(6:Int)) z2 (aD (toInt (ae z4
 0)==(7:Int)) (z1/\z1/\z1/\z1) (z3/\z3/\z3/\z3))))))))):=by kernel_rfl
def Rs(a:cg×Int×List ByteArray):List AV×List Dn.Obj:=([.mp 0,aq a.1, .int a.2.1],[.map 9 4 (bM a.2.2)])
def Ll(a:cg×Int×List ByteArray):Prop:=aK (aG a.1)=true/\cV a.1/\0<=a.2.1/\a.2.1<a.1.bl.length
def On(a:cg×Int×List ByteArray):Out (AV×List Dn.Obj):= .one (.bool (n9 a.2.2 (aG a.1) a.2.1.toNat),[.map 9 4 (bM a.2.2)])
theorem ym(x y:AV)(es:List (Value×AV)):(TA.mk (toInt (ae x 0)) (toStr (ae x 1)) (toInt (ae x 2)) (ai (ae x 3)) (toInt (ae y 0)) (toStr (ae y 1)) (toInt (ae y 2)) (ai (ae y 3)) es).x=cM x:=by rw[da];rfl
theorem mX(x y:AV)(es:List (Value×AV)):(TA.mk (toInt (ae x 0)) (toStr (ae x 1)) (toInt (ae x 2)) (ai (ae x 3)) (toInt (ae y 0)) (toStr (ae y 1)) (toInt (ae y 2)) (ai (ae y 3)) es).y=cM y:=by rw[da];rfl
def lq(x y:AV)(es:List (Value×AV)):TA:=TA.mk (toInt (ae x 0)) (toStr (ae x 1)) (toInt (ae x 2)) (ai (ae x 3)) (toInt (ae y 0)) (toStr (ae y 1)) (toInt (ae y 2)) (ai (ae y 3)) es
theorem c52(κ:Kp):bq (Q1 κ) 12 236 (aM Rs Ll On):=by
 refine aZ ?_
 rintro⟨a,k,b⟩ K ⟨h1,h2,h3,h4⟩ ho
 refine Eq.mpr (y52 κ a k (bM b) K) ?_
 simp only at h1 h2 h3 h4
 have hk:k.toNat<a.bl.length:=by omega
 have hlit:=kJ h2 hk
 have ho':K (.bool (n9 b (aG a) k.toNat)) [.map 9 4 (bM b)]:=ho
 unfold n9 at ho'
 rw[show(aG a).body=c6 a.bl from rfl,j8 _ hk,show(cE (nth a.bl k.toNat)).op=toInt (ae (nth a.bl k.toNat) 0) from rfl,show(cE (nth a.bl k.toNat)).a.l=aa (ai (ae (ae (nth a.bl k.toNat) 1) 1)) from rfl,
  show(cE (nth a.bl k.toNat)).x=cM (ae (nth a.bl k.toNat) 2) from rfl,show(cE (nth a.bl k.toNat)).y=cM (ae (nth a.bl k.toNat) 3) from rfl] at ho'
 have hlc:iJ (cE (nth a.bl k.toNat))=aX [cM (ae (nth a.bl k.toNat) 2),cM (ae (nth a.bl k.toNat) 3)]+aX (aa (ai (ae (ae (nth a.bl k.toNat) 1) 1))):=rfl
 have hcl:aX (aa (ai (ae (ae (nth a.bl k.toNat) 1) 1)))<=100000:=by omega
 have hcx:aX [cM (ae (nth a.bl k.toNat) 2)]<=100000/\aX [cM (ae (nth a.bl k.toNat) 3)]<=100000:=by
  simp only[aX] at hlc⊢;omega
 have hvl:=cr (aa (ai (ae (ae (nth a.bl k.toNat) 1) 1)))
 have hrl:=AZ (aa (ai (ae (ae (nth a.bl k.toNat) 1) 1)))
 have hol:=rP h2 k.toNat
 have hll:(eb (cE (nth a.bl k.toNat))).length<=100000:=by
  have e1:=cr [(cE (nth a.bl k.toNat)).x,(cE (nth a.bl k.toNat)).y]
  have e2:=cr (cE (nth a.bl k.toNat)).a.l
  simp only[eb,iJ,ab9] at hlit⊢;omega
 simp only[and_self]
 rw[an,aa2,aa1,aa1]
 refine⟨⟨h3,h4⟩,?_⟩
 rw[ah,beq_iff_eq,beq_eq_false_iff_ne]
 refine⟨fun e1=>?_,fun e1=>?_⟩
 ·rw[aa7 e1,aa8] at ho'
  refine⟨(toStr (ae (ae (nth a.bl k.toNat) 1) 0),ai (ae (ae (nth a.bl k.toNat) 1) 1)),rfl,hcl,(strs (dG (aa (ai (ae (ae (nth a.bl k.toNat) 1) 1)))),bM b),by simp only[ab1,cQ],by simp only[bj,aU,aR];omega,?_⟩
  simp only[eV];exact ho'
 rw[aa5 e1,aa6] at ho'
 rw[ah,beq_iff_eq,beq_eq_false_iff_ne]
 refine⟨fun e2=>?_,fun e2=>?_⟩
 ·rw[aa7 e2,aa8] at ho'
  refine⟨lq (ae (nth a.bl k.toNat) 2) (ae (nth a.bl k.toNat) 3) (bM b),rfl,by unfold iB lq;rw[mX];exact hcx.2,?_⟩
  unfold lq
  rw[ym,mX,od]
  rw[ah]
  refine⟨fun f1=>by rw[f1] at ho';exact ho',fun f1=>?_⟩
  rw[f1,Bool.false_or] at ho'
  refine⟨lq (ae (nth a.bl k.toNat) 3) (ae (nth a.bl k.toNat) 2) (bM b),rfl,by unfold iB lq;rw[mX];exact hcx.1,?_⟩
  unfold lq
  rw[ym,mX,od,ah]
  refine⟨fun f2=>by rw[f2] at ho';exact ho',fun f2=>?_⟩
  rw[f2,Bool.false_or] at ho'
  exact⟨rS (nth a.bl k.toNat),rfl,by rw[fQ,ee];exact hlit,(strs (eb (rS (nth a.bl k.toNat)).lt),bM b),by simp only[ab1,cQ],by simp only[bj,aU,aR];rw[ee];omega,by simp only[eV,ee];exact ho'⟩
 rw[aa5 e2,aa6] at ho'
 rw[ah,beq_iff_eq,beq_eq_false_iff_ne]
 refine⟨fun e3=>?_,fun e3=>?_⟩
 ·rw[aa7 e3] at ho'
  simp only[Bool.true_or,Bool.or_true,aa8] at ho'
  exact⟨rS (nth a.bl k.toNat),rfl,by rw[fQ,ee];exact hlit,(strs (eb (rS (nth a.bl k.toNat)).lt),bM b),by simp only[ab1,cQ],by simp only[bj,aU,aR];rw[ee];omega,by simp only[eV,ee];exact ho'⟩
 rw[ah,beq_iff_eq,beq_eq_false_iff_ne]
 refine⟨fun e4=>?_,fun e4=>?_⟩
 ·rw[aa7 e4] at ho'
  simp only[Bool.true_or,Bool.or_true,aa8] at ho'
  exact⟨rS (nth a.bl k.toNat),rfl,by rw[fQ,ee];exact hlit,(strs (eb (rS (nth a.bl k.toNat)).lt),bM b),by simp only[ab1,cQ],by simp only[bj,aU,aR];rw[ee];omega,by simp only[eV,ee];exact ho'⟩
 rw[ah,beq_iff_eq,beq_eq_false_iff_ne]
 refine⟨fun e5=>?_,fun e5=>?_⟩
 ·rw[aa7 e5] at ho'
  simp only[Bool.true_or,Bool.or_true,aa8] at ho'
  exact⟨rS (nth a.bl k.toNat),rfl,by rw[fQ,ee];exact hlit,(strs (eb (rS (nth a.bl k.toNat)).lt),bM b),by simp only[ab1,cQ],by simp only[bj,aU,aR];rw[ee];omega,by simp only[eV,ee];exact ho'⟩
 rw[ah,beq_iff_eq,beq_eq_false_iff_ne]
 refine⟨fun e6=>?_,fun e6=>?_⟩
 ·rw[aa7 e6] at ho'
  simp only[Bool.true_or,Bool.or_true,aa8] at ho'
  exact⟨rS (nth a.bl k.toNat),rfl,by rw[fQ,ee];exact hlit,(strs (eb (rS (nth a.bl k.toNat)).lt),bM b),by simp only[ab1,cQ],by simp only[bj,aU,aR];rw[ee];omega,by simp only[eV,ee];exact ho'⟩
 rw[aa5 e3,aa5 e4,aa5 e5,aa5 e6] at ho'
 simp only[Bool.false_or,aa6] at ho'
 rw[ah,beq_iff_eq,beq_eq_false_iff_ne]
 refine⟨fun e7=>?_,fun e7=>?_⟩
 ·rw[aa7 e7,Bool.true_or,ac0] at ho'
  refine⟨(a,k),rfl,⟨h1,h2,h3,h4⟩,(strs (dX (aG a) k.toNat),bM b),rfl,by simp only[bj,aU,aR];omega,ah.2 ⟨fun f1=>⟨(toStr (ae (ae (nth a.bl k.toNat) 1) 0),ai (ae (ae (nth a.bl k.toNat) 1) 1)),rfl,hcl,(strs (dG (aa (ai (ae (ae (nth a.bl k.toNat) 1) 1)))),bM b),by simp only[ab1,cQ],by simp only[bj,aU,aR];omega,?_⟩,fun f1=>?_⟩⟩
  ·rw[eV] at f1
   simp only[eV]
   rw[f1,ac0] at ho';exact ho'
  ·rw[eV] at f1
   rw[f1,Bool.false_and] at ho';exact ho'
 ·rw[aa5 e7,Bool.false_or] at ho'
  refine⟨_,rfl,hcl,?_⟩
  have hp:=xP (toStr (ae (ae (nth a.bl k.toNat) 3) 1)) (aw (aa (ai (ae (ae (nth a.bl k.toNat) 1) 1)))) 0 (by omega)
  have hs:(cM (ae (nth a.bl k.toNat) 3)).s=toStr (ae (ae (nth a.bl k.toNat) 3) 1):=by rw[da];rfl
  simp only[ab1,cQ,aU,hp]
  rw[an,aa1,ah]
  rw[hs] at ho'
  refine⟨by omega,fun e8=>?_,fun e8=>?_⟩
  ·rw[e8,ac0] at ho'
   refine⟨(a,k),rfl,⟨h1,h2,h3,h4⟩,(strs (dX (aG a) k.toNat),bM b),rfl,by simp only[bj,aU,aR];omega,ah.2 ⟨fun f1=>⟨(toStr (ae (ae (nth a.bl k.toNat) 1) 0),ai (ae (ae (nth a.bl k.toNat) 1) 1)),rfl,hcl,(strs (dG (aa (ai (ae (ae (nth a.bl k.toNat) 1) 1)))),bM b),by simp only[ab1,cQ],by simp only[bj,aU,aR];omega,?_⟩,fun f1=>?_⟩⟩
   ·rw[eV] at f1
    simp only[eV]
    rw[f1,ac0] at ho';exact ho'
   ·rw[eV] at f1
    rw[f1,Bool.false_and] at ho';exact ho'
  ·rw[e8,Bool.false_and] at ho';exact ho'
noncomputable def Nw(κ:Kp):Env:=(Q1 κ).ay 236 (aM Rs Ll On)
theorem ZI(κ:Kp):aB (Nw κ):=(e24 κ).ay (W2 κ) (c52 κ)
theorem X5(κ:Kp):aj (Nw κ):=(W2 κ).ay aJ
def bV(l:List Bool):List AV:=l.map fun b=> .lit (.bool b)
theorem jd(l:List Bool):(bV l).length=l.length:=by simp[bV]
theorem HB(l:List Bool)(k:Nat):Dn.toBool (nth (bV l) k)=Rl.eQ l k:=by
 unfold Rl.eQ
 rw[List.getD_eq_getElem?_getD]
 induction l generalizing k with
 |nil=>rfl
 |cons a l ih=>
  cases k with
  |zero=>rfl
  |succ k=>simpa[bV,nth] using ih k
structure H5 where
 a:cg
 done:List Bool
 b:List ByteArray
 i:Int
 first:Int
abbrev FR(a:H5):S:=sp 38 [(1, .ar 0 0 (bV a.done).length),(2, .mp 1),(3, .ptr 2 0 [] 0),(7, .int a.first),(11, .ad 72 a.a.bl),(12, .int a.a.bl.length),(13, .int a.i)] [.row 4 (bV a.done), .map 9 4 (bM a.b), .box 66 (aq a.a)]
theorem YY(κ:Kp)(a:H5)(es:List (Value×AV))(I:Nat->S->Prop)(n:Nat)(K:Exit->S->Prop):(vc (Nw κ) 12 187 none 2 (af (Pr κ).toProgram 187 3) (sp 38 [(1, .ar 0 0 (bV a.done).length),(2, .mp 1),(3, .ptr 2 0 [] 0),(7, .int a.first),(11, .ad 72 a.a.bl),(12, .int a.a.bl.length),(13, .int a.i)] [.row 4 (bV a.done), .map 9 4 es, .box 66 (aq a.a)]) (bH (Nw κ) 187 3 2 I n K))=(
 letI z1:=IntKind.wrap IntKind.i64 (a.i+(1:Int))
 letI z2:=List.length (bV a.done)
 letI z3:=List.length a.a.bl
 aD (decide (a.i<(↑z3:Int))) (a7 (decide ((0:Int)<=a.i)&&decide (a.i<(↑z3:Int))) (a7 (decide ((0:Int)<=a.i)&&decide (a.i<(↑z2:Int))) (aD
 (Dn.toBool (nth (bV a.done) (0+a.i.toNat))) (∃(e0:Nat),e0<n/\I e0 (sp 38 [(1,AV.ar 0 0 z2),(2,AV.mp 1),(3,AV.ptr 2 0 [] 0),(7,AV.int a.first),
 (11,AV.ad 72 a.a.bl),(12,AV.int (↑z3:Int)),(13,AV.int z1)] [Obj.row 4 (bV a.done),Dn.Obj.map 9 4 es,Obj.box 66 (aq a.a)])) (∃(e1:cg×Int×List
 ByteArray),([AV.mp 0,aq a.a,AV.int a.i],[Dn.Obj.map 9 4 es])=([AV.mp 0,aq e1.1,AV.int e1.2.1],[Dn.Obj.map 9 4 (bM e1.2.2)])/\(aK (aG e1.1)=true/\
 (aX (aa (bc 56 e1.1.hl e1.1.bl))<=100000/\e1.1.bl.length<=100000)/\(0:Int)<=e1.2.1/\e1.2.1<(↑(e1.1.bl.length):Int))/\aD (!n9 e1.2.2 (aG e1.1)
 e1.2.1.toNat) (∃(e0:Nat),e0<n/\I e0 (sp 38 [(1,AV.ar 0 0 z2),(2,AV.mp 1),(3,AV.ptr 2 0 [] 0),(7,AV.int a.first),(11,AV.ad 72 a.a.bl),(12,
 AV.int (↑z3:Int)),(13,AV.int z1)] [Obj.row 4 (bV a.done),Dn.Obj.map 9 4 (bM e1.2.2),Obj.box 66 (aq a.a)])) (aD (toInt (ae (nth a.a.bl a.i.toNat) 0) != (1
 :Int)) (K Exit.ret (sp 38 [(6,AV.int a.i)] [Obj.row 4 (bV a.done),Dn.Obj.map 9 4 (bM e1.2.2)])) (aD (decide (a.first<(0:Int))) (∃(e0:Nat),e0<n/\I
 e0 (sp 38 [(1,AV.ar 0 0 z2),(2,AV.mp 1),(3,AV.ptr 2 0 [] 0),(7,AV.int a.i),(11,AV.ad 72 a.a.bl),(12,AV.int (↑z3:Int)),(13,AV.int z1)] [Obj.row 4
 (bV a.done),Dn.Obj.map 9 4 (bM e1.2.2),Obj.box 66 (aq a.a)])) (∃(e0:Nat),e0<n/\I e0 (sp 38 [(1,AV.ar 0 0 z2),(2,AV.mp 1),(3,AV.ptr 2 0 [] 0),(7,
 AV.int a.first),(11,AV.ad 72 a.a.bl),(12,AV.int (↑z3:Int)),(13,AV.int z1)] [Obj.row 4 (bV a.done),Dn.Obj.map 9 4 (bM e1.2.2),Obj.box 66 (aq
 a.a)])))))))) (K (Exit.exit 0) (sp 38 [(7,AV.int a.first)] [Obj.row 4 (bV a.done),Dn.Obj.map 9 4 es]))):=by kernel_rfl
def yi(a:H5):Prop:=aK (aG a.a)=true/\cV a.a/\0<=a.i/\a.i<=a.a.bl.length/\a.done.length=a.a.bl.length
def wL(a:H5):Int:=lR (aG a.a) a.done a.b (a.a.bl.length - a.i.toNat) a.i.toNat a.first
def Cu(a:H5):Out (Exit×S):= .all (fun _:Bool=>True) fun e=> .aD e (.one (.ret,sp 38 [(6, .int (wL a))] [.row 4 (bV a.done), .map 9 4 (bM a.b)])) (.one (.exit 0,sp 38 [(7, .int (wL a))] [.row 4 (bV a.done), .map 9 4 (bM a.b)]))
theorem l36(κ:Kp):bh (Nw κ) 12 187 3 (aP 2 FR yi Cu):=by
 refine aL (fun a=>a.a.bl.length - a.i.toNat) ?_
 rintro⟨a,done,b,i,first⟩ K ⟨h1,h2,h3,h4,h5⟩ ho
 simp only at h1 h2 h3 h4 h5
 rw[show(Nw κ).P=Pr κ from rfl]
 refine Eq.mpr (YY κ ⟨a,done,b,i,first⟩ (bM b) _ _ K) ?_
 have ho1:=ho true trivial
 have ho2:=ho false trivial
 simp only[Out.run,aD,wL] at ho1 ho2
 simp only[Nat.zero_add,HB]
 have hbl:=jd done
 have hl:=h2.2
 rw[ah,an,an,aa2,aa2,aa1,aa1,aa1,aa3]
 have go:i<a.bl.length->∀f:Int,lR (aG a) done b (a.bl.length - i.toNat) i.toNat first=lR (aG a) done b (a.bl.length - (i.toNat+1)) (i.toNat+1) f->
   ∃m,m<a.bl.length - i.toNat/\fe FR yi Cu (fun a=>a.a.bl.length - a.i.toNat) K m (FR ⟨a,done,b,i+1,f⟩):=by
  intro hi f hf
  refine⟨_,?_,⟨a,done,b,i+1,f⟩,rfl,⟨h1,h2,by simp only;omega,by simp only;omega,h5⟩,rfl,?_⟩
  ·simp only;omega
  ·intro e _
   simp only[Out.run,wL,show(i+1).toNat=i.toNat+1 by omega,←hf]
   cases e
   ·exact ho2
   ·exact ho1
 refine⟨fun hi=>⟨⟨h3,hi⟩,⟨h3,by omega⟩,?_⟩,fun hi=>?_⟩
 ·have hn:=DP (aG a) done b (a.bl.length - (i.toNat+1)) i.toNat first
  rw[show a.bl.length - (i.toNat+1)+1=a.bl.length - i.toNat by omega] at hn
  have hk:i.toNat<a.bl.length:=by omega
  have hop:(dJ (aG a).body i.toNat).op=toInt (ae (nth a.bl i.toNat) 0):=by
   rw[show(aG a).body=c6 a.bl from rfl,j8 _ hk];rfl
  rw[hop] at hn
  rw[aW (n:=i+1) (by omega) (by omega),ah]
  refine⟨fun e=>go hi first (by rw[hn,e];rfl),fun e=>⟨(a,i,b),rfl,⟨h1,h2,h3,hi⟩,?_⟩⟩
  rw[e,Bool.false_or] at hn
  simp only[ah,Bool.not_eq_true',ab3,bne_iff_ne,bne_eq_false_iff_eq,aa1,aa3]
  refine⟨fun e1=>go hi first (by rw[hn,e1];rfl),fun e1=>⟨fun e2=>?_,fun e2=>⟨fun e3=>go hi i ?_,fun e3=>go hi first ?_⟩⟩⟩
  ·rw[hn,e1,aa5 e2] at ho1
   simp only[Bool.not_true,aa6,Bool.not_false,aa8,Int.toNat_of_nonneg h3] at ho1
   exact ho1
  ·rw[hn,e1,aa7 e2,aa7 e3]
   simp only[Bool.not_true,aa6,aa8,Int.toNat_of_nonneg h3]
  ·rw[hn,e1,aa7 e2,aa5 e3]
   simp only[Bool.not_true,aa6]
 ·rw[show a.bl.length - i.toNat=0 by omega] at ho2
  exact ho2
noncomputable def JK(κ:Kp):Env:=(Nw κ).ak 187 3 (aP 2 FR yi Cu)
theorem VA(κ:Kp):aB (JK κ):=(ZI κ).ak (X5 κ) (l36 κ)
theorem TK(κ:Kp):aj (JK κ):=(X5 κ).ak aF
theorem y36(κ:Kp)(a:H5)(K:AV->List Dn.Obj->Prop):(a9 (JK κ) 12 187 [aq a.a, .ar 0 0 (bV a.done).length, .mp 1] [.row 4 (bV a.done), .map 9 4 (bM a.b)] K)=(
 letI z1:=Pg.toProgram (Env.P (Nw κ))
 af z1 187 3=af z1 187 3/\∃(e1:H5),sp 38 [(1,AV.ar 0 0 (List.length (bV a.done))),(2,AV.mp 1),(3,AV.ptr 2 0 [] 0),(7,AV.int (-1)),(11,AV.ad 72
 a.a.bl),(12,AV.int (↑(List.length a.a.bl):Int)),(13,AV.int 0)] [Obj.row 4 (bV a.done),Dn.Obj.map 9 4 (bM a.b),Obj.box 66 (aq a.a)]=sp 38 [(1,AV.ar 0
 0 (List.length (bV e1.done))),(2,AV.mp 1),(3,AV.ptr 2 0 [] 0),(7,AV.int e1.first),(11,AV.ad 72 e1.a.bl),(12,AV.int (↑(List.length e1.a.bl):Int)),
 (13,AV.int e1.i)] [Obj.row 4 (bV e1.done),Dn.Obj.map 9 4 (bM e1.b),Obj.box 66 (aq e1.a)]/\(aK (aG e1.a)=true/\(aX (aa (bc 56 e1.a.hl e1.a.bl))<=100000/\
 List.length e1.a.bl<=100000)/\(0:Int)<=e1.i/\e1.i<=(↑(List.length e1.a.bl):Int)/\e1.done.length=List.length e1.a.bl)/\∀(e0:Bool),True->aD e0
 (K (AV.int (wL e1)) [Obj.row 4 (bV e1.done),Dn.Obj.map 9 4 (bM e1.b)]) (K (AV.int (wL e1)) [Obj.row 4 (bV e1.done),Dn.Obj.map 9 4 (bM e1.b)])):=by kernel_rfl
def Q2(a:H5):List AV×List Dn.Obj:=([aq a.a, .ar 0 0 (bV a.done).length, .mp 1],[.row 4 (bV a.done), .map 9 4 (bM a.b)])
def Ka(a:H5):Prop:=aK (aG a.a)=true/\cV a.a/\a.done.length=a.a.bl.length
def Ob(a:H5):Out (AV×List Dn.Obj):= .one (.int (aE (aG a.a) a.done a.b),[.row 4 (bV a.done), .map 9 4 (bM a.b)])
theorem gl(a:cg):(aG a).body.length=a.bl.length:=zg a.bl
theorem c36(κ:Kp):bq (JK κ) 12 187 (aM Q2 Ka Ob):=by
 refine aZ ?_
 rintro⟨a,done,b,i,first⟩ K ⟨h1,h2,h5⟩ ho
 refine Eq.mpr (y36 κ ⟨a,done,b,i,first⟩ K) ?_
 simp only at h1 h2 h5
 have ho':K (.int (aE (aG a) done b)) [.row 4 (bV done), .map 9 4 (bM b)]:=ho
 unfold aE at ho'
 rw[gl] at ho'
 refine⟨rfl,⟨a,done,b,0, -1⟩,rfl,⟨h1,h2,by simp only;omega,by simp only;omega,h5⟩,?_⟩
 intro e _
 cases e
 ·exact ho'
 ·exact ho'
noncomputable def Ml(κ:Kp):Env:=(JK κ).ay 187 (aM Q2 Ka Ob)
theorem e36(κ:Kp):aB (Ml κ):=(VA κ).ay (TK κ) (c36 κ)
theorem Xo(κ:Kp):aj (Ml κ):=(TK κ).ay aJ
def ints(l:List Nat):List AV:=l.map fun(k:Nat)=>AV.lit (.int .i64 (k:Int))
theorem nj(l:List Nat):(ints l).length=l.length:=by simp[ints]
theorem KA(l m:List Nat):ints (l++m)=ints l++ints m:=by simp[ints]
structure Rp where
 a:cg
 ks:List Nat
 done:List Bool
 b:List ByteArray
 i:Int
noncomputable abbrev Tc(a:cg)(κ:Kp):Dn.Obj:=
 .loop (fR (Pr κ).toProgram 112 4 .ready none (fK (bz 40) [(0,aq a),(1, .ptr 0 0 [] 0),(2, .nil),(3, .lit .nilIface),(4, .ptr 1 0 [] 0),(5, .ptr 3 0 [] 0),(7, .mp 2),(8,aq a),(9, .bI 186 [.ptr 4 0 [] 0])]))
noncomputable abbrev F8(κ:Kp)(a:cg)(ks:List Nat)(b:List ByteArray):List Dn.Obj:=[.box 66 (aq a), .box 38 (.ar 6 0 (ints ks).length), .map 9 4 (bM b), .box 178 (.mp 2), .box 66 (aq a),Tc a κ, .row 3 (ints ks)]
noncomputable abbrev JV(κ:Kp)(a:Rp):S:=sp 38 [(0, .cu 5),(1, .ptr 4 0 [] 0),(3, .mp 7),(4, .ar 8 0 (bV a.done).length),(13, .int a.a.bl.length),(14, .int a.i)] (F8 κ a.a a.ks a.b++[.map 9 4 (bM a.b), .row 4 (bV a.done)])
theorem Y5(κ:Kp)(a:cg)(ks:List AV)(es es':List (Value×AV))(done:List AV)(i:Int)(I:Nat->S->Prop)(n:Nat)(K:Exit->S->Prop):(vc (Ml κ) 12 186 none 6 (af (Pr κ).toProgram 186 3) (sp 38 [(0, .cu 5),(1, .ptr 4 0 [] 0),(3, .mp 7),(4, .ar 8 0 done.length),(13, .int a.bl.length),(14, .int i)] [.box 66 (aq a), .box 38 (.ar 6 0 ks.length), .map 9 4 es, .box 178 (.mp 2), .box 66 (aq a),Tc a κ, .row 3 ks, .map 9 4 es', .row 4 done]) (bH (Ml κ) 186 3 6 I n K))=(
 letI z1:=fR Tryz.prog 112 4 LoopState.ready none (fK (bz 40) [(0,aq a),(1,AV.ptr 0 0 [] 0),(2,AV.nil),(3,AV.lit Value.nilIface),(4,AV.ptr 1 0 [] 0),
  (5,AV.ptr 3 0 [] 0),(7,AV.mp 2),(8,aq a),(9,AV.bI 186 [AV.ptr 4 0 [] 0])])
 letI z2:=sp 38 [] [Obj.box 66 (aq a),Obj.box 38 (AV.ar 6 0 ks.length),Dn.Obj.map 9 4 es,Obj.box 178 (AV.mp 2),Obj.box 66 (aq a),Dn.Obj.loop z1,Obj.row 3
  ks]
 letI z3:=IntKind.wrap IntKind.i64 (i+(1:Int))
 letI z4:=Value×AV
 letI z5:=AV.ar 6 0 (ks.length+1)
 aD (decide (i<(↑(a.bl.length):Int))) (∃(e5:H5),([aq a,AV.ar 0 0 done.length,AV.mp 1],[Obj.row 4 done,Dn.Obj.map 9 4 es'])=([aq e5.a,AV.ar 0 0
 (List.length (bV e5.done)),AV.mp 1],[Obj.row 4 (bV e5.done),Dn.Obj.map 9 4 (bM e5.b)])/\(aK (aG e5.a)=true/\(aX (aa (bc 56 e5.a.hl e5.a.bl))<=100000/\
 List.length e5.a.bl<=100000)/\e5.done.length=List.length e5.a.bl)/\aD (decide (aE (aG e5.a) e5.done e5.b<(0:Int))) (K Exit.ret z2) (a7 (decide
 ((ks.length+1+1)*9<=70368744177664)) ((∃(e4:cg×Int),([aq a,AV.int (aE (aG e5.a) e5.done e5.b)],aI)=([aq e4.1,AV.int e4.2],aI)/\(aK (aG e4.1)
 =true/\(aX (aa (bc 56 e4.1.hl e4.1.bl))<=100000/\e4.1.bl.length<=100000)/\(0:Int)<=e4.2/\e4.2<(↑(e4.1.bl.length):Int))/\∃(e3:List AV×List
 z4),([AV.mp 0,AV.ad 9 (strs (cL (aG e4.1) e4.2.toNat))],[Dn.Obj.map 9 4 es])=([AV.mp 0,AV.ad 9 e3.1],[Dn.Obj.map 9 4 e3.2])/\bj e3/\a7 (decide ((0:
 Int)<=aE (aG e5.a) e5.done e5.b)&&decide (aE (aG e5.a) e5.done e5.b<(↑(done.length):Int))) (∃(e2:cg×Int),([aq a,AV.int (aE (aG e5.a) e5.done
 e5.b)],aI)=([aq e2.1,AV.int e2.2],aI)/\(aK (aG e2.1)=true/\(aX (aa (bc 56 e2.1.hl e2.1.bl))<=100000/\e2.1.bl.length<=100000)/\(0:Int)<=e2.2/\
 e2.2<(↑(e2.1.bl.length):Int))/\∃(e1:List AV×List z4),([AV.mp 0,AV.ad 9 (strs (cL (aG e2.1) e2.2.toNat))],[Dn.Obj.map 9 4 (bM e5.b)])=([AV.mp 0,
 AV.ad 9 e1.1],[Dn.Obj.map 9 4 e1.2])/\bj e1/\∃(e0:Nat),e0<n/\I e0 (sp 38 [(0,AV.cu 5),(1,AV.ptr 4 0 [] 0),(3,AV.mp 7),(4,AV.ar 8 0
 done.length),(13,AV.int (↑(a.bl.length):Int)),(14,AV.int z3)] [Obj.box 66 (aq a),Obj.box 38 z5,Dn.Obj.map 9 4 (fm e3.2 e3.1),Obj.box 178 (AV.mp 2),
 Obj.box 66 (aq a),Dn.Obj.loop z1,Obj.row 3 (List.take ks.length ks++[AV.int (aE (aG e5.a) e5.done e5.b)]),Dn.Obj.map 9 4 (fm e1.2 e1.1),Obj.row 4 (b8 (bV
 e5.done) (0+Int.toNat (aE (aG e5.a) e5.done e5.b)) (AV.bool true))])))/\∃(e4:cg×Int),([aq a,AV.int (aE (aG e5.a) e5.done e5.b)],aI)=([aq e4.1,
 AV.int e4.2],aI)/\(aK (aG e4.1)=true/\(aX (aa (bc 56 e4.1.hl e4.1.bl))<=100000/\e4.1.bl.length<=100000)/\(0:Int)<=e4.2/\e4.2<(↑(e4.1.bl.length):
 Int))/\∃(e3:List AV×List z4),([AV.mp 0,AV.ad 9 (strs (cL (aG e4.1) e4.2.toNat))],[Dn.Obj.map 9 4 es])=([AV.mp 0,AV.ad 9 e3.1],[Dn.Obj.map 9 4
 e3.2])/\bj e3/\a7 (decide ((0:Int)<=aE (aG e5.a) e5.done e5.b)&&decide (aE (aG e5.a) e5.done e5.b<(↑(done.length):Int))) (∃(e2:cg×Int),([aq a,
 AV.int (aE (aG e5.a) e5.done e5.b)],aI)=([aq e2.1,AV.int e2.2],aI)/\(aK (aG e2.1)=true/\(aX (aa (bc 56 e2.1.hl e2.1.bl))<=100000/\e2.1.bl.length<=
 100000)/\(0:Int)<=e2.2/\e2.2<(↑(e2.1.bl.length):Int))/\∃(e1:List AV×List z4),([AV.mp 0,AV.ad 9 (strs (cL (aG e2.1) e2.2.toNat))],[Dn.Obj.map 9
 4 (bM e5.b)])=([AV.mp 0,AV.ad 9 e1.1],[Dn.Obj.map 9 4 e1.2])/\bj e1/\∃(e0:Nat),e0<n/\I e0 (sp 38 [(0,AV.cu 5),(1,AV.ptr 4 0 [] 0),(3,AV.mp 7),
 (4,AV.ar 8 0 done.length),(13,AV.int (↑(a.bl.length):Int)),(14,AV.int z3)] [Obj.box 66 (aq a),Obj.box 38 z5,Dn.Obj.map 9 4 (fm e3.2 e3.1),Obj.box 178
 (AV.mp 2),Obj.box 66 (aq a),Dn.Obj.loop z1,Obj.row 3 (List.take ks.length ks++[AV.int (aE (aG e5.a) e5.done e5.b)]),Dn.Obj.map 9 4 (fm e1.2 e1.1),Obj.row
 4 (b8 (bV e5.done) (0+Int.toNat (aE (aG e5.a) e5.done e5.b)) (AV.bool true))]))))) (K (Exit.exit 0) z2)):=by kernel_rfl
theorem pj: ∀(l:List Bool) (k:Nat),b8 (bV l) k (.lit (.bool true))=bV (l.set k true)
 |[],_=>rfl
 |_::_,0=>rfl
 |a::l,k+1=>by
  have:=pj l k
  simp only[bV] at this
  simp only[bV,ac1,b8,List.set_cons_succ,this]
noncomputable def eO(a:Rp):List Nat:=nX (aG a.a) (a.a.bl.length - a.i.toNat) a.done a.b
def EV(a:Rp):Prop:=aK (aG a.a)=true/\cV a.a/\0<=a.i/\a.i<=a.a.bl.length/\a.done.length=a.a.bl.length/\a.ks.length<=a.i.toNat
noncomputable def KD(κ:Kp)(a:Rp):Out (Exit×S):= .all (fun _:Bool=>True) fun e=> .aD e (.one (.ret,sp 38 [] (F8 κ a.a (a.ks++eO a) (a.b++eK (aG a.a) (eO a)))))
 (.one (.exit 0,sp 38 [] (F8 κ a.a (a.ks++eO a) (a.b++eK (aG a.a) (eO a)))))
theorem rE{a:cg}(h:cV a){k:Nat}(hk:k<a.bl.length):(cL (aG a) k).length<=200000:=by
 have hlit:=kJ h hk
 have hol:=rP h k
 have hc:=Gh (cE (nth a.bl k))
 have hv:=cr [(cE (nth a.bl k)).x]
 have e1:=cr [(cE (nth a.bl k)).x,(cE (nth a.bl k)).y]
 have e2:=cr (cE (nth a.bl k)).a.l
 unfold cL
 rw[show(aG a).body=c6 a.bl from rfl,j8 _ hk]
 cases decide (7<=(cE (nth a.bl k)).op) with
 |true=>rw[aa8,ab9];omega
 |false=>
  rw[aa6]
  simp only[eb,iJ,ab9] at hlit⊢;omega
theorem l17(κ:Kp):bh (Ml κ) 12 186 3 (aP 6 (JV κ) EV (KD κ)):=by
 refine aL (fun a=>a.a.bl.length - a.i.toNat) ?_
 rintro⟨a,ks,done,b,i⟩ K ⟨h1,h2,h3,h4,h5,h6⟩ ho
 simp only at h1 h2 h3 h4 h5 h6
 rw[show(Ml κ).P=Pr κ from rfl]
 refine Eq.mpr (Y5 κ a (ints ks) (bM b) (bM b) (bV done) i _ _ K) ?_
 have ho1:=ho true trivial
 have ho2:=ho false trivial
 simp only[Out.run,aD,eO] at ho1 ho2
 simp only[and_self]
 have hbl:=jd done
 have hil:=nj ks
 have hl:=h2.2
 rw[ah,aa1,aa3]
 refine⟨fun hi=>⟨⟨a,done,b,0,0⟩,rfl,⟨h1,h2,h5⟩,?_⟩,fun hi=>?_⟩
 ·have hw:=Cq (aG a) (a.bl.length - (i.toNat+1)) done b
  rw[show a.bl.length - (i.toNat+1)+1=a.bl.length - i.toNat by omega] at hw
  rw[ah,aa1,aa3]
  refine⟨fun e=>?_,fun e=>?_⟩
  ·rw[hw,aa7 e] at ho1
   simp only[aa8,List.append_nil,eK,List.flatMap_nil] at ho1
   exact ho1
  ·rw[hw,aa5 e,aa6] at ho1 ho2
   rcases pq (aG a) done b with e0|⟨e1,e2,e3,_⟩
   ·rw[e0] at e;omega
   have e2':=e2
   rw[gl] at e2'
   have hg:=rE h2 e2'
   rw[an,aa1]
   refine⟨by omega,(a,aE (aG a) done b),rfl,⟨h1,h2,e1,by simp only;omega⟩,(strs (cL (aG a) (aE (aG a) done b).toNat),bM b),rfl,by simp only[bj,aU,aR];omega,?_⟩
   rw[an,aa2,aa1,aa1]
   refine⟨⟨e1,by show aE (aG a) done b<_;omega⟩,(a,aE (aG a) done b),rfl,⟨h1,h2,e1,by simp only;omega⟩,(strs (cL (aG a) (aE (aG a) done b).toNat),bM b),rfl,by simp only[bj,aU,aR];omega,?_⟩
   rw[aW (n:=i+1) (by omega) (by omega)]
   refine⟨_,?_,⟨a,ks++[(aE (aG a) done b).toNat],done.set (aE (aG a) done b).toNat true,b++cL (aG a) (aE (aG a) done b).toNat,i+1⟩,?_,⟨h1,h2,by simp only;omega,by simp only;omega,by simpa using h5,by simp only[ab9,List.length_singleton];omega⟩,rfl,?_⟩
   ·simp only;omega
   ·simp only[List.take_length]
    simp only[JV,F8,List.cons_append,List.nil_append,Nat.zero_add,pj,lH,jd,List.length_set,KA,nj,ab9,List.length_singleton]
    simp only[ints,ac1,ac2,Int.toNat_of_nonneg e1,List.length_singleton]
   ·have hg2: ∀l,b++eK (aG a) ((aE (aG a) done b).toNat::l)=(b++cL (aG a) (aE (aG a) done b).toNat)++eK (aG a) l:=fun l=>by
     simp only[eK,List.flatMap_cons,List.append_assoc]
    have hk2: ∀l,ks++(aE (aG a) done b).toNat::l=(ks++[(aE (aG a) done b).toNat])++l:=fun l=>by simp
    rw[hg2,hk2] at ho1 ho2
    intro f _
    simp only[Out.run,eO,show(i+1).toNat=i.toNat+1 by omega]
    cases f
    ·exact ho2
    ·exact ho1
 ·rw[show a.bl.length - i.toNat=0 by omega] at ho2
  simp only[nX,List.append_nil,eK,List.flatMap_nil] at ho2
  exact ho2
noncomputable def GA(κ:Kp):Env:=(Ml κ).ak 186 3 (aP 6 (JV κ) EV (KD κ))
theorem VO(κ:Kp):aB (GA κ):=(e36 κ).ak (Xo κ) (l17 κ)
theorem Me(κ:Kp):aj (GA κ):=(Xo κ).ak aF
end Go.Proofs.YthaiinlfnommnaaGreatDoor
namespace Go.Proofs.YthaiinlfnommnaaGreatDoor
open Go Go.Dn Go.Rl Go.Proofs Go.RowKit Go.Extern.Stop Go.Stop Go.Extern
theorem SH(v:Value)(xT:TypeId)(w:World):(Instr.typeAssert (.iface 278 v) xT 284 true).run Tryz.prog w= .ok (.tuple #[.nilIface, .bool false]) w:=run_typeAssert_lacksB Tryz.underlying284 (by kernel_rfl) (by kernel_rfl) v xT w
theorem HE(v:Value)(xT:TypeId)(w:World):(Instr.typeAssert (.iface 278 v) xT 286 true).run Tryz.prog w= .ok (.tuple #[.nilIface, .bool false]) w:=run_typeAssert_lacksB Tryz.underlying286 (by kernel_rfl) (by kernel_rfl) v xT w
theorem B8(v:Value)(xT:TypeId)(w:World):(Instr.typeAssert (.iface 278 v) xT 288 true).run Tryz.prog w= .ok (.tuple #[.iface 278 v, .bool true]) w:=run_typeAssert_hasB Tryz.underlying288 (by kernel_rfl) v xT w
theorem wu(v:Value)(w:World):(Go.method 443 278 v "Unwrap").run Tryz.prog w= .ok (286,v) w:=by kernel_rfl
set_option maxRecDepth 4000 in
theorem GK(a:Addr)(w:World):
  Calls Tryz.prog 185 #[.iface 306 (.pointer (some a)), .iface 306 (.pointer (some a)), .bool true] w fun e w'=>e= .returned (.bool true)/\w'=w:=by
 obtain⟨i,hi,hcmp⟩:=Option.map_eq_some_iff.1 Cv
 obtain⟨j,hj,hjs⟩:=Option.map_eq_some_iff.1 CX
 have heq:=run_eql_iface_ptr_same (P:=Tryz.prog) w a Tryz.underlying170 Tryz.underlying306 hi hcmp hj
 go_enter Tryz.func185,Tryz.ntmps185
 go_wp2
 refine wp_loop_rounds 1 ?_
 rw[rounds_succ]
 go_wp2
 go_ret
 exact⟨rfl,rfl⟩
set_option maxRecDepth 8000 in
theorem Md(ja ra b:Addr)(cap:Nat)(w:World)(h1:w.cell? ja=some (.slice (some ra) 1 cap))(h2:w.cell? ra=some (.iface 306 (.pointer (some b)))):
  Calls Tryz.prog 113 #[.iface 278 (.pointer (some ja)), .iface 306 (.pointer (some b))] w fun e w'=>e= .returned (.bool true)/\w'=w:=by
 have h8:= @run_callFunc_extern Tryz.prog 184 _ Extern.ReflectliteType.typeOf Tryz.func184 (by kernel_rfl) (by kernel_rfl) (by kernel_rfl) (by kernel_rfl)
 have h32:= @run_callFunc_extern Tryz.prog 290 _ (Extern.ReflectliteType.method fun t=>do Go.Extern.Rtype.noPackHeld "Comparable" t;pure (.bool (←typeInfo t).comparable)) Tryz.func290 (by kernel_rfl) (by kernel_rfl) (by kernel_rfl) (by kernel_rfl)
 have tT:=uz
 have cT:=mq
 have mR:=ib
 have hne:=run_eql_iface_types (P:=Tryz.prog) 278 306 (.pointer (some ja)) (.pointer (some b)) Tryz.underlying170 (by decide)
 have n1:=SH
 have n2:=HE
 have n3:=B8
 have mU:=wu
 go_enter Tryz.func113,Tryz.ntmps113
 go_wp2
 refine wp_loop_rounds 1 ?_
 rw[rounds_succ]
 go_wp2
 refine wp_loop_rounds 1 ?_
 rw[rounds_succ]
 go_wp2_with (first|(go_at_call 185;refine(GK b _).mono ?_;rintro e w' ⟨rfl,rfl⟩))
 all_goals (go_ret;exact⟨rfl,rfl⟩)
end Go.Proofs.YthaiinlfnommnaaGreatDoor
namespace Go.Proofs.YthaiinlfnommnaaGreatDoor
open Go Go.Dn Go.Rl Go.Proofs
attribute [local irreducible] a9 vc
set_option maxRecDepth 20000
noncomputable def QB(κ:Kp):Env:=(GA κ).ak 183 3 (kz (GA κ) 12 183 3 3)
noncomputable def QX(κ:Kp):Env:=(QB κ).ak 183 12 (kz (QB κ) 12 183 12 3)
theorem eJ1(κ:Kp):aB (QB κ):=(VO κ).ak (Me κ) (qY (Me κ) 3)
theorem Uh(κ:Kp):aj (QB κ):=(Me κ).ak (kQ (Me κ) 3)
theorem eJ2(κ:Kp):aB (QX κ):=(eJ1 κ).ak (Uh κ) (qY (Uh κ) 3)
theorem Xh(κ:Kp):aj (QX κ):=(Uh κ).ak (kQ (Uh κ) 3)
theorem yJ(κ:Kp)(K:AV->List Dn.Obj->Prop):(a9 (QX κ) 12 183 [.ad 170 [.lit (lT κ)]] [] K)=(
 letI z1:=Pg.toProgram (Env.P (GA κ))
 letI z2:=Pg.toProgram (Env.P (QB κ))
 af z1 183 3=af z1 183 3/\af z2 183 12=af z2 183 12/\K (AV.iX 278 (AV.ptr 0 0 [] 0)) [Obj.box 280 (AV.agg [AV.ar 1 0 1]),Obj.row 170 [AV.lit (Value.iface
 306 (Value.pointer (some (Kp.stuck κ))))]]):=by kernel_rfl
abbrev y0:AV:= .iX 278 (.ptr 0 0 [] 0)
abbrev yL(κ:Kp):List Dn.Obj:=[.box 280 (.agg [.ar 1 0 1]), .row 170 [.lit (lT κ)]]
def Xs(κ:Kp)(_:Unit):List AV×List Dn.Obj:=([.ad 170 [.lit (lT κ)]],[])
def EU(_:Unit):Prop:=True
def TC(κ:Kp)(_:Unit):Out (AV×List Dn.Obj):= .one (y0,yL κ)
theorem cJ(κ:Kp):bq (QX κ) 12 183 (aM (Xs κ) EU (TC κ)):=by
 refine aZ ?_
 rintro⟨⟩ K _ ho
 refine Eq.mpr (yJ κ K) ?_
 exact⟨rfl,rfl,ho⟩
def XA(κ:Kp)(_:Unit):List AV×List Dn.Obj:=([y0, .lit (lT κ)],yL κ)
def RY(κ:Kp)(_:Unit):Out (AV×List Dn.Obj):= .one (.bool true,yL κ)
theorem qI(κ:Kp): ∀args st K,aM (XA κ) EU (RY κ) args st K->dp (Pr κ) 113 args st K:=by
 rintro args st K ⟨_,h1,_,h3⟩
 obtain⟨rfl,rfl⟩:=Prod.mk.inj h1
 refine⟨⟨_,Tryz.func113,rfl⟩,fun C vs hC hI hst hm=>?_⟩
 obtain⟨vs⟩:=vs
 match vs,hm with
 | [v1,v2],hm=>
  simp only[MT] at hm
  obtain⟨a1,a2,a3,b1,b2,b3,_⟩:=hm
  have hv2:v2=lT κ:=aQ (C:=C) ⟨b1,b2,b3⟩
  have r1:Rel C y0 v1:=⟨a1,a2,a3⟩
  obtain⟨c1,_⟩:=gf r1 rfl (by simp)
  simp only[M,c1] at a3
  obtain⟨u,u1,u2,u3,u4,v,v1',v2',v3⟩:=a3
  have hv1:v1= .iface 278 u:=by simpa using u1
  have hu:u.cells= #[u]:=gA (by rw[u2];rfl)
  have huv:v=u:=by rw[hu] at v1';simpa using v1'.symm
  subst huv
  have o0:=hI.obj 0 (by rw[hst];simp)
  have o1:=hI.obj 1 (by rw[hst];simp)
  rw[hst] at o0 o1
  simp only[ax,jS] at o0 o1
  obtain⟨_,_,c,e,g1,_,g2⟩:=o0
  simp only[M,ML] at g2
  obtain⟨⟨_,s,s1,_,s2⟩,_⟩:=g2
  have s3:=s2.1 170 [.lit (lT κ)] (by rw[hst];rfl)
  obtain⟨_,s3⟩:=s3
  rcases s3 with⟨_,_,_,s3⟩|⟨n1,cap,q,rfl,s3,s4,_⟩
  ·cases s3
  have hq:q=⟨(C.ι 1).block,0,none⟩:=by
   rcases s3 with s3|⟨s3,s5⟩
   ·rw[s3,Nat.zero_mul]
   ·omega
  subst hq
  obtain⟨_,o1⟩:=o1
  rcases o1 with⟨o1,_⟩|⟨_,_,c',k1,_,_,_,k2⟩
  ·rw[n1] at o1;cases o1
  simp only[MR,M] at k2
  obtain⟨⟨k2,_⟩,_⟩:=k2
  have hp:v= .pointer (some ⟨(C.ι 0).block,0,none⟩):=(v3.2.1 280 _ (by rw[hst];rfl)).2
  subst hp
  subst hv1 hv2
  refine(callsIn_wide.2 (Md ⟨(C.ι 0).block,0,none⟩ ⟨(C.ι 1).block,0,none⟩ κ.stuck cap C.w s1 k2)).mono ?_
  rintro e' w' ⟨rfl,rfl⟩
  exact⟨_, .bool true,C,rfl,rfl,rfl,hI,a0 rfl,Ext.refl _ (by rw[hst];exact Nat.le_refl _),by rw[hst];exact h3⟩
 |[],hm=>simp[MT] at hm
 |[_],hm=>simp[MT] at hm
 |_::_::_::_,hm=>simp[MT] at hm
noncomputable def EJ(κ:Kp):Env:=((QX κ).ay 183 (aM (Xs κ) EU (TC κ))).ay 113 (aM (XA κ) EU (RY κ))
theorem eJ(κ:Kp):aB (EJ κ):=((eJ2 κ).ay (Xh κ) (cJ κ)).iz (qI κ)
theorem mJ(κ:Kp):aj (EJ κ):=((Xh κ).ay aJ).ay aJ
theorem y17(κ:Kp)(a:cg)(K:AV->List Dn.Obj->Prop):(a9 (EJ κ) 12 112 [aq a] [] K)=(
 letI z2:=Value.iface 306 (Value.pointer (some (Kp.stuck κ)))
 letI z1:=∃(e0:Unit),([AV.ad 170 [AV.lit z2]],aI)=([AV.ad 170 [AV.lit z2]],aI)/\True/\K (AV.ba [AV.nil,AV.iX 278 (AV.ptr 0 0 [] 0)]) [Obj.box 280
  (AV.agg [AV.ar 1 0 1]),Obj.row 170 [AV.lit z2]]
 letI z3:=a.bl.length
 letI z4:=Value×AV
 letI z5:=Pg.toProgram (Env.P (Ml κ))
 letI z6:=Int.toNat (↑z3:Int)
 a7 (true&&decide ((↑z3:Int)<=(↑z3:Int))&&decide ((Int.toNat (↑z3:Int)+1)*2<=70368744177664)&&true) (af z5 186 3=af z5 186 3/\∃(e4:Rp),
 sp 38 [(0,AV.cu 5),(1,AV.ptr 4 0 [] 0),(3,AV.mp 7),(4,AV.ar 8 0 z6),(13,AV.int (↑z3:Int)),(14,AV.int 0)] [Obj.box 66 (aq a),Obj.box 38 (AV.ar 6 0
 0),Dn.Obj.map 9 4 [],Obj.box 178 (AV.mp 2),Obj.box 66 (aq a),Dn.Obj.loop (fR Tryz.prog 112 4 LoopState.ready none (fK (bz 40) [(0,aq a),(1,AV.ptr 0 0 []
 0),(2,AV.nil),(3,AV.lit Value.nilIface),(4,AV.ptr 1 0 [] 0),(5,AV.ptr 3 0 [] 0),(7,AV.mp 2),(8,aq a),(9,AV.bI 186 [AV.ptr 4 0 [] 0])])),Obj.row 3
 [],Dn.Obj.map 9 4 [],Obj.row 4 (fC (AV.bool false) z6)]=sp 38 [(0,AV.cu 5),(1,AV.ptr 4 0 [] 0),(3,AV.mp 7),(4,AV.ar 8 0 (List.length (bV e4.done))),
 (13,AV.int (↑(List.length e4.a.bl):Int)),(14,AV.int e4.i)] [Obj.box 66 (aq e4.a),Obj.box 38 (AV.ar 6 0 (List.length (ints e4.ks))),Dn.Obj.map 9 4 (bM
 e4.b),Obj.box 178 (AV.mp 2),Obj.box 66 (aq e4.a),Dn.Obj.loop (fR Tryz.prog 112 4 LoopState.ready none (fK (bz 40) [(0,aq e4.a),(1,AV.ptr 0 0 [] 0),(2,
 AV.nil),(3,AV.lit Value.nilIface),(4,AV.ptr 1 0 [] 0),(5,AV.ptr 3 0 [] 0),(7,AV.mp 2),(8,aq e4.a),(9,AV.bI 186 [AV.ptr 4 0 [] 0])])),Obj.row 3
 (ints e4.ks),Dn.Obj.map 9 4 (bM e4.b),Obj.row 4 (bV e4.done)]/\(aK (aG e4.a)=true/\(aX (aa (bc 56 e4.a.hl e4.a.bl))<=100000/\List.length e4.a.bl<=
 100000)/\(0:Int)<=e4.i/\e4.i<=(↑(List.length e4.a.bl):Int)/\e4.done.length=List.length e4.a.bl/\e4.ks.length<=e4.i.toNat)/\∀(e3:Bool),True->
 aD e3 (aD (decide ((↑(List.length (ints (e4.ks++eO e4))):Int)<(↑(List.length e4.a.bl):Int))) (z1/\z1) ((∃(e2:List AV),([AV.ad 56 e4.a.hl],aI)=
 ([AV.ad 56 e2],aI)/\bC e2/\∃(e1:List AV×List z4),([AV.mp 0,AV.ad 9 (List.take (List.length (aw (aa e2))) (List.drop 0 (strs (aw (aa e2)))))],
 [Dn.Obj.map 9 4 (bM (e4.b++eK (aG e4.a) (eO e4)))])=([AV.mp 0,AV.ad 9 e1.1],[Dn.Obj.map 9 4 e1.2])/\bj e1/\aD (!gi e1.2 e1.1) z1 (K (AV.ba [AV.ar 0 0
 (List.length (ints (e4.ks++eO e4))),AV.lit Value.nilIface]) [Obj.row 3 (ints (e4.ks++eO e4))]))/\∃(e2:List AV),([AV.ad 56 e4.a.hl],aI)=([AV.ad 56
 e2],aI)/\bC e2/\∃(e1:List AV×List z4),([AV.mp 0,AV.ad 9 (List.take (List.length (aw (aa e2))) (List.drop 0 (strs (aw (aa e2)))))],[Dn.Obj.map 9 4 (bM
 (e4.b++eK (aG e4.a) (eO e4)))])=([AV.mp 0,AV.ad 9 e1.1],[Dn.Obj.map 9 4 e1.2])/\bj e1/\aD (!gi e1.2 e1.1) z1 (K (AV.ba [AV.ar 0 0 (List.length (ints
 (e4.ks++eO e4))),AV.lit Value.nilIface]) [Obj.row 3 (ints (e4.ks++eO e4))]))) (aD (decide ((↑(List.length (ints (e4.ks++eO e4))):Int)<(↑(List.length
 e4.a.bl):Int))) (z1/\z1) ((∃(e2:List AV),([AV.ad 56 e4.a.hl],aI)=([AV.ad 56 e2],aI)/\bC e2/\∃(e1:List AV×List z4),([AV.mp 0,AV.ad 9
 (List.take (List.length (aw (aa e2))) (List.drop 0 (strs (aw (aa e2)))))],[Dn.Obj.map 9 4 (bM (e4.b++eK (aG e4.a) (eO e4)))])=([AV.mp 0,AV.ad 9 e1.1],
 [Dn.Obj.map 9 4 e1.2])/\bj e1/\aD (!gi e1.2 e1.1) z1 (K (AV.ba [AV.ar 0 0 (List.length (ints (e4.ks++eO e4))),AV.lit Value.nilIface]) [Obj.row 3 (ints
 (e4.ks++eO e4))]))/\∃(e2:List AV),([AV.ad 56 e4.a.hl],aI)=([AV.ad 56 e2],aI)/\bC e2/\∃(e1:List AV×List z4),([AV.mp 0,AV.ad 9 (List.take
 (List.length (aw (aa e2))) (List.drop 0 (strs (aw (aa e2)))))],[Dn.Obj.map 9 4 (bM (e4.b++eK (aG e4.a) (eO e4)))])=([AV.mp 0,AV.ad 9 e1.1],[Dn.Obj.map 9
 4 e1.2])/\bj e1/\aD (!gi e1.2 e1.1) z1 (K (AV.ba [AV.ar 0 0 (List.length (ints (e4.ks++eO e4))),AV.lit Value.nilIface]) [Obj.row 3 (ints (e4.ks++eO
 e4))]))))):=by kernel_rfl
def B6(a:cg):List AV×List Dn.Obj:=([aq a],[])
def IQ(a:cg):Prop:=aK (aG a)=true/\cV a
noncomputable def K6(κ:Kp)(a:cg):Out (AV×List Dn.Obj):= .aD (iH (aG a)) (.one (.ba [.ar 0 0 (cd (aG a)).length, .lit .nilIface],[.row 3 (ints (cd (aG a)))])) (.one (.ba [.nil,y0],yL κ))
theorem sn(n:Nat):fC (.lit (.bool false)) n=bV (List.replicate n false):=by simp[fC,bV]
theorem c17(κ:Kp):bq (EJ κ) 12 112 (aM B6 IQ (K6 κ)):=by
 refine aZ ?_
 rintro a K ⟨h1,h2⟩ ho
 refine Eq.mpr (y17 κ a K) ?_
 simp only[and_self]
 simp only[K6,Out.run,ah] at ho
 have hl:=h2.2
 have hw:eO ⟨a,[],List.replicate a.bl.length false,[],0⟩=cd (aG a):=by
  unfold eO cd
  rw[gl];rfl
 have hc:=ou h2
 have hv:=cr (aa a.hl)
 have hs:iH (aG a)=(decide (a.bl.length<=(cd (aG a)).length)&&hasB (eK (aG a) (cd (aG a))) (aw (aa a.hl))):=by
  unfold iH;rw[gl];rfl
 rw[hs] at ho
 simp only[an,aa2,aa1,Int.toNat_natCast]
 refine⟨⟨⟨⟨trivial,by omega⟩,by omega⟩,trivial⟩,trivial,⟨a,[],List.replicate a.bl.length false,[],0⟩,?_,⟨h1,h2,by simp only;omega,by simp only;omega,by simp,by simp⟩,?_⟩
 ·simp only[sn,jd,List.length_replicate];rfl
 ·intro y _
  rw[hw]
  cases y<;>
  ·simp only[nj,List.nil_append,ah,aa1,aa3,Bool.not_eq_true',ab3,reduceCtorEq,false_implies,true_implies,and_true,true_and]
   refine⟨fun e=>?_,fun e=>?_⟩
   ·rw[aa5 (show ¬ a.bl.length<=(cd (aG a)).length by omega),Bool.false_and] at ho
    exact⟨(),ho.2 rfl⟩
   ·rw[aa7 (show a.bl.length<=(cd (aG a)).length by omega),ac0] at ho
    refine⟨a.hl,rfl,hc,(strs (aw (aa a.hl)),bM (eK (aG a) (cd (aG a)))),?_,?_,?_⟩
    ·simp only[ab1,cQ]
    ·simp only[bj,aU,aR];omega
    ·simp only[eV]
     exact⟨fun e2=>⟨(),ho.2 e2⟩,fun e2=>ho.1 e2⟩
noncomputable def S9(κ:Kp):Env:=(EJ κ).ay 112 (aM B6 IQ (K6 κ))
theorem e17(κ:Kp):aB (S9 κ):=(eJ κ).ay (mJ κ) (c17 κ)
theorem Yf(κ:Kp):aj (S9 κ):=(mJ κ).ay aJ
theorem y7(κ:Kp)(a:cg)(K:AV->List Dn.Obj->Prop):(a9 (S9 κ) 12 70 [aq a] [] K)=(
 letI z1:=Value.iface 306 (Value.pointer (some (Kp.stuck κ)))
 a7 (decide (a.hl.length<=9223372036854775807)&&decide (a.bl.length<=9223372036854775807)) (aD (!aK {head:={rel:=a.rel,l:=aa a.hl},body:=c6 a.bl}) (K (AV.ba [AV.nil,AV.int 30]) []) (∃(e1:cg),([AV.agg [AV.agg [AV.str a.rel,AV.ad 56 a.hl],AV.ad 72 a.bl,AV.int a.line]],aI)=([AV.agg [AV.agg [AV.str e1.rel,AV.ad 56 e1.hl],AV.ad 72 e1.bl,AV.int e1.line]],aI)/\(aK (aG e1)=true/\aX (aa (bc 56 e1.hl e1.bl))<=100000/\e1.bl.length<=100000)/\aD (iH (aG e1)) (K (AV.ba [AV.ar 0 0 (List.length (cd (aG e1))),AV.int 0]) [Obj.row 3 (ints (cd (aG e1)))]) (∃(e0:Unit),([AV.iX 278 (AV.ptr 0 0 [] 0),AV.lit z1],[Obj.box 280 (AV.agg [AV.ar 1 0 1]),Obj.row 170 [AV.lit z1]])=([AV.iX 278 (AV.ptr 0 0 [] 0),AV.lit z1],[Obj.box 280 (AV.agg [AV.ar 1 0 1]),Obj.row 170 [AV.lit z1]])/\True/\K (AV.ba [AV.nil,AV.int 60]) [])))):=by kernel_rfl
def HY(a:cg):Out (AV×List Dn.Obj):= .aD (aK (aG a)) (.aD (iH (aG a)) (.one (.ba [.ar 0 0 (cd (aG a)).length, .int 0],[.row 3 (ints (cd (aG a)))])) (.one (.ba [.nil, .int 60],[]))) (.one (.ba [.nil, .int 30],[]))
theorem c7(κ:Kp):bq (S9 κ) 12 70 (aM B6 cV HY):=by
 refine aZ ?_
 rintro a K h2 ho
 refine Eq.mpr (y7 κ a K) ?_
 simp only[HY,Out.run,ah] at ho
 have hc:=ou h2
 have hl1:=fk (aa a.hl)
 rw[eC] at hl1
 have hl:=h2.2
 rw[an,aa2,aa1,aa1]
 refine⟨⟨by omega,by omega⟩,?_⟩
 have hr:aK ⟨⟨a.rel,aa a.hl⟩,c6 a.bl⟩=aK (aG a):=rfl
 rw[hr]
 simp only[ah,Bool.not_eq_true',ab3]
 refine⟨fun e=>ho.2 e,fun e=>⟨a,rfl,⟨e,h2⟩,fun e2=>(ho.1 e).1 e2,fun e2=>⟨(),trivial,trivial,(ho.1 e).2 e2⟩⟩⟩
noncomputable def E7(κ:Kp):Env:=(S9 κ).ay 70 (aM B6 cV HY)
theorem e7(κ:Kp):aB (E7 κ):=(e17 κ).ay (Yf κ) (c7 κ)
theorem m7(κ:Kp):aj (E7 κ):=(Yf κ).ay aJ
def ei(es:List (Value×AV))(s:ByteArray):Bool:=lB es s
structure DB where
 vs:List ByteArray
 i:Int
 es:List (Value×AV)
abbrev BV(R:List AV)(es:List (Value×AV)):List Dn.Obj:=[.row 9 R, .box 178 (.mp 2), .map 9 4 es]
abbrev Mj:AV:= .bI 125 [.ptr 1 0 [] 0]
abbrev G6(a:DB):S:=sp 19 [(0, .ar 0 0 (strs a.vs).length),(1,Mj),(7, .int (strs a.vs).length),(8, .int a.i)] (BV (strs a.vs) a.es)
theorem Zq(κ:Kp)(a:DB)(I:Nat->S->Prop)(n:Nat)(K:Exit->S->Prop):(vc (mS κ) 12 190 none 3 (af (Pr κ).toProgram 190 2) (G6 a) (bH (mS κ) 190 2 3 I n K))=(
 letI z1:=List.length (strs a.vs)
 aD (decide (a.i<(↑z1:Int))) (a7 (decide ((0:Int)<=a.i)&&decide (a.i<(↑z1:Int))) (aD (!Dn.toBool (dh a.es (Value.string (toStr (nth (strs a.vs) (0+
 a.i.toNat)))) (AV.bool false))) (K Exit.ret (sp 19 [(4,AV.int a.i)] [Obj.row 9 (strs a.vs),Obj.box 178 (AV.mp 2),Dn.Obj.map 9 4 a.es])) (∃(e0:Nat),e0<n
 /\I e0 (sp 19 [(0,AV.ar 0 0 z1),(1,AV.bI 125 [AV.ptr 1 0 [] 0]),(7,AV.int (↑z1:Int)),(8,AV.int (IntKind.wrap IntKind.i64 (a.i+(1:Int))))] [Obj.row
 9 (strs a.vs),Obj.box 178 (AV.mp 2),Dn.Obj.map 9 4 a.es])))) (K (Exit.exit 0) (sp 19 [] [Obj.row 9 (strs a.vs),Obj.box 178 (AV.mp 2),Dn.Obj.map 9 4 a.es]))):=by kernel_rfl
def DZ(a:DB):Prop:=a.vs.length<=aR/\0<=a.i/\a.i<=a.vs.length/\∀s,s∈a.vs.take a.i.toNat->ei a.es s=true
def BD(a:DB):Out (Exit×S):=
 .aD (a.vs.all (ei a.es)) (.one (.exit 0,sp 19 [] (BV (strs a.vs) a.es)))
  (.all (fun j:Int=>vg (ei a.es) a.vs j) fun j=> .one (.ret,sp 19 [(4, .int j)] (BV (strs a.vs) a.es)))
theorem ZF(κ:Kp):bh (mS κ) 12 190 2 (aP 3 G6 DZ BD):=by
 refine aL (fun a=>a.vs.length - a.i.toNat) ?_
 rintro⟨vs,i,es⟩ K ⟨h1,h2,h3,h4⟩ ho
 simp only at h1 h2 h3 h4
 rw[show(mS κ).P=Pr κ from rfl]
 refine Eq.mpr (Zq κ ⟨vs,i,es⟩ _ _ K) ?_
 simp only[aR] at h1
 simp only[BD,Out.run,ah] at ho
 have hl:=aU vs
 simp only[aU,Nat.zero_add]
 have fin:i<vs.length->∀(hi:i.toNat<vs.length),(ei es vs[i.toNat]=false->K .ret (sp 19 [(4, .int i)] (BV (strs vs) es)))/\
   (ei es vs[i.toNat]=true->∃m,m<vs.length - i.toNat/\fe G6 DZ BD (fun a=>a.vs.length - a.i.toNat) K m (G6 ⟨vs,i+1,es⟩)):=by
  intro hi0 hi
  refine⟨fun e=>ho.2 ?_ i ⟨h2,hi,h4,e⟩,fun e=>⟨_,?_,⟨vs,i+1,es⟩,rfl,⟨by simpa[aR] using h1,by simp only;omega,by simp only;omega,?_⟩,rfl,?_⟩⟩
  ·rw[Bool.eq_false_iff]
   intro hall
   rw[List.all_eq_true.1 hall _ (List.getElem_mem hi)] at e
   cases e
  ·simp only;omega
  ·intro s hs
   simp only at hs
   rw[show(i+1).toNat=i.toNat+1 by omega,List.take_succ_eq_append_getElem hi,List.mem_append,List.mem_singleton] at hs
   rcases hs with hs|hs
   ·exact h4 s hs
   ·rw[hs];exact e
  ·simp only[BD,Out.run,ah]
   exact ho
 simp only[ah,an,aa1,aa3,aa2,Bool.not_eq_true',ab3]
 refine⟨fun hi=>⟨⟨h2,hi⟩,?_⟩,fun hi=>?_⟩
 ·have hi':i.toNat<vs.length:=by omega
  have hn:toStr (nth (strs vs) i.toNat)=vs[i.toNat]:=by rw[tq vs _ hi'];rfl
  rw[aW (n:=i+1) (by omega) (by omega),hn]
  have hf:=fin hi hi'
  simp only[G6,aU] at hf
  exact⟨fun e=>hf.1 e,fun e=>hf.2 e⟩
 ·refine ho.1 (List.all_eq_true.2 fun s hs=>h4 s ?_)
  rw[List.take_of_length_le (by omega)];exact hs
noncomputable def ND(κ:Kp):Env:=(mS κ).ak 190 2 (aP 3 G6 DZ BD)
theorem eFB(κ:Kp):aB (ND κ):=(Qz κ).ak (JC κ) (ZF κ)
theorem Yt(κ:Kp):aj (ND κ):=(JC κ).ak aF
structure GB where
 R:List AV
 i:Int
 j:Int
 es:List (Value×AV)
 P:List ByteArray
 ws:List ByteArray
abbrev Br(a:GB):S:=sp 42 [(0, .ar 0 0 a.R.length),(1,Mj),(5, .int a.i),(6, .int a.j)] (BV a.R a.es)
theorem xGB(κ:Kp)(a:GB)(I:Nat->S->Prop)(n:Nat)(K:Exit->S->Prop):(vc (ND κ) 12 123 none 3 (af (Pr κ).toProgram 123 5) (Br a) (bH (ND κ) 123 5 3 I n K))=(
 letI z1:=IntKind.wrap IntKind.i64 (a.j+(1:Int))
 letI z2:=toStr (nth a.R (0+a.j.toNat))
 letI z3:=a.j<(↑(a.R.length):Int)
 aD (decide z3) (a7 (decide ((0:Int)<=a.j)&&decide z3) (aD (!!Dn.toBool (dh a.es (Value.string z2) (AV.bool false))) (a7 (decide ((0:Int)<=a.i)&&decide
 (a.i<(↑(a.R.length):Int))) (∃(e0:Nat),e0<n/\I e0 (sp 42 [(0,AV.ar 0 0 a.R.length),(1,AV.bI 125 [AV.ptr 1 0 [] 0]),(5,AV.int (IntKind.wrap
 IntKind.i64 (a.i+(1:Int)))),(6,AV.int z1)] [Obj.row 9 (b8 a.R (0+a.i.toNat) (AV.str z2)),Obj.box 178 (AV.mp 2),Dn.Obj.map 9 4 a.es]))) (∃(e0:Nat),
 e0<n/\I e0 (sp 42 [(0,AV.ar 0 0 a.R.length),(1,AV.bI 125 [AV.ptr 1 0 [] 0]),(5,AV.int a.i),(6,AV.int z1)] [Obj.row 9 a.R,Obj.box 178 (AV.mp 2),
 Dn.Obj.map 9 4 a.es])))) (K (Exit.exit 0) (sp 42 [(0,AV.ar 0 0 a.R.length),(5,AV.int a.i)] [Obj.row 9 a.R,Obj.box 178 (AV.mp 2),Dn.Obj.map 9 4 a.es]))):=by kernel_rfl
def zf(a:GB):Prop:=a.R.length<=aR/\0<=a.i/\a.i<a.j/\a.j<=a.R.length/\a.R.take a.i.toNat=strs a.P/\a.R.drop a.j.toNat=strs a.ws
def AW(a:GB):Out (Exit×S):= .all (fun R:List AV=>R.length=a.R.length/\R.take (a.P++a.ws.filter (ei a.es)).length=strs (a.P++a.ws.filter (ei a.es)))
 fun R=> .one (.exit 0,sp 42 [(0, .ar 0 0 a.R.length),(5, .int (a.P++a.ws.filter (ei a.es)).length)] (BV R a.es))
theorem lGB(κ:Kp):bh (ND κ) 12 123 5 (aP 3 Br zf AW):=by
 refine aL (fun a=>a.R.length - a.j.toNat) ?_
 rintro⟨R,i,j,es,P,ws⟩ K ⟨h1,h2,h3,h4,h5,h6⟩ ho
 simp only at h1 h2 h3 h4 h5 h6
 rw[show(ND κ).P=Pr κ from rfl]
 refine Eq.mpr (xGB κ ⟨R,i,j,es,P,ws⟩ _ _ K) ?_
 simp only[aR] at h1
 simp only[AW,Out.run] at ho
 simp only[Nat.zero_add]
 have hP:P.length=i.toNat:=by
  have:=congrArg List.length h5
  rw[List.length_take,aU] at this;omega
 have fin: ∀(s:ByteArray) (l:List ByteArray),ws=s::l->j<R.length->nth R j.toNat= .lit (.string s)->
   (ei es s=false->∃m,m<R.length - j.toNat/\fe Br zf AW (fun a=>a.R.length - a.j.toNat) K m (Br ⟨R,i,j+1,es,P,l⟩))/\
   (ei es s=true->∃m,m<R.length - j.toNat/\fe Br zf AW (fun a=>a.R.length - a.j.toNat) K m (Br ⟨b8 R i.toNat (.lit (.string s)),i+1,j+1,es,P++[s],l⟩)):=by
  rintro s l rfl hj hn
  obtain⟨_,_,h7⟩:=jo (l:=strs l) h6
  refine⟨fun e=>⟨_,?_,_,rfl,⟨by simpa[aR] using h1,h2,by simp only;omega,by simp only;omega,h5,?_⟩,rfl,?_⟩,fun e=>⟨_,?_,_,rfl,⟨by simpa[aR,gp] using h1,by simp only;omega,by simp only;omega,by simp only[gp];omega,?_,?_⟩,rfl,?_⟩⟩
  ·simp only;omega
  ·simp only[show(j+1).toNat=j.toNat+1 by omega];exact h7
  ·intro y hy
   have:=ho y
   simp only[List.filter_cons,e,Bool.false_eq_true,if_false] at hy this⊢
   exact this hy
  ·simp only[gp];omega
  ·simp only[show(i+1).toNat=i.toNat+1 by omega]
   rw[rj _ _ _ (by omega),h5,gR];rfl
  ·simp only[show(j+1).toNat=j.toNat+1 by omega]
   rw[rI _ _ _ _ (by omega)];exact h7
  ·intro y hy
   have:=ho y
   simp only[List.filter_cons,e,if_true,gp,List.append_assoc,List.singleton_append] at hy this⊢
   exact this hy
 simp only[ah,an,aa1,aa3,aa2,Bool.not_eq_true',ab3]
 refine⟨fun hj=>⟨⟨by omega,hj⟩,?_⟩,fun hj=>?_⟩
 ·cases ws with
  |nil=>
   have:=congrArg List.length h6
   rw[List.length_drop,aU] at this
   simp at this;omega
  |cons s l=>
   obtain⟨_,hn,_⟩:=jo (l:=strs l) h6
   have hn':toStr (nth R j.toNat)=s:=by rw[hn];rfl
   have hf:=fin s l rfl hj hn
   simp only[Br,gp] at hf
   rw[aW (n:=i+1) (by omega) (by omega),aW (n:=j+1) (by omega) (by omega),hn']
   exact⟨fun e=>⟨⟨by omega,by omega⟩,hf.2 e⟩,fun e=>hf.1 e⟩
 ·have hw:ws=[]:=by
   have:=congrArg List.length h6
   rw[List.length_drop,aU] at this
   cases ws with
   |nil=>rfl
   |cons=>simp at this;omega
  subst hw
  have:=ho R ⟨rfl,by simp only[List.filter_nil,List.append_nil,hP];exact h5⟩
  simp only[List.filter_nil,List.append_nil,hP,Int.toNat_of_nonneg h2] at this
  exact this
noncomputable def Uj(κ:Kp):Env:=(ND κ).ak 123 5 (aP 3 Br zf AW)
theorem eGB(κ:Kp):aB (Uj κ):=(eFB κ).ak (Yt κ) (lGB κ)
theorem YM(κ:Kp):aj (Uj κ):=(Yt κ).ak aF
theorem yGB(κ:Kp)(a:DB)(K:AV->List Dn.Obj->Prop):(a9 (Uj κ) 12 123 [.ar 0 0 (strs a.vs).length,Mj] (BV (strs a.vs) a.es) K)=(
 letI z1:=List.length (strs a.vs)
 letI z2:=Pg.toProgram (Env.P (mS κ))
 letI z3:=Pg.toProgram (Env.P (ND κ))
 af z2 190 2=af z2 190 2/\∃(e3:DB),sp 19 [(0,AV.ar 0 0 z1),(1,AV.bI 125 [AV.ptr 1 0 [] 0]),(7,AV.int (↑z1:Int)),(8,AV.int 0)] [Obj.row 9 (strs a.vs),Obj.box 178 (AV.mp 2),Dn.Obj.map 9 4 a.es]=sp 19 [(0,AV.ar 0 0 (List.length (strs e3.vs))),(1,AV.bI 125 [AV.ptr 1 0 [] 0]),(7,AV.int (↑(List.length (strs e3.vs)):Int)),(8,AV.int e3.i)] [Obj.row 9 (strs e3.vs),Obj.box 178 (AV.mp 2),Dn.Obj.map 9 4 e3.es]/\(e3.vs.length<=9223372036854775807/\(0:Int)<=e3.i/\e3.i<=(↑(e3.vs.length):Int)/\∀(e0:ByteArray),List.Mem e0 (List.take e3.i.toNat e3.vs)->ei e3.es e0=true)/\aD (List.all e3.vs (ei e3.es)) (K (AV.ad 9 (List.take z1 (List.drop 0 (strs e3.vs)))) [Obj.l4 9 (strs e3.vs),Obj.box 178 (AV.mp 2),Dn.Obj.map 9 4 e3.es]) (∀(e2:Int),((0:Int)<=e2/\∃(e1:e2.toNat<e3.vs.length),(∀(e0:ByteArray),List.Mem e0 (List.take e2.toNat e3.vs)->ei e3.es e0=true)/\ei e3.es e3.vs[e2.toNat]=false)->aD (e2==(-1:Int)) (K (AV.ad 9 (List.take z1 (List.drop 0 (strs e3.vs)))) [Obj.l4 9 (strs e3.vs),Obj.box 178 (AV.mp 2),Dn.Obj.map 9 4 e3.es]) (af z3 123 5=af z3 123 5/\∃(e1:GB),sp 42 [(0,AV.ar 0 0 z1),(1,AV.bI 125 [AV.ptr 1 0 [] 0]),(5,AV.int e2),(6,AV.int (IntKind.wrap IntKind.i64 (e2+(1:Int))))] [Obj.row 9 (strs e3.vs),Obj.box 178 (AV.mp 2),Dn.Obj.map 9 4 e3.es]=sp 42 [(0,AV.ar 0 0 e1.R.length),(1,AV.bI 125 [AV.ptr 1 0 [] 0]),(5,AV.int e1.i),(6,AV.int e1.j)] [Obj.row 9 e1.R,Obj.box 178 (AV.mp 2),Dn.Obj.map 9 4 e1.es]/\(e1.R.length<=9223372036854775807/\(0:Int)<=e1.i/\e1.i<e1.j/\e1.j<=(↑(e1.R.length):Int)/\List.take e1.i.toNat e1.R=strs e1.P/\List.drop e1.j.toNat e1.R=strs e1.ws)/\∀(e0:List AV),e0.length=e1.R.length/\List.take (List.length (e1.P++List.filter (ei e1.es) e1.ws)) e0=strs (e1.P++List.filter (ei e1.es) e1.ws)->a7 (true&&decide ((↑(List.length (e1.P++List.filter (ei e1.es) e1.ws)):Int)<=(↑(e1.R.length):Int))&&decide ((↑(e1.R.length):Int)<=(↑(e1.R.length):Int))) (a7 (true&&decide ((↑(List.length (e1.P++List.filter (ei e1.es) e1.ws)):Int)<=(↑(e1.R.length):Int))) (K (AV.ad 9 (List.take (Int.toNat ((↑(List.length (e1.P++List.filter (ei e1.es) e1.ws)):Int) - (0:Int))) (List.drop 0 (dH e0 (0+Int.toNat (↑(List.length (e1.P++List.filter (ei e1.es) e1.ws)):Int)) (Int.toNat ((↑(e1.R.length):Int) - (↑(List.length (e1.P++List.filter (ei e1.es) e1.ws)):Int))) (AV.str {data:= #[]}))))) [Obj.l4 9 (dH e0 (0+Int.toNat (↑(List.length (e1.P++List.filter (ei e1.es) e1.ws)):Int)) (Int.toNat ((↑(e1.R.length):Int) - (↑(List.length (e1.P++List.filter (ei e1.es) e1.ws)):Int))) (AV.str {data:= #[]})),Obj.box 178 (AV.mp 2),Dn.Obj.map 9 4 e1.es]))))):=by kernel_rfl
def F4(a:DB):List AV×List Dn.Obj:=([.ar 0 0 a.vs.length,Mj],BV (strs a.vs) a.es)
def oF(a:DB):Prop:=a.vs.length<=aR
def C9(a:DB):Out (AV×List Dn.Obj):= .all (fun _:List AV=>True) fun R=> .one (.ad 9 (strs (a.vs.filter (ei a.es))),[.l4 9 R, .box 178 (.mp 2), .map 9 4 a.es])
theorem UD(κ:Kp):bq (Uj κ) 12 123 (aM F4 oF C9):=by
 refine aZ ?_
 rintro⟨vs,i,es⟩ K h1 ho
 simp only[oF] at h1
 simp only[F4]
 rw[←aU vs]
 refine Eq.mpr (yGB κ ⟨vs,i,es⟩ K) ?_
 refine⟨rfl,⟨vs,0,es⟩,rfl,⟨h1,by simp only;omega,by simp only;omega,fun s hs=>nomatch hs⟩,?_⟩
 rw[ah]
 refine⟨fun e=>?_,fun e y hy=>?_⟩
 ·have hf:vs.filter (ei es)=vs:=List.filter_eq_self.2 (List.all_eq_true.1 e)
  have:=ho (strs vs) trivial
  simp only[hf] at this
  rw[ab1,List.take_length]
  exact this
 ·have hF:=pU hy
  obtain⟨h0,h2,h3,h4⟩:=hy
  simp only at h0 h2
  simp only[aR] at h1
  rw[ah,beq_iff_eq,beq_eq_false_iff_ne]
  refine⟨fun e2=>by omega,fun _=>⟨rfl,⟨strs vs,y,y+1,es,vs.take y.toNat,vs.drop (y.toNat+1)⟩,?_,⟨by simp only[aU];omega,h0,by simp only;omega,by simp only[aU];omega,?_,?_⟩,?_⟩⟩
  ·rw[aW (n:=y+1) (by omega) (by omega)]
  ·simp only[strs,List.map_take]
  ·simp only[strs,List.map_drop,show(y+1).toNat=y.toNat+1 by omega]
  ·rintro R ⟨r1,r2⟩
   simp only at r1 r2
   rw[←hF] at r2⊢
   have hle:(vs.filter (ei es)).length<=vs.length:=List.length_filter_le _ _
   rw[an,an]
   refine⟨by simp[aU,hle],by simp[aU,hle],?_⟩
   have:=ho (dH R (0+Int.toNat ((vs.filter (ei es)).length:Int)) (Int.toNat (((strs vs).length:Int) - ((vs.filter (ei es)).length:Int))) (.lit (.string (ByteArray.mk #[])))) trivial
   simp only[Int.toNat_natCast,Nat.zero_add,Int.sub_zero,ab1,nW,r2] at this⊢
   exact this
theorem U8(κ:Kp): ∀args st K,aM F4 oF C9 args st K->dp (Pr κ) 123 args st K:=fun args st K h=>il (eGB κ) (YM κ) (UD κ args st K h)
structure Sh where
 a:cg
 ws:List Nat
 n:Nat
 i:Int
 vs:List ByteArray
abbrev OR(a:Sh):S:=sp 48 [(2, .ptr 0 0 [] 0),(8, .ptr 1 0 [] 0),(32, .ar 3 0 a.n),(33, .int a.n),(34, .int a.i)] [.box 66 (aq a.a), .box 178 (.mp 2), .map 9 4 (bM a.vs), .row 3 (ints a.ws)]
theorem x10(κ:Kp)(a:Sh)(ws:List AV)(es:List (Value×AV))(I:Nat->S->Prop)(n:Nat)(K:Exit->S->Prop):(vc (E7 κ) 12 77 none 0 (af (Pr κ).toProgram 77 8) (sp 48 [(2, .ptr 0 0 [] 0),(8, .ptr 1 0 [] 0),(32, .ar 3 0 a.n),(33, .int a.n),(34, .int a.i)] [.box 66 (aq a.a), .box 178 (.mp 2), .map 9 4 es, .row 3 ws]) (bH (E7 κ) 77 8 0 I n K))=(
 letI z1:=∃(e2:cg×Int),([aq a.a,AV.int (toInt (nth ws (0+a.i.toNat)))],aI)=([aq e2.1,AV.int e2.2],aI)/\(aK (aG e2.1)=true/\(aX (aa (bc 56
  e2.1.hl e2.1.bl))<=100000/\e2.1.bl.length<=100000)/\(0:Int)<=e2.2/\e2.2<(↑(e2.1.bl.length):Int))/\∃(e1:List AV×List (Value×AV)),([AV.mp 0,
  AV.ad 9 (strs (cL (aG e2.1) e2.2.toNat))],[Dn.Obj.map 9 4 es])=([AV.mp 0,AV.ad 9 e1.1],[Dn.Obj.map 9 4 e1.2])/\bj e1/\∃(e0:Nat),e0<n/\I e0 (sp 48
  [(2,AV.ptr 0 0 [] 0),(8,AV.ptr 1 0 [] 0),(32,AV.ar 3 0 a.n),(33,AV.int (↑(a.n):Int)),(34,AV.int (IntKind.wrap IntKind.i64 (a.i+(1:Int))))]
  [Obj.box 66 (aq a.a),Obj.box 178 (AV.mp 2),Dn.Obj.map 9 4 (fm e1.2 e1.1),Obj.row 3 ws])
 aD (decide (a.i<(↑(a.n):Int))) (a7 (decide ((0:Int)<=a.i)&&decide (a.i<(↑(a.n):Int))) (z1/\z1)) (K (Exit.exit 1) (sp 48 [(2,AV.ptr 0 0 [] 0),(8,
 AV.ptr 1 0 [] 0)] [Obj.box 66 (aq a.a),Obj.box 178 (AV.mp 2),Dn.Obj.map 9 4 es]))):=by kernel_rfl
def Gs(a:Sh):Prop:=aK (aG a.a)=true/\cV a.a/\0<=a.i/\a.i<=a.n/\a.n<=a.ws.length/\a.ws.length<=a.a.bl.length/\∀k,k∈a.ws->k<a.a.bl.length
def zH(a:Sh):Out (Exit×S):= .one (.exit 1,sp 48 [(2, .ptr 0 0 [] 0),(8, .ptr 1 0 [] 0)] [.box 66 (aq a.a), .box 178 (.mp 2), .map 9 4 (bM (a.vs++eK (aG a.a) ((a.ws.take a.n).drop a.i.toNat)))])
theorem Ao(l:List Nat)(i:Nat)(h:i<l.length):toInt (nth (ints l) i)=(l[i]:Int):=by
 rw[bg _ _ (by rw[nj];exact h)];simp[ints,toInt]
theorem l10(κ:Kp):bh (E7 κ) 12 77 8 (aP 0 OR Gs zH):=by
 refine aL (fun a=>a.n - a.i.toNat) ?_
 rintro⟨a,ws,n,i,vs⟩ K ⟨h1,h2,h3,h4,h5,h6,h7⟩ ho
 simp only at h1 h2 h3 h4 h5 h6 h7
 rw[show(E7 κ).P=Pr κ from rfl]
 refine Eq.mpr (x10 κ ⟨a,ws,n,i,vs⟩ (ints ws) (bM vs) _ _ K) ?_
 simp only[zH,Out.run] at ho
 simp only[and_self,Nat.zero_add]
 have hl:=h2.2
 rw[ah,an,aa2,aa1,aa1,aa3]
 refine⟨fun hi=>⟨⟨h3,hi⟩,?_⟩,fun hi=>?_⟩
 ·have hi':i.toNat<ws.length:=by omega
  have hk:=h7 _ (List.getElem_mem hi')
  have hg:=rE h2 hk
  have hd:(ws.take n).drop i.toNat=ws[i.toNat]::(ws.take n).drop (i.toNat+1):=by
   rw[ab2 (by rw[List.length_take];omega)]
   simp
  rw[hd] at ho
  rw[aW (n:=i+1) (by omega) (by omega),Ao ws _ hi']
  refine⟨(a,(ws[i.toNat]:Int)),rfl,⟨h1,h2,by simp only;omega,by simp only;omega⟩,(strs (cL (aG a) ws[i.toNat]),bM vs),rfl,by simp only[bj,aU,aR];omega,_,?_,⟨a,ws,n,i+1,vs++cL (aG a) ws[i.toNat]⟩,?_,⟨h1,h2,by simp only;omega,by simp only;omega,h5,h6,h7⟩,rfl,?_⟩
  ·simp only;omega
  ·simp only[lH]
  ·simp only[zH,Out.run,show(i+1).toNat=i.toNat+1 by omega]
   simpa only[eK,List.flatMap_cons,List.append_assoc] using ho
 ·rw[aa9 (by rw[List.length_take];omega)] at ho
  simpa[eK] using ho
noncomputable def It(κ:Kp):Env:=((E7 κ).ak 77 8 (aP 0 OR Gs zH)).ay 123 (aM F4 oF C9)
theorem Wu(κ:Kp):aB (It κ):=((e7 κ).ak (m7 κ) (l10 κ)).iz (U8 κ)
theorem Sj(κ:Kp):aj (It κ):=((m7 κ).ak aF).ay aJ
theorem y10(κ:Kp)(a:cg)(k:Int)(K:AV->List Dn.Obj->Prop):(a9 (It κ) 12 77 [aq a, .int k] [] K)=(
 letI z1:=K (AV.ba [AV.nil,AV.int 2]) []
 letI z2:=Pg.toProgram (Env.P (E7 κ))
 letI z3:=Int.toNat (k - (0:Int))
 ∃(e4:cg),([aq a],aI)=([aq e4],aI)/\(aX (aa (bc 56 e4.hl e4.bl))<=100000/\e4.bl.length<=100000)/\aD (aK (aG e4)) (aD (iH (aG e4)) (aD (decide (k<
 (0:Int))) z1 (aD (decide (k>(↑(List.length (cd (aG e4))):Int))) z1 (a7 (true&&decide ((0:Int)<=k)&&decide (k<=(↑(List.length (cd (aG e4))):
 Int))) (af z2 77 8=af z2 77 8/\∃(e3:Sh),sp 48 [(2,AV.ptr 0 0 [] 0),(8,AV.ptr 1 0 [] 0),(32,AV.ar 3 0 z3),(33,AV.int (↑z3:Int)),(34,AV.int 0)]
 [Obj.box 66 (aq a),Obj.box 178 (AV.mp 2),Dn.Obj.map 9 4 [],Obj.row 3 (ints (cd (aG e4)))]=sp 48 [(2,AV.ptr 0 0 [] 0),(8,AV.ptr 1 0 [] 0),(32,AV.ar 3 0
 e3.n),(33,AV.int (↑(e3.n):Int)),(34,AV.int e3.i)] [Obj.box 66 (aq e3.a),Obj.box 178 (AV.mp 2),Dn.Obj.map 9 4 (bM e3.vs),Obj.row 3 (ints e3.ws)]/\(aK
 (aG e3.a)=true/\(aX (aa (bc 56 e3.a.hl e3.a.bl))<=100000/\List.length e3.a.bl<=100000)/\(0:Int)<=e3.i/\e3.i<=(↑(e3.n):Int)/\e3.n<=e3.ws.length/\
 e3.ws.length<=List.length e3.a.bl/\∀(e0:Nat),List.Mem e0 e3.ws->e0<List.length e3.a.bl)/\∃(e2:cg),([aq e3.a],aI)=([aq e2],aI)/\(aK (aG e2)=
 true/\aX (aa (bc 56 e2.hl e2.bl))<=100000/\e2.bl.length<=100000)/\∃(e1:DB),([AV.ar 0 0 (List.length (cP (aG e2))),AV.bI 125 [AV.ptr 1 0 [] 0]],
 [Obj.row 9 (strs (cP (aG e2))),Obj.box 178 (AV.mp 2),Dn.Obj.map 9 4 (bM (e3.vs++eK (aG e3.a) (List.drop e3.i.toNat (List.take e3.n e3.ws))))])=([AV.ar 0 0
 e1.vs.length,AV.bI 125 [AV.ptr 1 0 [] 0]],[Obj.row 9 (strs e1.vs),Obj.box 178 (AV.mp 2),Dn.Obj.map 9 4 e1.es])/\oF e1/\∀(e0:List AV),True->K (AV.ba
 [AV.ad 9 (strs (List.filter (ei e1.es) e1.vs)),AV.int 0]) [])))) (K (AV.ba [AV.nil,AV.int 60]) [])) (K (AV.ba [AV.nil,AV.int 30]) [])):=by kernel_rfl
def LF(a:cg×Int):List AV×List Dn.Obj:=([aq a.1, .int a.2],[])
def yD(a:cg×Int):Prop:=cV a.1
def wS(a:cg×Int):Out (AV×List Dn.Obj):= .aD (aK (aG a.1)) (.aD (iH (aG a.1)) (.aD (decide (a.2<0)||decide (a.1.bl.length<a.2)) (.one (.ba [.nil, .int 2],[]))
 (.one (.ba [.ad 9 (strs (kq (aG a.1) a.2.toNat)), .int 0],[]))) (.one (.ba [.nil, .int 60],[]))) (.one (.ba [.nil, .int 30],[]))
theorem oH{a:cg}(h:iH (aG a)=true):(cd (aG a)).length=a.bl.length:=by
 have h1:=GC (aG a)
 rw[gl] at h1
 simp only[iH,aa2,aa1,gl] at h
 omega
theorem c10(κ:Kp):bq (It κ) 12 77 (aM LF yD wS):=by
 refine aZ ?_
 rintro⟨a,k⟩ K h2 ho
 refine Eq.mpr (y10 κ a k K) ?_
 simp only[wS,Out.run,ah] at ho
 have h2:cV a:=h2
 have hl:=h2.2
 refine⟨a,rfl,h2,?_⟩
 rw[ah]
 refine⟨fun e1=>?_,fun e1=>ho.2 e1⟩
 rw[ah]
 refine⟨fun e2=>?_,fun e2=>(ho.1 e1).2 e2⟩
 have hw:=oH e2
 have ho1:=(ho.1 e1).1 e2
 rw[ah,aa1,aa3]
 refine⟨fun e3=>ho1.1 (by rw[aa7 e3];rfl),fun e3=>?_⟩
 rw[ah,aa1,aa3,hw]
 refine⟨fun e4=>ho1.1 (by rw[aa7 (show(a.bl.length:Int)<k from e4)];simp),fun e4=>?_⟩
 have ho2:=ho1.2 (by rw[aa5 e3,aa5 (show ¬ (a.bl.length:Int)<k from e4)];rfl)
 simp only[an,aa2,aa1,Int.sub_zero]
 have h5:(fc (aG a)).length<=100000:=by
  have h6:=cr (aa (bc 56 a.hl a.bl))
  rw[ig 56 a.rel a.hl a.bl] at h6
  exact Nat.le_trans h6 h2.1
 have h7:=kt (fc (aG a)) []
 refine⟨⟨⟨trivial,by omega⟩,by omega⟩,trivial,⟨a,cd (aG a),k.toNat,0,[]⟩,rfl,⟨e1,h2,by simp only;omega,by simp only;omega,by simp only;omega,by simp only;omega,fun j hj=>by have:=AA hj;rwa [gl] at this⟩,a,rfl,⟨e1,h2⟩,⟨cP (aG a),0,bM ([]++eK (aG a) (((cd (aG a)).take k.toNat).drop (Int.toNat 0)))⟩,rfl,?_,?_⟩
 ·simp only[oF,cP,e1,aa8,aR];omega
 ·intro R _
  have hk3:List.filter (ei (bM ([]++eK (aG a) (((cd (aG a)).take k.toNat).drop (Int.toNat 0))))) (cP (aG a))=kq (aG a) k.toNat:=by
   unfold kq
   refine congrFun (congrArg _ ?_) _
   funext s
   unfold ei
   rw[oG];rfl
  simp only[hk3]
  exact ho2
noncomputable def Lz(κ:Kp):Env:=(It κ).ay 77 (aM LF yD wS)
theorem e10(κ:Kp):aB (Lz κ):=(Wu κ).ay (Sj κ) (c10 κ)
theorem XN(κ:Kp):aj (Lz κ):=(Sj κ).ay aJ
end Go.Proofs.YthaiinlfnommnaaGreatDoor
