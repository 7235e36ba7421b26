import Derived.Test.YthaiinlfnommnaaGreatDoorDbM3
import Derived.Test.YthaiinlfnommnaaGreatDoorDbM1
import Derived.Test.YthaiinlfnommnaaGreatDoorDbM2
namespace Go.Proofs.YthaiinlfnommnaaGreatDoor
open Go Go.Dn Go.Rl Go.Proofs
attribute [local irreducible] bf vc
set_option maxRecDepth 20000
theorem x65(κ:Kp)(l:List AV)(s:ByteArray)(i:Int)(I:Nat->S->Prop)(n:Nat)(K:Exit->S->Prop):(vc (OS κ) 12 242 none 0 (ah (Pr κ).toProgram 242 2) (sp 19 [(0, .ad 9 l),(1, .lit (.string s)),(7, .int l.length),(8, .int i)] []) (bL (OS κ) 242 2 0 I n K))=(
 letI z1:=i<(↑(l.length):Int)
 aC (decide z1) (ba (decide ((0:Int)<=i)&&decide z1) (aC (ByteArray.toList s==ByteArray.toList (toStr (nth l i.toNat))) (K Exit.ret (sp 19 [(4,AV.int i)]
 [])) (∃(e0:Nat),e0<n/\I e0 (sp 19 [(0,AV.ad 9 l),(1,AV.str s),(7,AV.int (↑(l.length):Int)),(8,AV.int (IntKind.wrap IntKind.i64 (i+(1:
 Int))))] [])))) (K (Exit.exit 0) (sp 19 [] []))):=by kernel_rfl
abbrev Us(a:List AV×ByteArray×Int):S:=sp 19 [(0, .ad 9 a.1),(1, .lit (.string a.2.1)),(7, .int a.1.length),(8, .int a.2.2)] []
def Kf(a:List AV×ByteArray×Int):Prop:=a.1.length<=aM/\0<=a.2.2/\a.2.2<=a.1.length
def GV(a:List AV×ByteArray×Int):Out (Exit×S):= .aC (decide (eg a.2.1 (a.1.drop a.2.2.toNat) a.2.2>=0)) (.one (.ret,sp 19 [(4, .int (eg a.2.1 (a.1.drop a.2.2.toNat) a.2.2))] [])) (.one (.exit 0,sp 19 [] []))
theorem l65(κ:Kp):bk (OS κ) 12 242 2 (aP 0 Us Kf GV):=by
 refine aL (fun a=>a.1.length - a.2.2.toNat) ?_
 rintro⟨l,s,i⟩ K ⟨h1,h2,h3⟩ ho
 simp only at h1 h2 h3
 rw[show(OS κ).P=Pr κ from rfl]
 refine Eq.mpr (x65 κ l s i _ _ K) ?_
 simp only[aM] at h1
 simp only[GV,Out.run,af] at ho
 simp only[af,an,aa2,aa4,aa3]
 refine⟨fun hi=>⟨⟨h2,hi⟩,fun e=>?_,fun e=>?_⟩,fun hi=>?_⟩
 ·rw[ab3 (show i.toNat<l.length by omega),←aZ l i.toNat (by omega),eg,show ll s (toStr (nth l i.toNat))=true from e,aa9,aa8 (show i>=0 from h2)] at ho
  exact ho.1 rfl
 ·rw[aW (n:=i+1) (by omega) (by omega)]
  refine⟨_,?_,(l,s,i+1),rfl,⟨by simpa[aM] using h1,by simp only;omega,by simp only;omega⟩,rfl,?_⟩
  ·simp only;omega
  ·rw[ab3 (show i.toNat<l.length by omega),←aZ l i.toNat (by omega),eg,show ll s (toStr (nth l i.toNat))=false from e,aa7] at ho
   simp only[GV,Out.run,af,show(i+1).toNat=i.toNat+1 by omega]
   exact ho
 ·rw[ab0 (by omega)] at ho
  exact ho.2 rfl
noncomputable def Jo(κ:Kp):Env:=(OS κ).ak 242 2 (aP 0 Us Kf GV)
theorem Yv(κ:Kp):aD (Jo κ):=(e39 κ).ak (Za κ) (l65 κ)
theorem T7(κ:Kp):aj (Jo κ):=(Za κ).ak aI
theorem y65(κ:Kp)(l:List AV)(s:ByteArray)(K:AV->List Dn.Obj->Prop):(bf (Jo κ) 12 242 [.ad 9 l, .lit (.string s)] [] K)=(
 ah (Pg.toProgram (Env.P (OS κ))) 242 2=ah (Pg.toProgram (Env.P (OS κ))) 242 2/\∃(a:List AV×ByteArray×Int),sp 19 [(0,AV.ad 9 l),(1,
 AV.str s),(7,AV.int (↑(l.length):Int)),(8,AV.int 0)] []=sp 19 [(0,AV.ad 9 a.1),(1,AV.str a.2.1),(7,AV.int (↑(a.1.length):Int)),(8,AV.int
 a.2.2)] []/\(a.1.length<=9223372036854775807/\(0:Int)<=a.2.2/\a.2.2<=(↑(a.1.length):Int))/\aC (decide (eg a.2.1 (List.drop (Int.toNat a.2.2)
 a.1) a.2.2>=(0:Int))) (K (AV.int (eg a.2.1 (List.drop (Int.toNat a.2.2) a.1) a.2.2)) []) (K (AV.int (-1)) [])):=by kernel_rfl
def Yh:List AV->Option (Bool×AV)
 |[.ad 9 l, .lit (.string s)]=>some (decide (l.length<=aM), .int (eg s l 0))
 |_=>none
theorem wa(s:ByteArray): ∀(l:List AV) (i:Int),¬ eg s l i>=0->0<=i->eg s l i= -1
 |[],_,_,_=>rfl
 |a::l,i,h,h0=>by
  simp only[eg] at h⊢
  cases e:ll s (toStr a) with
  |true=>rw[e] at h;exact absurd h0 h
  |false=>rw[e] at h;exact wa s l (i+1) h (by omega)
theorem p65(κ:Kp):cy (Jo κ) 12 242 Yh:=by
 intro args x hh
 unfold Yh at hh
 split at hh
 ·rename_i l s
  simp only[aa5,ab1,aa2] at hh
  obtain⟨h1,rfl⟩:=hh
  refine⟨_,rfl,rfl,?_⟩
  refine Eq.mpr (y65 κ l s _) ?_
  refine⟨rfl,(l,s,0),rfl,⟨h1,by simp only;omega,by simp only;omega⟩,?_⟩
  simp only[ab9,ab2,af,aa2,aa4]
  exact⟨fun _=>trivial,fun e=>by rw[wa s l 0 e (by omega)]⟩
 ·cases hh
noncomputable def U7(κ:Kp):Env:=(Jo κ).aG 242 Yh
theorem e65(κ:Kp):aD (U7 κ):=(Yv κ).aG (T7 κ) (p65 κ)
theorem ZF(κ:Kp):aj (U7 κ):=(T7 κ).aG
theorem y63(κ:Kp)(l:List AV)(s:ByteArray)(K:AV->List Dn.Obj->Prop):(bf (U7 κ) 12 193 [.ad 9 l, .lit (.string s)] [] K)=(
 ba (decide (l.length<=9223372036854775807)) (K (AV.bool (decide (eg s l (0:Int)>=(0:Int)))) [])):=by kernel_rfl
def WT:List AV->Option (Bool×AV)
 |[.ad 9 l, .lit (.string s)]=>some (decide (l.length<=aM), .bool (decide (eg s l 0>=0)))
 |_=>none
theorem p63(κ:Kp):cy (U7 κ) 12 193 WT:=by
 intro args x hh
 unfold WT at hh
 split at hh
 ·rename_i l s
  simp only[aa5,ab1,aa2] at hh
  obtain⟨h1,rfl⟩:=hh
  refine⟨_,rfl,rfl,?_⟩
  refine Eq.mpr (y63 κ l s _) ?_
  rw[an,aa2]
  exact⟨h1,rfl⟩
 ·cases hh
noncomputable def V4(κ:Kp):Env:=(U7 κ).aG 193 WT
theorem e63(κ:Kp):aD (V4 κ):=(e65 κ).aG (ZF κ) (p63 κ)
theorem Zu(κ:Kp):aj (V4 κ):=(ZF κ).aG
theorem y24(κ:Kp)(a:cq)(k:Int)(K:AV->List Dn.Obj->Prop):(bf (V4 κ) 12 122 [aq a, .int k] [] K)=(
 letI z2:=nth a.bl k.toNat
 letI z1:=∃(e1:List AV),([AV.ad 56 [AV.agg [AV.int (toInt (ae (ae z2 2) 0)),AV.str (toStr (ae (ae z2 2) 1)),AV.int (toInt (ae (ae z2 2) 2)),AV.ad 56 (ai
  (ae (ae z2 2) 3))]]],aJ)=([AV.ad 56 e1],aJ)/\bI e1/\∃(e0:cq×Int),([aq a,AV.int k],aJ)=([aq e0.1,AV.int e0.2],aJ)/\(aQ (aH e0.1)=true/\(aO
  (aa (bn 56 e0.1.hl e0.1.bl))<=100000/\e0.1.bl.length<=100000)/\(0:Int)<=e0.2/\e0.2<(↑(e0.1.bl.length):Int))/\ba (decide ((List.length (ax (aa e1))
  +List.length (strs (ep (aH e0.1) e0.2.toNat))+1)*17<=70368744177664)) (K (AV.ad 9 (List.take (List.length (ax (aa e1))+List.length (strs (ep (aH e0.1)
  e0.2.toNat))) (List.drop 0 (List.take (List.length (ax (aa e1))) (strs (ax (aa e1)))++strs (ep (aH e0.1) e0.2.toNat))))) [])
 ba (decide ((0:Int)<=k)&&decide (k<(↑(a.bl.length):Int))) (aC (decide ((7:Int)<=toInt (ae z2 0))) ((z1/\z1)/\z1) (∃(e0:LA),([AV.agg [AV.int
 (toInt (ae z2 0)),AV.agg [AV.str (toStr (ae (ae z2 1) 0)),AV.ad 56 (ai (ae (ae z2 1) 1))],AV.agg [AV.int (toInt (ae (ae z2 2) 0)),AV.str (toStr (ae (ae z2
 2) 1)),AV.int (toInt (ae (ae z2 2) 2)),AV.ad 56 (ai (ae (ae z2 2) 3))],AV.agg [AV.int (toInt (ae (ae z2 3) 0)),AV.str (toStr (ae (ae z2 3) 1)),AV.int
 (toInt (ae (ae z2 3) 2)),AV.ad 56 (ai (ae (ae z2 3) 3))]]],aJ)=([AV.agg [AV.int e0.op,AV.agg [AV.str e0.s,AV.ad 56 e0.l],AV.agg [AV.int e0.o1,AV.str
 e0.s1,AV.int e0.n1,AV.ad 56 e0.l1],AV.agg [AV.int e0.o2,AV.str e0.s2,AV.int e0.n2,AV.ad 56 e0.l2]]],aJ)/\gi e0/\K (AV.ad 9 (List.take (List.length (eE
 (LA.lt e0))) (List.drop 0 (strs (eE (LA.lt e0)))))) []))):=by kernel_rfl
def Qv(a:cq×Int):Out (AV×List Dn.Obj):= .one (.ad 9 (strs (db (aH a.1) a.2.toNat)),[])
theorem G3(l:Lt):aO [l.x]<=iS l:=by
 simp only[iS,aO];omega
theorem GJ(x:AV):aa [pj 56 (ae x 2)]=[(cU x).x]:=by
 simp only[aa,ac2,ac3,qJ];rfl
theorem rV{a:cq}(h:df a)(k:Nat):(ep (aH a) k).length<=100000:=by
 have h5:(fw (aH a)).length<=100000:=by
  have h6:=cF (aa (bn 56 a.hl a.bl))
  rw[iJ 56 a.rel a.hl a.bl] at h6
  exact Nat.le_trans h6 h.1
 have h7:=lg (fw (aH a)) []
 refine Nat.le_trans (List.length_filter_le _ _) ?_
 unfold dc
 cases aQ (aH a)
 ·simp
 ·rw[aa9];omega
theorem c24(κ:Kp):bz (V4 κ) 12 122 (aR NN zE Qv):=by
 refine bg ?_
 rintro⟨a,k⟩ K ⟨h1,h2,h3,h4⟩ ho
 refine Eq.mpr (y24 κ a k K) ?_
 simp only at h1 h2 h3 h4
 have hk:k.toNat<a.bl.length:=by omega
 have hlit:=kO h2 hk
 have hv:=cF [(cU (nth a.bl k.toNat)).x]
 have hc:=G3 (cU (nth a.bl k.toNat))
 have ho':K (.ad 9 (strs (db (aH a) k.toNat))) []:=ho
 unfold db at ho'
 rw[show(aH a).body=di a.bl from rfl,kC _ hk,show(cU (nth a.bl k.toNat)).op=toInt (ae (nth a.bl k.toNat) 0) from rfl] at ho'
 simp only[and_self]
 rw[an,aa3,aa2,aa2,af,aa2,aa4]
 refine⟨⟨h3,h4⟩,fun e=>?_,fun e=>?_⟩
 ·rw[aa8 e] at ho'
  refine⟨[pj 56 (ae (nth a.bl k.toNat) 2)],rfl,by simp only[bI,GJ];omega,(a,k),rfl,⟨h1,h2,h3,h4⟩,?_⟩
  have hol:=rV h2 k.toNat
  simp only[GJ,aX,ab2,dd,an,aa2]
  refine⟨by omega,?_⟩
  rw[←iu,List.take_of_length_le (by simp[aX])]
  exact ho'
 ·rw[aa6 e] at ho'
  refine⟨r6 (nth a.bl k.toNat),rfl,by rw[gi,eH];exact hlit,?_⟩
  simp only[eH,ab2,dd]
  exact ho'
noncomputable def Vz(κ:Kp):Env:=(V4 κ).ay 122 (aR NN zE Qv)
theorem e24(κ:Kp):aD (Vz κ):=(e63 κ).ay (Zu κ) (c24 κ)
theorem m24(κ:Kp):aj (Vz κ):=(Zu κ).ay aK
theorem y52(κ:Kp)(a:cq)(k:Int)(es:List (Value×AV))(K:AV->List Dn.Obj->Prop):(bf (Vz κ) 12 236 [.mp 0,aq a, .int k] [.map 9 4 es] K)=(
 letI z4:=nth a.bl k.toNat
 letI z5:=toStr (ae (ae z4 3) 1)
 letI z6:=ai (ae (ae z4 1) 1)
 letI z7:=toStr (ae (ae z4 1) 0)
 letI z8:=toInt (ae (ae z4 2) 0)
 letI z9:=toStr (ae (ae z4 2) 1)
 letI z10:=toInt (ae (ae z4 2) 2)
 letI z11:=toInt (ae (ae z4 3) 0)
 letI z12:=toInt (ae (ae z4 3) 2)
 letI z13:=ai (ae (ae z4 2) 3)
 letI z14:=ai (ae (ae z4 3) 3)
 letI z15:=Value×AV
 letI z1:=∃(e3:cq×Int),([aq a,AV.int k],aJ)=([aq e3.1,AV.int e3.2],aJ)/\(aQ (aH e3.1)=true/\(aO (aa (bn 56 e3.1.hl e3.1.bl))<=100000/\
  e3.1.bl.length<=100000)/\(0:Int)<=e3.2/\e3.2<(↑(e3.1.bl.length):Int))/\∃(e2:List AV×List z15),([AV.mp 0,AV.ad 9 (strs (ep (aH e3.1)
  e3.2.toNat))],[Dn.Obj.map 9 4 es])=([AV.mp 0,AV.ad 9 e2.1],[Dn.Obj.map 9 4 e2.2])/\br e2/\aC (gC e2.2 e2.1) (∃(e1:ByteArray×List AV),([AV.agg
  [AV.str z7,AV.ad 56 z6]],aJ)=([AV.agg [AV.str e1.1,AV.ad 56 e1.2]],aJ)/\jR e1/\∃(e0:List AV×List z15),([AV.mp 0,AV.ad 9 (List.take (List.length
  (dP (aa e1.2))) (List.drop 0 (strs (dP (aa e1.2)))))],[Dn.Obj.map 9 4 e2.2])=([AV.mp 0,AV.ad 9 e0.1],[Dn.Obj.map 9 4 e0.2])/\br e0/\K (AV.bool (gC e0.2
  e0.1)) [Dn.Obj.map 9 4 e0.2]) (K (AV.bool false) [Dn.Obj.map 9 4 e2.2])
 letI z2:=∃(e1:LA),([AV.agg [AV.int (toInt (ae z4 0)),AV.agg [AV.str z7,AV.ad 56 z6],AV.agg [AV.int z8,AV.str z9,AV.int z10,AV.ad 56 z13],AV.agg
  [AV.int z11,AV.str z5,AV.int z12,AV.ad 56 z14]]],aJ)=([AV.agg [AV.int e1.op,AV.agg [AV.str e1.s,AV.ad 56 e1.l],AV.agg [AV.int e1.o1,AV.str e1.s1,
  AV.int e1.n1,AV.ad 56 e1.l1],AV.agg [AV.int e1.o2,AV.str e1.s2,AV.int e1.n2,AV.ad 56 e1.l2]]],aJ)/\gi e1/\∃(e0:List AV×List z15),([AV.mp 0,AV.ad
  9 (List.take (List.length (eE (LA.lt e1))) (List.drop 0 (strs (eE (LA.lt e1)))))],[Dn.Obj.map 9 4 es])=([AV.mp 0,AV.ad 9 e0.1],[Dn.Obj.map 9 4 e0.2])/\br
  e0/\K (AV.bool (gC e0.2 e0.1)) [Dn.Obj.map 9 4 e0.2]
 letI z3:=∃(e4:List AV),([AV.ad 56 z6],aJ)=([AV.ad 56 e4],aJ)/\bI e4/\ba (decide (List.length (List.take (List.length (ax (aa e4))) (List.drop 0
  (strs (ax (aa e4)))))<=9223372036854775807)) (aC (decide (eg z5 (List.take (List.length (ax (aa e4))) (List.drop 0 (strs (ax (aa e4))))) (0:Int)>=(0:
  Int))) z1 (K (AV.bool false) [Dn.Obj.map 9 4 es]))
 ba (decide ((0:Int)<=k)&&decide (k<(↑(a.bl.length):Int))) (aC (toInt (ae z4 0)==(1:Int)) (∃(e1:ByteArray×List AV),([AV.agg [AV.str z7,AV.ad
 56 z6]],aJ)=([AV.agg [AV.str e1.1,AV.ad 56 e1.2]],aJ)/\jR e1/\∃(e0:List AV×List z15),([AV.mp 0,AV.ad 9 (List.take (List.length (dP (aa e1.2)))
 (List.drop 0 (strs (dP (aa e1.2)))))],[Dn.Obj.map 9 4 es])=([AV.mp 0,AV.ad 9 e0.1],[Dn.Obj.map 9 4 e0.2])/\br e0/\K (AV.bool (gC e0.2 e0.1)) [Dn.Obj.map
 9 4 e0.2]) (aC (toInt (ae z4 0)==(3:Int)) (∃(e3:TA),([AV.mp 0,AV.agg [AV.int z8,AV.str z9,AV.int z10,AV.ad 56 z13],AV.agg [AV.int z11,AV.str z5,
 AV.int z12,AV.ad 56 z14]],[Dn.Obj.map 9 4 es])=([AV.mp 0,AV.agg [AV.int e3.o1,AV.str e3.s1,AV.int e3.n1,AV.ad 56 e3.l1],AV.agg [AV.int e3.o2,AV.str
 e3.s2,AV.int e3.n2,AV.ad 56 e3.l2]],[Dn.Obj.map 9 4 e3.es])/\je e3/\aC (lU e3.es (TA.x e3) (TA.y e3)) (K (AV.bool true) [Dn.Obj.map 9 4 e3.es]) (∃(e2:
 TA),([AV.mp 0,AV.agg [AV.int z11,AV.str z5,AV.int z12,AV.ad 56 z14],AV.agg [AV.int z8,AV.str z9,AV.int z10,AV.ad 56 z13]],[Dn.Obj.map 9 4 e3.es])=
 ([AV.mp 0,AV.agg [AV.int e2.o1,AV.str e2.s1,AV.int e2.n1,AV.ad 56 e2.l1],AV.agg [AV.int e2.o2,AV.str e2.s2,AV.int e2.n2,AV.ad 56 e2.l2]],[Dn.Obj.map 9
 4 e2.es])/\je e2/\aC (lU e2.es (TA.x e2) (TA.y e2)) (K (AV.bool true) [Dn.Obj.map 9 4 e2.es]) (∃(e1:LA),([AV.agg [AV.int (toInt (ae z4 0)),AV.agg [AV.str
 z7,AV.ad 56 z6],AV.agg [AV.int z8,AV.str z9,AV.int z10,AV.ad 56 z13],AV.agg [AV.int z11,AV.str z5,AV.int z12,AV.ad 56 z14]]],aJ)=([AV.agg [AV.int
 e1.op,AV.agg [AV.str e1.s,AV.ad 56 e1.l],AV.agg [AV.int e1.o1,AV.str e1.s1,AV.int e1.n1,AV.ad 56 e1.l1],AV.agg [AV.int e1.o2,AV.str e1.s2,AV.int e1.n2,
 AV.ad 56 e1.l2]]],aJ)/\gi e1/\∃(e0:List AV×List z15),([AV.mp 0,AV.ad 9 (List.take (List.length (eE (LA.lt e1))) (List.drop 0 (strs (eE (LA.lt
 e1)))))],[Dn.Obj.map 9 4 e2.es])=([AV.mp 0,AV.ad 9 e0.1],[Dn.Obj.map 9 4 e0.2])/\br e0/\K (AV.bool (gC e0.2 e0.1)) [Dn.Obj.map 9 4 e0.2]))) (aC (toInt
 (ae z4 0)==(2:Int)) z2 (aC (toInt (ae z4 0)==(4:Int)) z2 (aC (toInt (ae z4 0)==(5:Int)) z2 (aC (toInt (ae z4 0)==(6:Int)) z2 (aC (toInt (ae z4
 0)==(7:Int)) (z1/\z1/\z1/\z1) (z3/\z3/\z3/\z3))))))))):=by kernel_rfl
def TU(a:cq×Int×List ByteArray):List AV×List Dn.Obj:=([.mp 0,aq a.1, .int a.2.1],[.map 9 4 (b7 a.2.2)])
def KQ(a:cq×Int×List ByteArray):Prop:=aQ (aH a.1)=true/\df a.1/\0<=a.2.1/\a.2.1<a.1.bl.length
def Qt(a:cq×Int×List ByteArray):Out (AV×List Dn.Obj):= .one (.bool (nz a.2.2 (aH a.1) a.2.1.toNat),[.map 9 4 (b7 a.2.2)])
theorem zf(x y:AV)(es:List (Value×AV)):(TA.mk (toInt (ae x 0)) (toStr (ae x 1)) (toInt (ae x 2)) (ai (ae x 3)) (toInt (ae y 0)) (toStr (ae y 1)) (toInt (ae y 2)) (ai (ae y 3)) es).x=cx x:=by rw[cz];rfl
theorem oA(x y:AV)(es:List (Value×AV)):(TA.mk (toInt (ae x 0)) (toStr (ae x 1)) (toInt (ae x 2)) (ai (ae x 3)) (toInt (ae y 0)) (toStr (ae y 1)) (toInt (ae y 2)) (ai (ae y 3)) es).y=cx y:=by rw[cz];rfl
def lO(x y:AV)(es:List (Value×AV)):TA:=TA.mk (toInt (ae x 0)) (toStr (ae x 1)) (toInt (ae x 2)) (ai (ae x 3)) (toInt (ae y 0)) (toStr (ae y 1)) (toInt (ae y 2)) (ai (ae y 3)) es
theorem c52(κ:Kp):bz (Vz κ) 12 236 (aR TU KQ Qt):=by
 refine bg ?_
 rintro⟨a,k,b⟩ K ⟨h1,h2,h3,h4⟩ ho
 refine Eq.mpr (y52 κ a k (b7 b) K) ?_
 simp only at h1 h2 h3 h4
 have hk:k.toNat<a.bl.length:=by omega
 have hlit:=kO h2 hk
 have ho':K (.bool (nz b (aH a) k.toNat)) [.map 9 4 (b7 b)]:=ho
 unfold nz at ho'
 rw[show(aH a).body=di a.bl from rfl,kC _ hk,show(cU (nth a.bl k.toNat)).op=toInt (ae (nth a.bl k.toNat) 0) from rfl,show(cU (nth a.bl k.toNat)).a.l=aa (ai (ae (ae (nth a.bl k.toNat) 1) 1)) from rfl,
  show(cU (nth a.bl k.toNat)).x=cx (ae (nth a.bl k.toNat) 2) from rfl,show(cU (nth a.bl k.toNat)).y=cx (ae (nth a.bl k.toNat) 3) from rfl] at ho'
 have hlc:iS (cU (nth a.bl k.toNat))=aO [cx (ae (nth a.bl k.toNat) 2),cx (ae (nth a.bl k.toNat) 3)]+aO (aa (ai (ae (ae (nth a.bl k.toNat) 1) 1))):=rfl
 have hcl:aO (aa (ai (ae (ae (nth a.bl k.toNat) 1) 1)))<=100000:=by omega
 have hcx:aO [cx (ae (nth a.bl k.toNat) 2)]<=100000/\aO [cx (ae (nth a.bl k.toNat) 3)]<=100000:=by
  simp only[aO] at hlc⊢;omega
 have hvl:=cF (aa (ai (ae (ae (nth a.bl k.toNat) 1) 1)))
 have hrl:=B8 (aa (ai (ae (ae (nth a.bl k.toNat) 1) 1)))
 have hol:=rV h2 k.toNat
 have hll:(eE (cU (nth a.bl k.toNat))).length<=100000:=by
  have e1:=cF [(cU (nth a.bl k.toNat)).x,(cU (nth a.bl k.toNat)).y]
  have e2:=cF (cU (nth a.bl k.toNat)).a.l
  simp only[eE,iS,ac0] at hlit⊢;omega
 simp only[and_self]
 rw[an,aa3,aa2,aa2]
 refine⟨⟨h3,h4⟩,?_⟩
 rw[af,beq_iff_eq,beq_eq_false_iff_ne]
 refine⟨fun e1=>?_,fun e1=>?_⟩
 ·rw[aa8 e1,aa9] at ho'
  refine⟨(toStr (ae (ae (nth a.bl k.toNat) 1) 0),ai (ae (ae (nth a.bl k.toNat) 1) 1)),rfl,hcl,(strs (dP (aa (ai (ae (ae (nth a.bl k.toNat) 1) 1)))),b7 b),by simp only[ab2,dd],by simp only[br,aX,aM];omega,?_⟩
  simp only[fq];exact ho'
 rw[aa6 e1,aa7] at ho'
 rw[af,beq_iff_eq,beq_eq_false_iff_ne]
 refine⟨fun e2=>?_,fun e2=>?_⟩
 ·rw[aa8 e2,aa9] at ho'
  refine⟨lO (ae (nth a.bl k.toNat) 2) (ae (nth a.bl k.toNat) 3) (b7 b),rfl,by unfold je lO;rw[oA];exact hcx.2,?_⟩
  unfold lO
  rw[zf,oA,oS]
  rw[af]
  refine⟨fun f1=>by rw[f1] at ho';exact ho',fun f1=>?_⟩
  rw[f1,Bool.false_or] at ho'
  refine⟨lO (ae (nth a.bl k.toNat) 3) (ae (nth a.bl k.toNat) 2) (b7 b),rfl,by unfold je lO;rw[oA];exact hcx.1,?_⟩
  unfold lO
  rw[zf,oA,oS,af]
  refine⟨fun f2=>by rw[f2] at ho';exact ho',fun f2=>?_⟩
  rw[f2,Bool.false_or] at ho'
  exact⟨r6 (nth a.bl k.toNat),rfl,by rw[gi,eH];exact hlit,(strs (eE (r6 (nth a.bl k.toNat)).lt),b7 b),by simp only[ab2,dd],by simp only[br,aX,aM];rw[eH];omega,by simp only[fq,eH];exact ho'⟩
 rw[aa6 e2,aa7] at ho'
 rw[af,beq_iff_eq,beq_eq_false_iff_ne]
 refine⟨fun e3=>?_,fun e3=>?_⟩
 ·rw[aa8 e3] at ho'
  simp only[Bool.true_or,Bool.or_true,aa9] at ho'
  exact⟨r6 (nth a.bl k.toNat),rfl,by rw[gi,eH];exact hlit,(strs (eE (r6 (nth a.bl k.toNat)).lt),b7 b),by simp only[ab2,dd],by simp only[br,aX,aM];rw[eH];omega,by simp only[fq,eH];exact ho'⟩
 rw[af,beq_iff_eq,beq_eq_false_iff_ne]
 refine⟨fun e4=>?_,fun e4=>?_⟩
 ·rw[aa8 e4] at ho'
  simp only[Bool.true_or,Bool.or_true,aa9] at ho'
  exact⟨r6 (nth a.bl k.toNat),rfl,by rw[gi,eH];exact hlit,(strs (eE (r6 (nth a.bl k.toNat)).lt),b7 b),by simp only[ab2,dd],by simp only[br,aX,aM];rw[eH];omega,by simp only[fq,eH];exact ho'⟩
 rw[af,beq_iff_eq,beq_eq_false_iff_ne]
 refine⟨fun e5=>?_,fun e5=>?_⟩
 ·rw[aa8 e5] at ho'
  simp only[Bool.true_or,Bool.or_true,aa9] at ho'
  exact⟨r6 (nth a.bl k.toNat),rfl,by rw[gi,eH];exact hlit,(strs (eE (r6 (nth a.bl k.toNat)).lt),b7 b),by simp only[ab2,dd],by simp only[br,aX,aM];rw[eH];omega,by simp only[fq,eH];exact ho'⟩
 rw[af,beq_iff_eq,beq_eq_false_iff_ne]
 refine⟨fun e6=>?_,fun e6=>?_⟩
 ·rw[aa8 e6] at ho'
  simp only[Bool.true_or,Bool.or_true,aa9] at ho'
  exact⟨r6 (nth a.bl k.toNat),rfl,by rw[gi,eH];exact hlit,(strs (eE (r6 (nth a.bl k.toNat)).lt),b7 b),by simp only[ab2,dd],by simp only[br,aX,aM];rw[eH];omega,by simp only[fq,eH];exact ho'⟩
 rw[aa6 e3,aa6 e4,aa6 e5,aa6 e6] at ho'
 simp only[Bool.false_or,aa7] at ho'
 rw[af,beq_iff_eq,beq_eq_false_iff_ne]
 refine⟨fun e7=>?_,fun e7=>?_⟩
 ·rw[aa8 e7,Bool.true_or,ac1] at ho'
  refine⟨(a,k),rfl,⟨h1,h2,h3,h4⟩,(strs (ep (aH a) k.toNat),b7 b),rfl,by simp only[br,aX,aM];omega,af.2 ⟨fun f1=>⟨(toStr (ae (ae (nth a.bl k.toNat) 1) 0),ai (ae (ae (nth a.bl k.toNat) 1) 1)),rfl,hcl,(strs (dP (aa (ai (ae (ae (nth a.bl k.toNat) 1) 1)))),b7 b),by simp only[ab2,dd],by simp only[br,aX,aM];omega,?_⟩,fun f1=>?_⟩⟩
  ·rw[fq] at f1
   simp only[fq]
   rw[f1,ac1] at ho';exact ho'
  ·rw[fq] at f1
   rw[f1,Bool.false_and] at ho';exact ho'
 ·rw[aa6 e7,Bool.false_or] at ho'
  refine⟨_,rfl,hcl,?_⟩
  have hp:=yL (toStr (ae (ae (nth a.bl k.toNat) 3) 1)) (ax (aa (ai (ae (ae (nth a.bl k.toNat) 1) 1)))) 0 (by omega)
  have hs:(cx (ae (nth a.bl k.toNat) 3)).s=toStr (ae (ae (nth a.bl k.toNat) 3) 1):=by rw[cz];rfl
  simp only[ab2,dd,aX,hp]
  rw[an,aa2,af]
  rw[hs] at ho'
  refine⟨by omega,fun e8=>?_,fun e8=>?_⟩
  ·rw[e8,ac1] at ho'
   refine⟨(a,k),rfl,⟨h1,h2,h3,h4⟩,(strs (ep (aH a) k.toNat),b7 b),rfl,by simp only[br,aX,aM];omega,af.2 ⟨fun f1=>⟨(toStr (ae (ae (nth a.bl k.toNat) 1) 0),ai (ae (ae (nth a.bl k.toNat) 1) 1)),rfl,hcl,(strs (dP (aa (ai (ae (ae (nth a.bl k.toNat) 1) 1)))),b7 b),by simp only[ab2,dd],by simp only[br,aX,aM];omega,?_⟩,fun f1=>?_⟩⟩
   ·rw[fq] at f1
    simp only[fq]
    rw[f1,ac1] at ho';exact ho'
   ·rw[fq] at f1
    rw[f1,Bool.false_and] at ho';exact ho'
  ·rw[e8,Bool.false_and] at ho';exact ho'
noncomputable def NC(κ:Kp):Env:=(Vz κ).ay 236 (aR TU KQ Qt)
theorem e52(κ:Kp):aD (NC κ):=(e24 κ).ay (m24 κ) (c52 κ)
theorem m52(κ:Kp):aj (NC κ):=(m24 κ).ay aK
def cj(l:List Bool):List AV:=l.map fun b=> .lit (.bool b)
theorem jA(l:List Bool):(cj l).length=l.length:=by simp[cj]
theorem Iq(l:List Bool)(k:Nat):Dn.toBool (nth (cj l) k)=Rl.fr l k:=by
 unfold Rl.fr
 rw[List.getD_eq_getElem?_getD]
 induction l generalizing k with
 |nil=>rfl
 |cons a l ih=>
  cases k with
  |zero=>rfl
  |succ k=>simpa[cj,nth] using ih k
structure Jn where
 a:cq
 done:List Bool
 b:List ByteArray
 i:Int
 first:Int
abbrev G9(a:Jn):S:=sp 38 [(1, .ar 0 0 (cj a.done).length),(2, .mp 1),(3, .ptr 2 0 [] 0),(7, .int a.first),(11, .ad 72 a.a.bl),(12, .int a.a.bl.length),(13, .int a.i)] [.row 4 (cj a.done), .map 9 4 (b7 a.b), .box 66 (aq a.a)]
theorem x36(κ:Kp)(a:Jn)(es:List (Value×AV))(I:Nat->S->Prop)(n:Nat)(K:Exit->S->Prop):(vc (NC κ) 12 187 none 2 (ah (Pr κ).toProgram 187 3) (sp 38 [(1, .ar 0 0 (cj a.done).length),(2, .mp 1),(3, .ptr 2 0 [] 0),(7, .int a.first),(11, .ad 72 a.a.bl),(12, .int a.a.bl.length),(13, .int a.i)] [.row 4 (cj a.done), .map 9 4 es, .box 66 (aq a.a)]) (bL (NC κ) 187 3 2 I n K))=(
 letI z1:=IntKind.wrap IntKind.i64 (a.i+(1:Int))
 letI z2:=List.length (cj a.done)
 letI z3:=List.length a.a.bl
 aC (decide (a.i<(↑z3:Int))) (ba (decide ((0:Int)<=a.i)&&decide (a.i<(↑z3:Int))) (ba (decide ((0:Int)<=a.i)&&decide (a.i<(↑z2:Int))) (aC
 (Dn.toBool (nth (cj a.done) (0+a.i.toNat))) (∃(e0:Nat),e0<n/\I e0 (sp 38 [(1,AV.ar 0 0 z2),(2,AV.mp 1),(3,AV.ptr 2 0 [] 0),(7,AV.int a.first),
 (11,AV.ad 72 a.a.bl),(12,AV.int (↑z3:Int)),(13,AV.int z1)] [Obj.row 4 (cj a.done),Dn.Obj.map 9 4 es,Obj.box 66 (aq a.a)])) (∃(e1:cq×Int×List
 ByteArray),([AV.mp 0,aq a.a,AV.int a.i],[Dn.Obj.map 9 4 es])=([AV.mp 0,aq e1.1,AV.int e1.2.1],[Dn.Obj.map 9 4 (b7 e1.2.2)])/\(aQ (aH e1.1)=true/\
 (aO (aa (bn 56 e1.1.hl e1.1.bl))<=100000/\e1.1.bl.length<=100000)/\(0:Int)<=e1.2.1/\e1.2.1<(↑(e1.1.bl.length):Int))/\aC (!nz e1.2.2 (aH e1.1)
 e1.2.1.toNat) (∃(e0:Nat),e0<n/\I e0 (sp 38 [(1,AV.ar 0 0 z2),(2,AV.mp 1),(3,AV.ptr 2 0 [] 0),(7,AV.int a.first),(11,AV.ad 72 a.a.bl),(12,
 AV.int (↑z3:Int)),(13,AV.int z1)] [Obj.row 4 (cj a.done),Dn.Obj.map 9 4 (b7 e1.2.2),Obj.box 66 (aq a.a)])) (aC (toInt (ae (nth a.a.bl a.i.toNat) 0) != (1
 :Int)) (K Exit.ret (sp 38 [(6,AV.int a.i)] [Obj.row 4 (cj a.done),Dn.Obj.map 9 4 (b7 e1.2.2)])) (aC (decide (a.first<(0:Int))) (∃(e0:Nat),e0<n/\I
 e0 (sp 38 [(1,AV.ar 0 0 z2),(2,AV.mp 1),(3,AV.ptr 2 0 [] 0),(7,AV.int a.i),(11,AV.ad 72 a.a.bl),(12,AV.int (↑z3:Int)),(13,AV.int z1)] [Obj.row 4
 (cj a.done),Dn.Obj.map 9 4 (b7 e1.2.2),Obj.box 66 (aq a.a)])) (∃(e0:Nat),e0<n/\I e0 (sp 38 [(1,AV.ar 0 0 z2),(2,AV.mp 1),(3,AV.ptr 2 0 [] 0),(7,
 AV.int a.first),(11,AV.ad 72 a.a.bl),(12,AV.int (↑z3:Int)),(13,AV.int z1)] [Obj.row 4 (cj a.done),Dn.Obj.map 9 4 (b7 e1.2.2),Obj.box 66 (aq
 a.a)])))))))) (K (Exit.exit 0) (sp 38 [(7,AV.int a.first)] [Obj.row 4 (cj a.done),Dn.Obj.map 9 4 es]))):=by kernel_rfl
def za(a:Jn):Prop:=aQ (aH a.a)=true/\df a.a/\0<=a.i/\a.i<=a.a.bl.length/\a.done.length=a.a.bl.length
def yE(a:Jn):Int:=mf (aH a.a) a.done a.b (a.a.bl.length - a.i.toNat) a.i.toNat a.first
def ER(a:Jn):Out (Exit×S):= .all (fun _:Bool=>True) fun e=> .aC e (.one (.ret,sp 38 [(6, .int (yE a))] [.row 4 (cj a.done), .map 9 4 (b7 a.b)])) (.one (.exit 0,sp 38 [(7, .int (yE a))] [.row 4 (cj a.done), .map 9 4 (b7 a.b)]))
theorem l36(κ:Kp):bk (NC κ) 12 187 3 (aP 2 G9 za ER):=by
 refine aL (fun a=>a.a.bl.length - a.i.toNat) ?_
 rintro⟨a,done,b,i,first⟩ K ⟨h1,h2,h3,h4,h5⟩ ho
 simp only at h1 h2 h3 h4 h5
 rw[show(NC κ).P=Pr κ from rfl]
 refine Eq.mpr (x36 κ ⟨a,done,b,i,first⟩ (b7 b) _ _ K) ?_
 have ho1:=ho true trivial
 have ho2:=ho false trivial
 simp only[Out.run,aC,yE] at ho1 ho2
 simp only[Nat.zero_add,Iq]
 have hbl:=jA done
 have hl:=h2.2
 rw[af,an,an,aa3,aa3,aa2,aa2,aa2,aa4]
 have go:i<a.bl.length->∀f:Int,mf (aH a) done b (a.bl.length - i.toNat) i.toNat first=mf (aH a) done b (a.bl.length - (i.toNat+1)) (i.toNat+1) f->
   ∃m,m<a.bl.length - i.toNat/\eY G9 za ER (fun a=>a.a.bl.length - a.i.toNat) K m (G9 ⟨a,done,b,i+1,f⟩):=by
  intro hi f hf
  refine⟨_,?_,⟨a,done,b,i+1,f⟩,rfl,⟨h1,h2,by simp only;omega,by simp only;omega,h5⟩,rfl,?_⟩
  ·simp only;omega
  ·intro e _
   simp only[Out.run,yE,show(i+1).toNat=i.toNat+1 by omega,←hf]
   cases e
   ·exact ho2
   ·exact ho1
 refine⟨fun hi=>⟨⟨h3,hi⟩,⟨h3,by omega⟩,?_⟩,fun hi=>?_⟩
 ·have hn:=Eg (aH a) done b (a.bl.length - (i.toNat+1)) i.toNat first
  rw[show a.bl.length - (i.toNat+1)+1=a.bl.length - i.toNat by omega] at hn
  have hk:i.toNat<a.bl.length:=by omega
  have hop:(dT (aH a).body i.toNat).op=toInt (ae (nth a.bl i.toNat) 0):=by
   rw[show(aH a).body=di a.bl from rfl,kC _ hk];rfl
  rw[hop] at hn
  rw[aW (n:=i+1) (by omega) (by omega),af]
  refine⟨fun e=>go hi first (by rw[hn,e];rfl),fun e=>⟨(a,i,b),rfl,⟨h1,h2,h3,hi⟩,?_⟩⟩
  rw[e,Bool.false_or] at hn
  simp only[af,Bool.not_eq_true',ab4,bne_iff_ne,bne_eq_false_iff_eq,aa2,aa4]
  refine⟨fun e1=>go hi first (by rw[hn,e1];rfl),fun e1=>⟨fun e2=>?_,fun e2=>⟨fun e3=>go hi i ?_,fun e3=>go hi first ?_⟩⟩⟩
  ·rw[hn,e1,aa6 e2] at ho1
   simp only[Bool.not_true,aa7,Bool.not_false,aa9,Int.toNat_of_nonneg h3] at ho1
   exact ho1
  ·rw[hn,e1,aa8 e2,aa8 e3]
   simp only[Bool.not_true,aa7,aa9,Int.toNat_of_nonneg h3]
  ·rw[hn,e1,aa8 e2,aa6 e3]
   simp only[Bool.not_true,aa7]
 ·rw[show a.bl.length - i.toNat=0 by omega] at ho2
  exact ho2
noncomputable def Jr(κ:Kp):Env:=(NC κ).ak 187 3 (aP 2 G9 za ER)
theorem WJ(κ:Kp):aD (Jr κ):=(e52 κ).ak (m52 κ) (l36 κ)
theorem U9(κ:Kp):aj (Jr κ):=(m52 κ).ak aI
theorem y36(κ:Kp)(a:Jn)(K:AV->List Dn.Obj->Prop):(bf (Jr κ) 12 187 [aq a.a, .ar 0 0 (cj a.done).length, .mp 1] [.row 4 (cj a.done), .map 9 4 (b7 a.b)] K)=(
 letI z1:=Pg.toProgram (Env.P (NC κ))
 ah z1 187 3=ah z1 187 3/\∃(e1:Jn),sp 38 [(1,AV.ar 0 0 (List.length (cj a.done))),(2,AV.mp 1),(3,AV.ptr 2 0 [] 0),(7,AV.int (-1)),(11,AV.ad 72
 a.a.bl),(12,AV.int (↑(List.length a.a.bl):Int)),(13,AV.int 0)] [Obj.row 4 (cj a.done),Dn.Obj.map 9 4 (b7 a.b),Obj.box 66 (aq a.a)]=sp 38 [(1,AV.ar 0
 0 (List.length (cj e1.done))),(2,AV.mp 1),(3,AV.ptr 2 0 [] 0),(7,AV.int e1.first),(11,AV.ad 72 e1.a.bl),(12,AV.int (↑(List.length e1.a.bl):Int)),
 (13,AV.int e1.i)] [Obj.row 4 (cj e1.done),Dn.Obj.map 9 4 (b7 e1.b),Obj.box 66 (aq e1.a)]/\(aQ (aH e1.a)=true/\(aO (aa (bn 56 e1.a.hl e1.a.bl))<=100000/\
 List.length e1.a.bl<=100000)/\(0:Int)<=e1.i/\e1.i<=(↑(List.length e1.a.bl):Int)/\e1.done.length=List.length e1.a.bl)/\∀(e0:Bool),True->aC e0
 (K (AV.int (yE e1)) [Obj.row 4 (cj e1.done),Dn.Obj.map 9 4 (b7 e1.b)]) (K (AV.int (yE e1)) [Obj.row 4 (cj e1.done),Dn.Obj.map 9 4 (b7 e1.b)])):=by kernel_rfl
def T8(a:Jn):List AV×List Dn.Obj:=([aq a.a, .ar 0 0 (cj a.done).length, .mp 1],[.row 4 (cj a.done), .map 9 4 (b7 a.b)])
def Jx(a:Jn):Prop:=aQ (aH a.a)=true/\df a.a/\a.done.length=a.a.bl.length
def Qa(a:Jn):Out (AV×List Dn.Obj):= .one (.int (aF (aH a.a) a.done a.b),[.row 4 (cj a.done), .map 9 4 (b7 a.b)])
theorem fB(a:cq):(aH a).body.length=a.bl.length:=Al a.bl
theorem c36(κ:Kp):bz (Jr κ) 12 187 (aR T8 Jx Qa):=by
 refine bg ?_
 rintro⟨a,done,b,i,first⟩ K ⟨h1,h2,h5⟩ ho
 refine Eq.mpr (y36 κ ⟨a,done,b,i,first⟩ K) ?_
 simp only at h1 h2 h5
 have ho':K (.int (aF (aH a) done b)) [.row 4 (cj done), .map 9 4 (b7 b)]:=ho
 unfold aF at ho'
 rw[fB] at ho'
 refine⟨rfl,⟨a,done,b,0, -1⟩,rfl,⟨h1,h2,by simp only;omega,by simp only;omega,h5⟩,?_⟩
 intro e _
 cases e
 ·exact ho'
 ·exact ho'
noncomputable def Ns(κ:Kp):Env:=(Jr κ).ay 187 (aR T8 Jx Qa)
theorem e36(κ:Kp):aD (Ns κ):=(WJ κ).ay (U9 κ) (c36 κ)
theorem Zp(κ:Kp):aj (Ns κ):=(U9 κ).ay aK
def ints(l:List Nat):List AV:=l.map fun(k:Nat)=>AV.lit (.int .i64 (k:Int))
theorem oj(l:List Nat):(ints l).length=l.length:=by simp[ints]
theorem MM(l m:List Nat):ints (l++m)=ints l++ints m:=by simp[ints]
structure U8 where
 a:cq
 ks:List Nat
 done:List Bool
 b:List ByteArray
 i:Int
noncomputable abbrev To(a:cq)(κ:Kp):Dn.Obj:=
 .loop (gj (Pr κ).toProgram 112 4 .ready none (fU (bJ 40) [(0,aq a),(1, .ptr 0 0 [] 0),(2, .nil),(3, .lit .nilIface),(4, .ptr 1 0 [] 0),(5, .ptr 3 0 [] 0),(7, .mp 2),(8,aq a),(9, .bQ 186 [.ptr 4 0 [] 0])]))
noncomputable abbrev Gj(κ:Kp)(a:cq)(ks:List Nat)(b:List ByteArray):List Dn.Obj:=[.box 66 (aq a), .box 38 (.ar 6 0 (ints ks).length), .map 9 4 (b7 b), .box 178 (.mp 2), .box 66 (aq a),To a κ, .row 3 (ints ks)]
noncomputable abbrev L3(κ:Kp)(a:U8):S:=sp 38 [(0, .cK 5),(1, .ptr 4 0 [] 0),(3, .mp 7),(4, .ar 8 0 (cj a.done).length),(13, .int a.a.bl.length),(14, .int a.i)] (Gj κ a.a a.ks a.b++[.map 9 4 (b7 a.b), .row 4 (cj a.done)])
theorem x17(κ:Kp)(a:cq)(ks:List AV)(es es':List (Value×AV))(done:List AV)(i:Int)(I:Nat->S->Prop)(n:Nat)(K:Exit->S->Prop):(vc (Ns κ) 12 186 none 6 (ah (Pr κ).toProgram 186 3) (sp 38 [(0, .cK 5),(1, .ptr 4 0 [] 0),(3, .mp 7),(4, .ar 8 0 done.length),(13, .int a.bl.length),(14, .int i)] [.box 66 (aq a), .box 38 (.ar 6 0 ks.length), .map 9 4 es, .box 178 (.mp 2), .box 66 (aq a),To a κ, .row 3 ks, .map 9 4 es', .row 4 done]) (bL (Ns κ) 186 3 6 I n K))=(
 letI z1:=gj Tryz.prog 112 4 LoopState.ready none (fU (bJ 40) [(0,aq a),(1,AV.ptr 0 0 [] 0),(2,AV.nil),(3,AV.lit Value.nilIface),(4,AV.ptr 1 0 [] 0),
  (5,AV.ptr 3 0 [] 0),(7,AV.mp 2),(8,aq a),(9,AV.bQ 186 [AV.ptr 4 0 [] 0])])
 letI z2:=sp 38 [] [Obj.box 66 (aq a),Obj.box 38 (AV.ar 6 0 ks.length),Dn.Obj.map 9 4 es,Obj.box 178 (AV.mp 2),Obj.box 66 (aq a),Dn.Obj.loop z1,Obj.row 3
  ks]
 letI z3:=IntKind.wrap IntKind.i64 (i+(1:Int))
 letI z4:=Value×AV
 letI z5:=AV.ar 6 0 (ks.length+1)
 aC (decide (i<(↑(a.bl.length):Int))) (∃(e5:Jn),([aq a,AV.ar 0 0 done.length,AV.mp 1],[Obj.row 4 done,Dn.Obj.map 9 4 es'])=([aq e5.a,AV.ar 0 0
 (List.length (cj e5.done)),AV.mp 1],[Obj.row 4 (cj e5.done),Dn.Obj.map 9 4 (b7 e5.b)])/\(aQ (aH e5.a)=true/\(aO (aa (bn 56 e5.a.hl e5.a.bl))<=100000/\
 List.length e5.a.bl<=100000)/\e5.done.length=List.length e5.a.bl)/\aC (decide (aF (aH e5.a) e5.done e5.b<(0:Int))) (K Exit.ret z2) (ba (decide
 ((ks.length+1+1)*9<=70368744177664)) ((∃(e4:cq×Int),([aq a,AV.int (aF (aH e5.a) e5.done e5.b)],aJ)=([aq e4.1,AV.int e4.2],aJ)/\(aQ (aH e4.1)
 =true/\(aO (aa (bn 56 e4.1.hl e4.1.bl))<=100000/\e4.1.bl.length<=100000)/\(0:Int)<=e4.2/\e4.2<(↑(e4.1.bl.length):Int))/\∃(e3:List AV×List
 z4),([AV.mp 0,AV.ad 9 (strs (db (aH e4.1) e4.2.toNat))],[Dn.Obj.map 9 4 es])=([AV.mp 0,AV.ad 9 e3.1],[Dn.Obj.map 9 4 e3.2])/\br e3/\ba (decide ((0:
 Int)<=aF (aH e5.a) e5.done e5.b)&&decide (aF (aH e5.a) e5.done e5.b<(↑(done.length):Int))) (∃(e2:cq×Int),([aq a,AV.int (aF (aH e5.a) e5.done
 e5.b)],aJ)=([aq e2.1,AV.int e2.2],aJ)/\(aQ (aH e2.1)=true/\(aO (aa (bn 56 e2.1.hl e2.1.bl))<=100000/\e2.1.bl.length<=100000)/\(0:Int)<=e2.2/\
 e2.2<(↑(e2.1.bl.length):Int))/\∃(e1:List AV×List z4),([AV.mp 0,AV.ad 9 (strs (db (aH e2.1) e2.2.toNat))],[Dn.Obj.map 9 4 (b7 e5.b)])=([AV.mp 0,
 AV.ad 9 e1.1],[Dn.Obj.map 9 4 e1.2])/\br e1/\∃(e0:Nat),e0<n/\I e0 (sp 38 [(0,AV.cK 5),(1,AV.ptr 4 0 [] 0),(3,AV.mp 7),(4,AV.ar 8 0
 done.length),(13,AV.int (↑(a.bl.length):Int)),(14,AV.int z3)] [Obj.box 66 (aq a),Obj.box 38 z5,Dn.Obj.map 9 4 (fA e3.2 e3.1),Obj.box 178 (AV.mp 2),
 Obj.box 66 (aq a),Dn.Obj.loop z1,Obj.row 3 (List.take ks.length ks++[AV.int (aF (aH e5.a) e5.done e5.b)]),Dn.Obj.map 9 4 (fA e1.2 e1.1),Obj.row 4 (cm (cj
 e5.done) (0+Int.toNat (aF (aH e5.a) e5.done e5.b)) (AV.bool true))])))/\∃(e4:cq×Int),([aq a,AV.int (aF (aH e5.a) e5.done e5.b)],aJ)=([aq e4.1,
 AV.int e4.2],aJ)/\(aQ (aH e4.1)=true/\(aO (aa (bn 56 e4.1.hl e4.1.bl))<=100000/\e4.1.bl.length<=100000)/\(0:Int)<=e4.2/\e4.2<(↑(e4.1.bl.length):
 Int))/\∃(e3:List AV×List z4),([AV.mp 0,AV.ad 9 (strs (db (aH e4.1) e4.2.toNat))],[Dn.Obj.map 9 4 es])=([AV.mp 0,AV.ad 9 e3.1],[Dn.Obj.map 9 4
 e3.2])/\br e3/\ba (decide ((0:Int)<=aF (aH e5.a) e5.done e5.b)&&decide (aF (aH e5.a) e5.done e5.b<(↑(done.length):Int))) (∃(e2:cq×Int),([aq a,
 AV.int (aF (aH e5.a) e5.done e5.b)],aJ)=([aq e2.1,AV.int e2.2],aJ)/\(aQ (aH e2.1)=true/\(aO (aa (bn 56 e2.1.hl e2.1.bl))<=100000/\e2.1.bl.length<=
 100000)/\(0:Int)<=e2.2/\e2.2<(↑(e2.1.bl.length):Int))/\∃(e1:List AV×List z4),([AV.mp 0,AV.ad 9 (strs (db (aH e2.1) e2.2.toNat))],[Dn.Obj.map 9
 4 (b7 e5.b)])=([AV.mp 0,AV.ad 9 e1.1],[Dn.Obj.map 9 4 e1.2])/\br e1/\∃(e0:Nat),e0<n/\I e0 (sp 38 [(0,AV.cK 5),(1,AV.ptr 4 0 [] 0),(3,AV.mp 7),
 (4,AV.ar 8 0 done.length),(13,AV.int (↑(a.bl.length):Int)),(14,AV.int z3)] [Obj.box 66 (aq a),Obj.box 38 z5,Dn.Obj.map 9 4 (fA e3.2 e3.1),Obj.box 178
 (AV.mp 2),Obj.box 66 (aq a),Dn.Obj.loop z1,Obj.row 3 (List.take ks.length ks++[AV.int (aF (aH e5.a) e5.done e5.b)]),Dn.Obj.map 9 4 (fA e1.2 e1.1),Obj.row
 4 (cm (cj e5.done) (0+Int.toNat (aF (aH e5.a) e5.done e5.b)) (AV.bool true))]))))) (K (Exit.exit 0) z2)):=by kernel_rfl
theorem qa: ∀(l:List Bool) (k:Nat),cm (cj l) k (.lit (.bool true))=cj (l.set k true)
 |[],_=>rfl
 |_::_,0=>rfl
 |a::l,k+1=>by
  have:=qa l k
  simp only[cj] at this
  simp only[cj,ac2,cm,List.set_cons_succ,this]
noncomputable def fb(a:U8):List Nat:=nM (aH a.a) (a.a.bl.length - a.i.toNat) a.done a.b
def FZ(a:U8):Prop:=aQ (aH a.a)=true/\df a.a/\0<=a.i/\a.i<=a.a.bl.length/\a.done.length=a.a.bl.length/\a.ks.length<=a.i.toNat
noncomputable def LB(κ:Kp)(a:U8):Out (Exit×S):= .all (fun _:Bool=>True) fun e=> .aC e (.one (.ret,sp 38 [] (Gj κ a.a (a.ks++fb a) (a.b++eZ (aH a.a) (fb a)))))
 (.one (.exit 0,sp 38 [] (Gj κ a.a (a.ks++fb a) (a.b++eZ (aH a.a) (fb a)))))
theorem sn{a:cq}(h:df a){k:Nat}(hk:k<a.bl.length):(db (aH a) k).length<=200000:=by
 have hlit:=kO h hk
 have hol:=rV h k
 have hc:=G3 (cU (nth a.bl k))
 have hv:=cF [(cU (nth a.bl k)).x]
 have e1:=cF [(cU (nth a.bl k)).x,(cU (nth a.bl k)).y]
 have e2:=cF (cU (nth a.bl k)).a.l
 unfold db
 rw[show(aH a).body=di a.bl from rfl,kC _ hk]
 cases decide (7<=(cU (nth a.bl k)).op) with
 |true=>rw[aa9,ac0];omega
 |false=>
  rw[aa7]
  simp only[eE,iS,ac0] at hlit⊢;omega
theorem l17(κ:Kp):bk (Ns κ) 12 186 3 (aP 6 (L3 κ) FZ (LB κ)):=by
 refine aL (fun a=>a.a.bl.length - a.i.toNat) ?_
 rintro⟨a,ks,done,b,i⟩ K ⟨h1,h2,h3,h4,h5,h6⟩ ho
 simp only at h1 h2 h3 h4 h5 h6
 rw[show(Ns κ).P=Pr κ from rfl]
 refine Eq.mpr (x17 κ a (ints ks) (b7 b) (b7 b) (cj done) i _ _ K) ?_
 have ho1:=ho true trivial
 have ho2:=ho false trivial
 simp only[Out.run,aC,fb] at ho1 ho2
 simp only[and_self]
 have hbl:=jA done
 have hil:=oj ks
 have hl:=h2.2
 rw[af,aa2,aa4]
 refine⟨fun hi=>⟨⟨a,done,b,0,0⟩,rfl,⟨h1,h2,h5⟩,?_⟩,fun hi=>?_⟩
 ·have hw:=Eh (aH a) (a.bl.length - (i.toNat+1)) done b
  rw[show a.bl.length - (i.toNat+1)+1=a.bl.length - i.toNat by omega] at hw
  rw[af,aa2,aa4]
  refine⟨fun e=>?_,fun e=>?_⟩
  ·rw[hw,aa8 e] at ho1
   simp only[aa9,List.append_nil,eZ,List.flatMap_nil] at ho1
   exact ho1
  ·rw[hw,aa6 e,aa7] at ho1 ho2
   rcases pU (aH a) done b with e0|⟨e1,e2,e3,_⟩
   ·rw[e0] at e;omega
   have e2':=e2
   rw[fB] at e2'
   have hg:=sn h2 e2'
   rw[an,aa2]
   refine⟨by omega,(a,aF (aH a) done b),rfl,⟨h1,h2,e1,by simp only;omega⟩,(strs (db (aH a) (aF (aH a) done b).toNat),b7 b),rfl,by simp only[br,aX,aM];omega,?_⟩
   rw[an,aa3,aa2,aa2]
   refine⟨⟨e1,by show aF (aH a) done b<_;omega⟩,(a,aF (aH a) done b),rfl,⟨h1,h2,e1,by simp only;omega⟩,(strs (db (aH a) (aF (aH a) done b).toNat),b7 b),rfl,by simp only[br,aX,aM];omega,?_⟩
   rw[aW (n:=i+1) (by omega) (by omega)]
   refine⟨_,?_,⟨a,ks++[(aF (aH a) done b).toNat],done.set (aF (aH a) done b).toNat true,b++db (aH a) (aF (aH a) done b).toNat,i+1⟩,?_,⟨h1,h2,by simp only;omega,by simp only;omega,by simpa using h5,by simp only[ac0,List.length_singleton];omega⟩,rfl,?_⟩
   ·simp only;omega
   ·simp only[List.take_length]
    simp only[L3,Gj,List.cons_append,List.nil_append,Nat.zero_add,qa,l6,jA,List.length_set,MM,oj,ac0,List.length_singleton]
    simp only[ints,ac2,ac3,Int.toNat_of_nonneg e1,List.length_singleton]
   ·have hg2: ∀l,b++eZ (aH a) ((aF (aH a) done b).toNat::l)=(b++db (aH a) (aF (aH a) done b).toNat)++eZ (aH a) l:=fun l=>by
     simp only[eZ,List.flatMap_cons,List.append_assoc]
    have hk2: ∀l,ks++(aF (aH a) done b).toNat::l=(ks++[(aF (aH a) done b).toNat])++l:=fun l=>by simp
    rw[hg2,hk2] at ho1 ho2
    intro f _
    simp only[Out.run,fb,show(i+1).toNat=i.toNat+1 by omega]
    cases f
    ·exact ho2
    ·exact ho1
 ·rw[show a.bl.length - i.toNat=0 by omega] at ho2
  simp only[nM,List.append_nil,eZ,List.flatMap_nil] at ho2
  exact ho2
noncomputable def HU(κ:Kp):Env:=(Ns κ).ak 186 3 (aP 6 (L3 κ) FZ (LB κ))
theorem Ym(κ:Kp):aD (HU κ):=(e36 κ).ak (Zp κ) (l17 κ)
theorem Pz(κ:Kp):aj (HU κ):=(Zp κ).ak aI
end Go.Proofs.YthaiinlfnommnaaGreatDoor
namespace Go.Proofs.YthaiinlfnommnaaGreatDoor
open Go Go.Dn Go.Rl Go.Proofs Go.RowKit Go.Extern.Stop Go.Stop Go.Extern
theorem UQ(v:Value)(xT:TypeId)(w:World):(Instr.typeAssert (.iface 278 v) xT 284 true).run Tryz.prog w= .ok (.tuple #[.nilIface, .bool false]) w:=run_typeAssert_lacksB Tryz.underlying284 (by kernel_rfl) (by kernel_rfl) v xT w
theorem I0(v:Value)(xT:TypeId)(w:World):(Instr.typeAssert (.iface 278 v) xT 286 true).run Tryz.prog w= .ok (.tuple #[.nilIface, .bool false]) w:=run_typeAssert_lacksB Tryz.underlying286 (by kernel_rfl) (by kernel_rfl) v xT w
theorem CV(v:Value)(xT:TypeId)(w:World):(Instr.typeAssert (.iface 278 v) xT 288 true).run Tryz.prog w= .ok (.tuple #[.iface 278 v, .bool true]) w:=run_typeAssert_hasB Tryz.underlying288 (by kernel_rfl) v xT w
theorem xl(v:Value)(w:World):(Go.method 443 278 v "Unwrap").run Tryz.prog w= .ok (286,v) w:=by kernel_rfl
set_option maxRecDepth 4000 in
theorem I3(a:Addr)(w:World):
  Calls Tryz.prog 185 #[.iface 306 (.pointer (some a)), .iface 306 (.pointer (some a)), .bool true] w fun e w'=>e= .returned (.bool true)/\w'=w:=by
 obtain⟨i,hi,hcmp⟩:=Option.map_eq_some_iff.1 EG
 obtain⟨j,hj,hjs⟩:=Option.map_eq_some_iff.1 EK
 have heq:=run_eql_iface_ptr_same (P:=Tryz.prog) w a Tryz.underlying170 Tryz.underlying306 hi hcmp hj
 go_enter Tryz.func185,Tryz.ntmps185
 go_wp2
 refine wp_loop_rounds 1 ?_
 rw[rounds_succ]
 go_wp2
 go_ret
 exact⟨rfl,rfl⟩
set_option maxRecDepth 8000 in
theorem OX(ja ra b:Addr)(cap:Nat)(w:World)(h1:w.cell? ja=some (.slice (some ra) 1 cap))(h2:w.cell? ra=some (.iface 306 (.pointer (some b)))):
  Calls Tryz.prog 113 #[.iface 278 (.pointer (some ja)), .iface 306 (.pointer (some b))] w fun e w'=>e= .returned (.bool true)/\w'=w:=by
 have h8:= @run_callFunc_extern Tryz.prog 184 _ Extern.ReflectliteType.typeOf Tryz.func184 (by kernel_rfl) (by kernel_rfl) (by kernel_rfl) (by kernel_rfl)
 have h32:= @run_callFunc_extern Tryz.prog 290 _ (Extern.ReflectliteType.method fun t=>do Go.Extern.Rtype.noPackHeld "Comparable" t;pure (.bool (←typeInfo t).comparable)) Tryz.func290 (by kernel_rfl) (by kernel_rfl) (by kernel_rfl) (by kernel_rfl)
 have tT:=uO
 have cT:=mK
 have mR:=iG
 have hne:=run_eql_iface_types (P:=Tryz.prog) 278 306 (.pointer (some ja)) (.pointer (some b)) Tryz.underlying170 (by decide)
 have n1:=UQ
 have n2:=I0
 have n3:=CV
 have mU:=xl
 go_enter Tryz.func113,Tryz.ntmps113
 go_wp2
 refine wp_loop_rounds 1 ?_
 rw[rounds_succ]
 go_wp2
 refine wp_loop_rounds 1 ?_
 rw[rounds_succ]
 go_wp2_with (first|(go_at_call 185;refine(I3 b _).mono ?_;rintro e w' ⟨rfl,rfl⟩))
 all_goals (go_ret;exact⟨rfl,rfl⟩)
end Go.Proofs.YthaiinlfnommnaaGreatDoor
namespace Go.Proofs.YthaiinlfnommnaaGreatDoor
open Go Go.Dn Go.Rl Go.Proofs
attribute [local irreducible] bf vc
set_option maxRecDepth 20000
noncomputable def SL(κ:Kp):Env:=(HU κ).ak 183 3 (lf (HU κ) 12 183 3 3)
noncomputable def Vr(κ:Kp):Env:=(SL κ).ak 183 12 (lf (SL κ) 12 183 12 3)
theorem eJ1(κ:Kp):aD (SL κ):=(Ym κ).ak (Pz κ) (ss (Pz κ) 3)
theorem Wv(κ:Kp):aj (SL κ):=(Pz κ).ak (lI (Pz κ) 3)
theorem eJ2(κ:Kp):aD (Vr κ):=(eJ1 κ).ak (Wv κ) (ss (Wv κ) 3)
theorem Z2(κ:Kp):aj (Vr κ):=(Wv κ).ak (lI (Wv κ) 3)
theorem yJ(κ:Kp)(K:AV->List Dn.Obj->Prop):(bf (Vr κ) 12 183 [.ad 170 [.lit (mc κ)]] [] K)=(
 letI z1:=Pg.toProgram (Env.P (HU κ))
 letI z2:=Pg.toProgram (Env.P (SL κ))
 ah z1 183 3=ah z1 183 3/\ah z2 183 12=ah z2 183 12/\K (AV.jq 278 (AV.ptr 0 0 [] 0)) [Obj.box 280 (AV.agg [AV.ar 1 0 1]),Obj.row 170 [AV.lit (Value.iface
 306 (Value.pointer (some (Kp.stuck κ))))]]):=by kernel_rfl
abbrev AZ:AV:= .jq 278 (.ptr 0 0 [] 0)
abbrev AB(κ:Kp):List Dn.Obj:=[.box 280 (.agg [.ar 1 0 1]), .row 170 [.lit (mc κ)]]
def ZA(κ:Kp)(_:Unit):List AV×List Dn.Obj:=([.ad 170 [.lit (mc κ)]],[])
def GU(_:Unit):Prop:=True
def S3(κ:Kp)(_:Unit):Out (AV×List Dn.Obj):= .one (AZ,AB κ)
theorem cJ(κ:Kp):bz (Vr κ) 12 183 (aR (ZA κ) GU (S3 κ)):=by
 refine bg ?_
 rintro⟨⟩ K _ ho
 refine Eq.mpr (yJ κ K) ?_
 exact⟨rfl,rfl,ho⟩
def stI(κ:Kp)(_:Unit):List AV×List Dn.Obj:=([AZ, .lit (mc κ)],AB κ)
def Uc(κ:Kp)(_:Unit):Out (AV×List Dn.Obj):= .one (.bool true,AB κ)
theorem qI(κ:Kp): ∀args st K,aR (stI κ) GU (Uc κ) args st K->dq (Pr κ) 113 args st K:=by
 rintro args st K ⟨_,h1,_,h3⟩
 obtain⟨rfl,rfl⟩:=Prod.mk.inj h1
 refine⟨⟨_,Tryz.func113,rfl⟩,fun C vs hC hI hst hm=>?_⟩
 obtain⟨vs⟩:=vs
 match vs,hm with
 | [v1,v2],hm=>
  simp only[MT] at hm
  obtain⟨a1,a2,a3,b1,b2,b3,_⟩:=hm
  have hv2:v2=mc κ:=aV (C:=C) ⟨b1,b2,b3⟩
  have r1:Rel C AZ v1:=⟨a1,a2,a3⟩
  obtain⟨c1,_⟩:=gD r1 rfl (by simp)
  simp only[M,c1] at a3
  obtain⟨u,u1,u2,u3,u4,v,v1',v2',v3⟩:=a3
  have hv1:v1= .iface 278 u:=by simpa using u1
  have hu:u.cells= #[u]:=gN (by rw[u2];rfl)
  have huv:v=u:=by rw[hu] at v1';simpa using v1'.symm
  subst huv
  have o0:=hI.obj 0 (by rw[hst];simp)
  have o1:=hI.obj 1 (by rw[hst];simp)
  rw[hst] at o0 o1
  simp only[az,j7] at o0 o1
  obtain⟨_,_,c,e,g1,_,g2⟩:=o0
  simp only[M,ML] at g2
  obtain⟨⟨_,s,s1,_,s2⟩,_⟩:=g2
  have s3:=s2.1 170 [.lit (mc κ)] (by rw[hst];rfl)
  obtain⟨_,s3⟩:=s3
  rcases s3 with⟨_,_,_,s3⟩|⟨n1,cap,q,rfl,s3,s4,_⟩
  ·cases s3
  have hq:q=⟨(C.ι 1).block,0,none⟩:=by
   rcases s3 with s3|⟨s3,s5⟩
   ·rw[s3,Nat.zero_mul]
   ·omega
  subst hq
  obtain⟨_,o1⟩:=o1
  rcases o1 with⟨o1,_⟩|⟨_,_,c',k1,_,_,_,k2⟩
  ·rw[n1] at o1;cases o1
  simp only[MR,M] at k2
  obtain⟨⟨k2,_⟩,_⟩:=k2
  have hp:v= .pointer (some ⟨(C.ι 0).block,0,none⟩):=(v3.2.1 280 _ (by rw[hst];rfl)).2
  subst hp
  subst hv1 hv2
  refine(callsIn_wide.2 (OX ⟨(C.ι 0).block,0,none⟩ ⟨(C.ι 1).block,0,none⟩ κ.stuck cap C.w s1 k2)).mono ?_
  rintro e' w' ⟨rfl,rfl⟩
  exact⟨_, .bool true,C,rfl,rfl,rfl,hI,bh rfl,Ext.refl _ (by rw[hst];exact Nat.le_refl _),by rw[hst];exact h3⟩
 |[],hm=>simp[MT] at hm
 |[_],hm=>simp[MT] at hm
 |_::_::_::_,hm=>simp[MT] at hm
noncomputable def EJ(κ:Kp):Env:=((Vr κ).ay 183 (aR (ZA κ) GU (S3 κ))).ay 113 (aR (stI κ) GU (Uc κ))
theorem eJ(κ:Kp):aD (EJ κ):=((eJ2 κ).ay (Z2 κ) (cJ κ)).iE (qI κ)
theorem mJ(κ:Kp):aj (EJ κ):=((Z2 κ).ay aK).ay aK
theorem y17(κ:Kp)(a:cq)(K:AV->List Dn.Obj->Prop):(bf (EJ κ) 12 112 [aq a] [] K)=(
 letI z2:=Value.iface 306 (Value.pointer (some (Kp.stuck κ)))
 letI z1:=∃(e0:Unit),([AV.ad 170 [AV.lit z2]],aJ)=([AV.ad 170 [AV.lit z2]],aJ)/\True/\K (AV.bp [AV.nil,AV.jq 278 (AV.ptr 0 0 [] 0)]) [Obj.box 280
  (AV.agg [AV.ar 1 0 1]),Obj.row 170 [AV.lit z2]]
 letI z3:=a.bl.length
 letI z4:=Value×AV
 letI z5:=Pg.toProgram (Env.P (Ns κ))
 letI z6:=Int.toNat (↑z3:Int)
 ba (true&&decide ((↑z3:Int)<=(↑z3:Int))&&decide ((Int.toNat (↑z3:Int)+1)*2<=70368744177664)&&true) (ah z5 186 3=ah z5 186 3/\∃(e4:U8),
 sp 38 [(0,AV.cK 5),(1,AV.ptr 4 0 [] 0),(3,AV.mp 7),(4,AV.ar 8 0 z6),(13,AV.int (↑z3:Int)),(14,AV.int 0)] [Obj.box 66 (aq a),Obj.box 38 (AV.ar 6 0
 0),Dn.Obj.map 9 4 [],Obj.box 178 (AV.mp 2),Obj.box 66 (aq a),Dn.Obj.loop (gj Tryz.prog 112 4 LoopState.ready none (fU (bJ 40) [(0,aq a),(1,AV.ptr 0 0 []
 0),(2,AV.nil),(3,AV.lit Value.nilIface),(4,AV.ptr 1 0 [] 0),(5,AV.ptr 3 0 [] 0),(7,AV.mp 2),(8,aq a),(9,AV.bQ 186 [AV.ptr 4 0 [] 0])])),Obj.row 3
 [],Dn.Obj.map 9 4 [],Obj.row 4 (fO (AV.bool false) z6)]=sp 38 [(0,AV.cK 5),(1,AV.ptr 4 0 [] 0),(3,AV.mp 7),(4,AV.ar 8 0 (List.length (cj e4.done))),
 (13,AV.int (↑(List.length e4.a.bl):Int)),(14,AV.int e4.i)] [Obj.box 66 (aq e4.a),Obj.box 38 (AV.ar 6 0 (List.length (ints e4.ks))),Dn.Obj.map 9 4 (b7
 e4.b),Obj.box 178 (AV.mp 2),Obj.box 66 (aq e4.a),Dn.Obj.loop (gj Tryz.prog 112 4 LoopState.ready none (fU (bJ 40) [(0,aq e4.a),(1,AV.ptr 0 0 [] 0),(2,
 AV.nil),(3,AV.lit Value.nilIface),(4,AV.ptr 1 0 [] 0),(5,AV.ptr 3 0 [] 0),(7,AV.mp 2),(8,aq e4.a),(9,AV.bQ 186 [AV.ptr 4 0 [] 0])])),Obj.row 3
 (ints e4.ks),Dn.Obj.map 9 4 (b7 e4.b),Obj.row 4 (cj e4.done)]/\(aQ (aH e4.a)=true/\(aO (aa (bn 56 e4.a.hl e4.a.bl))<=100000/\List.length e4.a.bl<=
 100000)/\(0:Int)<=e4.i/\e4.i<=(↑(List.length e4.a.bl):Int)/\e4.done.length=List.length e4.a.bl/\e4.ks.length<=e4.i.toNat)/\∀(e3:Bool),True->
 aC e3 (aC (decide ((↑(List.length (ints (e4.ks++fb e4))):Int)<(↑(List.length e4.a.bl):Int))) (z1/\z1) ((∃(e2:List AV),([AV.ad 56 e4.a.hl],aJ)=
 ([AV.ad 56 e2],aJ)/\bI e2/\∃(e1:List AV×List z4),([AV.mp 0,AV.ad 9 (List.take (List.length (ax (aa e2))) (List.drop 0 (strs (ax (aa e2)))))],
 [Dn.Obj.map 9 4 (b7 (e4.b++eZ (aH e4.a) (fb e4)))])=([AV.mp 0,AV.ad 9 e1.1],[Dn.Obj.map 9 4 e1.2])/\br e1/\aC (!gC e1.2 e1.1) z1 (K (AV.bp [AV.ar 0 0
 (List.length (ints (e4.ks++fb e4))),AV.lit Value.nilIface]) [Obj.row 3 (ints (e4.ks++fb e4))]))/\∃(e2:List AV),([AV.ad 56 e4.a.hl],aJ)=([AV.ad 56
 e2],aJ)/\bI e2/\∃(e1:List AV×List z4),([AV.mp 0,AV.ad 9 (List.take (List.length (ax (aa e2))) (List.drop 0 (strs (ax (aa e2)))))],[Dn.Obj.map 9 4 (b7
 (e4.b++eZ (aH e4.a) (fb e4)))])=([AV.mp 0,AV.ad 9 e1.1],[Dn.Obj.map 9 4 e1.2])/\br e1/\aC (!gC e1.2 e1.1) z1 (K (AV.bp [AV.ar 0 0 (List.length (ints
 (e4.ks++fb e4))),AV.lit Value.nilIface]) [Obj.row 3 (ints (e4.ks++fb e4))]))) (aC (decide ((↑(List.length (ints (e4.ks++fb e4))):Int)<(↑(List.length
 e4.a.bl):Int))) (z1/\z1) ((∃(e2:List AV),([AV.ad 56 e4.a.hl],aJ)=([AV.ad 56 e2],aJ)/\bI e2/\∃(e1:List AV×List z4),([AV.mp 0,AV.ad 9
 (List.take (List.length (ax (aa e2))) (List.drop 0 (strs (ax (aa e2)))))],[Dn.Obj.map 9 4 (b7 (e4.b++eZ (aH e4.a) (fb e4)))])=([AV.mp 0,AV.ad 9 e1.1],
 [Dn.Obj.map 9 4 e1.2])/\br e1/\aC (!gC e1.2 e1.1) z1 (K (AV.bp [AV.ar 0 0 (List.length (ints (e4.ks++fb e4))),AV.lit Value.nilIface]) [Obj.row 3 (ints
 (e4.ks++fb e4))]))/\∃(e2:List AV),([AV.ad 56 e4.a.hl],aJ)=([AV.ad 56 e2],aJ)/\bI e2/\∃(e1:List AV×List z4),([AV.mp 0,AV.ad 9 (List.take
 (List.length (ax (aa e2))) (List.drop 0 (strs (ax (aa e2)))))],[Dn.Obj.map 9 4 (b7 (e4.b++eZ (aH e4.a) (fb e4)))])=([AV.mp 0,AV.ad 9 e1.1],[Dn.Obj.map 9
 4 e1.2])/\br e1/\aC (!gC e1.2 e1.1) z1 (K (AV.bp [AV.ar 0 0 (List.length (ints (e4.ks++fb e4))),AV.lit Value.nilIface]) [Obj.row 3 (ints (e4.ks++fb
 e4))]))))):=by kernel_rfl
def CS(a:cq):List AV×List Dn.Obj:=([aq a],[])
def Ms(a:cq):Prop:=aQ (aH a)=true/\df a
noncomputable def J7(κ:Kp)(a:cq):Out (AV×List Dn.Obj):= .aC (iP (aH a)) (.one (.bp [.ar 0 0 (bU (aH a)).length, .lit .nilIface],[.row 3 (ints (bU (aH a)))])) (.one (.bp [.nil,AZ],AB κ))
theorem s6(n:Nat):fO (.lit (.bool false)) n=cj (List.replicate n false):=by simp[fO,cj]
theorem c17(κ:Kp):bz (EJ κ) 12 112 (aR CS Ms (J7 κ)):=by
 refine bg ?_
 rintro a K ⟨h1,h2⟩ ho
 refine Eq.mpr (y17 κ a K) ?_
 simp only[and_self]
 simp only[J7,Out.run,af] at ho
 have hl:=h2.2
 have hw:fb ⟨a,[],List.replicate a.bl.length false,[],0⟩=bU (aH a):=by
  unfold fb bU
  rw[fB];rfl
 have hc:=oO h2
 have hv:=cF (aa a.hl)
 have hs:iP (aH a)=(decide (a.bl.length<=(bU (aH a)).length)&&hasB (eZ (aH a) (bU (aH a))) (ax (aa a.hl))):=by
  unfold iP;rw[fB];rfl
 rw[hs] at ho
 simp only[an,aa3,aa2,Int.toNat_natCast]
 refine⟨⟨⟨⟨trivial,by omega⟩,by omega⟩,trivial⟩,trivial,⟨a,[],List.replicate a.bl.length false,[],0⟩,?_,⟨h1,h2,by simp only;omega,by simp only;omega,by simp,by simp⟩,?_⟩
 ·simp only[s6,jA,List.length_replicate];rfl
 ·intro y _
  rw[hw]
  cases y<;>
  ·simp only[oj,List.nil_append,af,aa2,aa4,Bool.not_eq_true',ab4,reduceCtorEq,false_implies,true_implies,and_true,true_and]
   refine⟨fun e=>?_,fun e=>?_⟩
   ·rw[aa6 (show ¬ a.bl.length<=(bU (aH a)).length by omega),Bool.false_and] at ho
    exact⟨(),ho.2 rfl⟩
   ·rw[aa8 (show a.bl.length<=(bU (aH a)).length by omega),ac1] at ho
    refine⟨a.hl,rfl,hc,(strs (ax (aa a.hl)),b7 (eZ (aH a) (bU (aH a)))),?_,?_,?_⟩
    ·simp only[ab2,dd]
    ·simp only[br,aX,aM];omega
    ·simp only[fq]
     exact⟨fun e2=>⟨(),ho.2 e2⟩,fun e2=>ho.1 e2⟩
noncomputable def Ul(κ:Kp):Env:=(EJ κ).ay 112 (aR CS Ms (J7 κ))
theorem e17(κ:Kp):aD (Ul κ):=(eJ κ).ay (mJ κ) (c17 κ)
theorem m17(κ:Kp):aj (Ul κ):=(mJ κ).ay aK
theorem y7(κ:Kp)(a:cq)(K:AV->List Dn.Obj->Prop):(bf (Ul κ) 12 70 [aq a] [] K)=(
 letI z1:=Value.iface 306 (Value.pointer (some (Kp.stuck κ)))
 ba (decide (a.hl.length<=9223372036854775807)&&decide (a.bl.length<=9223372036854775807)) (aC (!aQ {head:={rel:=a.rel,l:=aa a.hl},body:=di a.bl}) (K (AV.bp [AV.nil,AV.int 30]) []) (∃(e1:cq),([AV.agg [AV.agg [AV.str a.rel,AV.ad 56 a.hl],AV.ad 72 a.bl,AV.int a.line]],aJ)=([AV.agg [AV.agg [AV.str e1.rel,AV.ad 56 e1.hl],AV.ad 72 e1.bl,AV.int e1.line]],aJ)/\(aQ (aH e1)=true/\aO (aa (bn 56 e1.hl e1.bl))<=100000/\e1.bl.length<=100000)/\aC (iP (aH e1)) (K (AV.bp [AV.ar 0 0 (List.length (bU (aH e1))),AV.int 0]) [Obj.row 3 (ints (bU (aH e1)))]) (∃(e0:Unit),([AV.jq 278 (AV.ptr 0 0 [] 0),AV.lit z1],[Obj.box 280 (AV.agg [AV.ar 1 0 1]),Obj.row 170 [AV.lit z1]])=([AV.jq 278 (AV.ptr 0 0 [] 0),AV.lit z1],[Obj.box 280 (AV.agg [AV.ar 1 0 1]),Obj.row 170 [AV.lit z1]])/\True/\K (AV.bp [AV.nil,AV.int 60]) [])))):=by kernel_rfl
def Iv(a:cq):Out (AV×List Dn.Obj):= .aC (aQ (aH a)) (.aC (iP (aH a)) (.one (.bp [.ar 0 0 (bU (aH a)).length, .int 0],[.row 3 (ints (bU (aH a)))])) (.one (.bp [.nil, .int 60],[]))) (.one (.bp [.nil, .int 30],[]))
theorem c7(κ:Kp):bz (Ul κ) 12 70 (aR CS df Iv):=by
 refine bg ?_
 rintro a K h2 ho
 refine Eq.mpr (y7 κ a K) ?_
 simp only[Iv,Out.run,af] at ho
 have hc:=oO h2
 have hl1:=eB (aa a.hl)
 rw[dz] at hl1
 have hl:=h2.2
 rw[an,aa3,aa2,aa2]
 refine⟨⟨by omega,by omega⟩,?_⟩
 have hr:aQ ⟨⟨a.rel,aa a.hl⟩,di a.bl⟩=aQ (aH a):=rfl
 rw[hr]
 simp only[af,Bool.not_eq_true',ab4]
 refine⟨fun e=>ho.2 e,fun e=>⟨a,rfl,⟨e,h2⟩,fun e2=>(ho.1 e).1 e2,fun e2=>⟨(),trivial,trivial,(ho.1 e).2 e2⟩⟩⟩
noncomputable def E7(κ:Kp):Env:=(Ul κ).ay 70 (aR CS df Iv)
theorem e7(κ:Kp):aD (E7 κ):=(e17 κ).ay (m17 κ) (c7 κ)
theorem m7(κ:Kp):aj (E7 κ):=(m17 κ).ay aK
def eR(es:List (Value×AV))(s:ByteArray):Bool:=lT es s
structure DB where
 vs:List ByteArray
 i:Int
 es:List (Value×AV)
abbrev Dp(R:List AV)(es:List (Value×AV)):List Dn.Obj:=[.row 9 R, .box 178 (.mp 2), .map 9 4 es]
abbrev Oc:AV:= .bQ 125 [.ptr 1 0 [] 0]
abbrev Jd(a:DB):S:=sp 19 [(0, .ar 0 0 (strs a.vs).length),(1,Oc),(7, .int (strs a.vs).length),(8, .int a.i)] (Dp (strs a.vs) a.es)
theorem xFB(κ:Kp)(a:DB)(I:Nat->S->Prop)(n:Nat)(K:Exit->S->Prop):(vc (n7 κ) 12 190 none 3 (ah (Pr κ).toProgram 190 2) (Jd a) (bL (n7 κ) 190 2 3 I n K))=(
 letI z1:=List.length (strs a.vs)
 aC (decide (a.i<(↑z1:Int))) (ba (decide ((0:Int)<=a.i)&&decide (a.i<(↑z1:Int))) (aC (!Dn.toBool (dt a.es (Value.string (toStr (nth (strs a.vs) (0+
 a.i.toNat)))) (AV.bool false))) (K Exit.ret (sp 19 [(4,AV.int a.i)] [Obj.row 9 (strs a.vs),Obj.box 178 (AV.mp 2),Dn.Obj.map 9 4 a.es])) (∃(e0:Nat),e0<n
 /\I e0 (sp 19 [(0,AV.ar 0 0 z1),(1,AV.bQ 125 [AV.ptr 1 0 [] 0]),(7,AV.int (↑z1:Int)),(8,AV.int (IntKind.wrap IntKind.i64 (a.i+(1:Int))))] [Obj.row
 9 (strs a.vs),Obj.box 178 (AV.mp 2),Dn.Obj.map 9 4 a.es])))) (K (Exit.exit 0) (sp 19 [] [Obj.row 9 (strs a.vs),Obj.box 178 (AV.mp 2),Dn.Obj.map 9 4 a.es]))):=by kernel_rfl
def Dw(a:DB):Prop:=a.vs.length<=aM/\0<=a.i/\a.i<=a.vs.length/\∀s,s∈a.vs.take a.i.toNat->eR a.es s=true
def Bl(a:DB):Out (Exit×S):=
 .aC (a.vs.all (eR a.es)) (.one (.exit 0,sp 19 [] (Dp (strs a.vs) a.es)))
  (.all (fun j:Int=>wq (eR a.es) a.vs j) fun j=> .one (.ret,sp 19 [(4, .int j)] (Dp (strs a.vs) a.es)))
theorem lFB(κ:Kp):bk (n7 κ) 12 190 2 (aP 3 Jd Dw Bl):=by
 refine aL (fun a=>a.vs.length - a.i.toNat) ?_
 rintro⟨vs,i,es⟩ K ⟨h1,h2,h3,h4⟩ ho
 simp only at h1 h2 h3 h4
 rw[show(n7 κ).P=Pr κ from rfl]
 refine Eq.mpr (xFB κ ⟨vs,i,es⟩ _ _ K) ?_
 simp only[aM] at h1
 simp only[Bl,Out.run,af] at ho
 have hl:=aX vs
 simp only[aX,Nat.zero_add]
 have fin:i<vs.length->∀(hi:i.toNat<vs.length),(eR es vs[i.toNat]=false->K .ret (sp 19 [(4, .int i)] (Dp (strs vs) es)))/\
   (eR es vs[i.toNat]=true->∃m,m<vs.length - i.toNat/\eY Jd Dw Bl (fun a=>a.vs.length - a.i.toNat) K m (Jd ⟨vs,i+1,es⟩)):=by
  intro hi0 hi
  refine⟨fun e=>ho.2 ?_ i ⟨h2,hi,h4,e⟩,fun e=>⟨_,?_,⟨vs,i+1,es⟩,rfl,⟨by simpa[aM] using h1,by simp only;omega,by simp only;omega,?_⟩,rfl,?_⟩⟩
  ·rw[Bool.eq_false_iff]
   intro hall
   rw[List.all_eq_true.1 hall _ (List.getElem_mem hi)] at e
   cases e
  ·simp only;omega
  ·intro s hs
   simp only at hs
   rw[show(i+1).toNat=i.toNat+1 by omega,List.take_succ_eq_append_getElem hi,List.mem_append,List.mem_singleton] at hs
   rcases hs with hs|hs
   ·exact h4 s hs
   ·rw[hs];exact e
  ·simp only[Bl,Out.run,af]
   exact ho
 simp only[af,an,aa2,aa4,aa3,Bool.not_eq_true',ab4]
 refine⟨fun hi=>⟨⟨h2,hi⟩,?_⟩,fun hi=>?_⟩
 ·have hi':i.toNat<vs.length:=by omega
  have hn:toStr (nth (strs vs) i.toNat)=vs[i.toNat]:=by rw[wW vs _ hi'];rfl
  rw[aW (n:=i+1) (by omega) (by omega),hn]
  have hf:=fin hi hi'
  simp only[Jd,aX] at hf
  exact⟨fun e=>hf.1 e,fun e=>hf.2 e⟩
 ·refine ho.1 (List.all_eq_true.2 fun s hs=>h4 s ?_)
  rw[List.take_of_length_le (by omega)];exact hs
noncomputable def OP(κ:Kp):Env:=(n7 κ).ak 190 2 (aP 3 Jd Dw Bl)
theorem eFB(κ:Kp):aD (OP κ):=(QN κ).ak (Mp κ) (lFB κ)
theorem ZP(κ:Kp):aj (OP κ):=(Mp κ).ak aI
structure GB where
 R:List AV
 i:Int
 j:Int
 es:List (Value×AV)
 P:List ByteArray
 ws:List ByteArray
abbrev CI(a:GB):S:=sp 42 [(0, .ar 0 0 a.R.length),(1,Oc),(5, .int a.i),(6, .int a.j)] (Dp a.R a.es)
theorem xGB(κ:Kp)(a:GB)(I:Nat->S->Prop)(n:Nat)(K:Exit->S->Prop):(vc (OP κ) 12 123 none 3 (ah (Pr κ).toProgram 123 5) (CI a) (bL (OP κ) 123 5 3 I n K))=(
 letI z1:=IntKind.wrap IntKind.i64 (a.j+(1:Int))
 letI z2:=toStr (nth a.R (0+a.j.toNat))
 letI z3:=a.j<(↑(a.R.length):Int)
 aC (decide z3) (ba (decide ((0:Int)<=a.j)&&decide z3) (aC (!!Dn.toBool (dt a.es (Value.string z2) (AV.bool false))) (ba (decide ((0:Int)<=a.i)&&decide
 (a.i<(↑(a.R.length):Int))) (∃(e0:Nat),e0<n/\I e0 (sp 42 [(0,AV.ar 0 0 a.R.length),(1,AV.bQ 125 [AV.ptr 1 0 [] 0]),(5,AV.int (IntKind.wrap
 IntKind.i64 (a.i+(1:Int)))),(6,AV.int z1)] [Obj.row 9 (cm a.R (0+a.i.toNat) (AV.str z2)),Obj.box 178 (AV.mp 2),Dn.Obj.map 9 4 a.es]))) (∃(e0:Nat),
 e0<n/\I e0 (sp 42 [(0,AV.ar 0 0 a.R.length),(1,AV.bQ 125 [AV.ptr 1 0 [] 0]),(5,AV.int a.i),(6,AV.int z1)] [Obj.row 9 a.R,Obj.box 178 (AV.mp 2),
 Dn.Obj.map 9 4 a.es])))) (K (Exit.exit 0) (sp 42 [(0,AV.ar 0 0 a.R.length),(5,AV.int a.i)] [Obj.row 9 a.R,Obj.box 178 (AV.mp 2),Dn.Obj.map 9 4 a.es]))):=by kernel_rfl
def zu(a:GB):Prop:=a.R.length<=aM/\0<=a.i/\a.i<a.j/\a.j<=a.R.length/\a.R.take a.i.toNat=strs a.P/\a.R.drop a.j.toNat=strs a.ws
def CF(a:GB):Out (Exit×S):= .all (fun R:List AV=>R.length=a.R.length/\R.take (a.P++a.ws.filter (eR a.es)).length=strs (a.P++a.ws.filter (eR a.es)))
 fun R=> .one (.exit 0,sp 42 [(0, .ar 0 0 a.R.length),(5, .int (a.P++a.ws.filter (eR a.es)).length)] (Dp R a.es))
theorem lGB(κ:Kp):bk (OP κ) 12 123 5 (aP 3 CI zu CF):=by
 refine aL (fun a=>a.R.length - a.j.toNat) ?_
 rintro⟨R,i,j,es,P,ws⟩ K ⟨h1,h2,h3,h4,h5,h6⟩ ho
 simp only at h1 h2 h3 h4 h5 h6
 rw[show(OP κ).P=Pr κ from rfl]
 refine Eq.mpr (xGB κ ⟨R,i,j,es,P,ws⟩ _ _ K) ?_
 simp only[aM] at h1
 simp only[CF,Out.run] at ho
 simp only[Nat.zero_add]
 have hP:P.length=i.toNat:=by
  have:=congrArg List.length h5
  rw[List.length_take,aX] at this;omega
 have fin: ∀(s:ByteArray) (l:List ByteArray),ws=s::l->j<R.length->nth R j.toNat= .lit (.string s)->
   (eR es s=false->∃m,m<R.length - j.toNat/\eY CI zu CF (fun a=>a.R.length - a.j.toNat) K m (CI ⟨R,i,j+1,es,P,l⟩))/\
   (eR es s=true->∃m,m<R.length - j.toNat/\eY CI zu CF (fun a=>a.R.length - a.j.toNat) K m (CI ⟨cm R i.toNat (.lit (.string s)),i+1,j+1,es,P++[s],l⟩)):=by
  rintro s l rfl hj hn
  obtain⟨_,_,h7⟩:=jG (l:=strs l) h6
  refine⟨fun e=>⟨_,?_,_,rfl,⟨by simpa[aM] using h1,h2,by simp only;omega,by simp only;omega,h5,?_⟩,rfl,?_⟩,fun e=>⟨_,?_,_,rfl,⟨by simpa[aM,gy] using h1,by simp only;omega,by simp only;omega,by simp only[gy];omega,?_,?_⟩,rfl,?_⟩⟩
  ·simp only;omega
  ·simp only[show(j+1).toNat=j.toNat+1 by omega];exact h7
  ·intro y hy
   have:=ho y
   simp only[List.filter_cons,e,Bool.false_eq_true,if_false] at hy this⊢
   exact this hy
  ·simp only[gy];omega
  ·simp only[show(i+1).toNat=i.toNat+1 by omega]
   rw[sw _ _ _ (by omega),h5,iu];rfl
  ·simp only[show(j+1).toNat=j.toNat+1 by omega]
   rw[rU _ _ _ _ (by omega)];exact h7
  ·intro y hy
   have:=ho y
   simp only[List.filter_cons,e,if_true,gy,List.append_assoc,List.singleton_append] at hy this⊢
   exact this hy
 simp only[af,an,aa2,aa4,aa3,Bool.not_eq_true',ab4]
 refine⟨fun hj=>⟨⟨by omega,hj⟩,?_⟩,fun hj=>?_⟩
 ·cases ws with
  |nil=>
   have:=congrArg List.length h6
   rw[List.length_drop,aX] at this
   simp at this;omega
  |cons s l=>
   obtain⟨_,hn,_⟩:=jG (l:=strs l) h6
   have hn':toStr (nth R j.toNat)=s:=by rw[hn];rfl
   have hf:=fin s l rfl hj hn
   simp only[CI,gy] at hf
   rw[aW (n:=i+1) (by omega) (by omega),aW (n:=j+1) (by omega) (by omega),hn']
   exact⟨fun e=>⟨⟨by omega,by omega⟩,hf.2 e⟩,fun e=>hf.1 e⟩
 ·have hw:ws=[]:=by
   have:=congrArg List.length h6
   rw[List.length_drop,aX] at this
   cases ws with
   |nil=>rfl
   |cons=>simp at this;omega
  subst hw
  have:=ho R ⟨rfl,by simp only[List.filter_nil,List.append_nil,hP];exact h5⟩
  simp only[List.filter_nil,List.append_nil,hP,Int.toNat_of_nonneg h2] at this
  exact this
noncomputable def Wd(κ:Kp):Env:=(OP κ).ak 123 5 (aP 3 CI zu CF)
theorem eGB(κ:Kp):aD (Wd κ):=(eFB κ).ak (ZP κ) (lGB κ)
theorem mGB(κ:Kp):aj (Wd κ):=(ZP κ).ak aI
theorem yGB(κ:Kp)(a:DB)(K:AV->List Dn.Obj->Prop):(bf (Wd κ) 12 123 [.ar 0 0 (strs a.vs).length,Oc] (Dp (strs a.vs) a.es) K)=(
 letI z1:=List.length (strs a.vs)
 letI z2:=Pg.toProgram (Env.P (n7 κ))
 letI z3:=Pg.toProgram (Env.P (OP κ))
 ah z2 190 2=ah z2 190 2/\∃(e3:DB),sp 19 [(0,AV.ar 0 0 z1),(1,AV.bQ 125 [AV.ptr 1 0 [] 0]),(7,AV.int (↑z1:Int)),(8,AV.int 0)] [Obj.row 9 (strs a.vs),Obj.box 178 (AV.mp 2),Dn.Obj.map 9 4 a.es]=sp 19 [(0,AV.ar 0 0 (List.length (strs e3.vs))),(1,AV.bQ 125 [AV.ptr 1 0 [] 0]),(7,AV.int (↑(List.length (strs e3.vs)):Int)),(8,AV.int e3.i)] [Obj.row 9 (strs e3.vs),Obj.box 178 (AV.mp 2),Dn.Obj.map 9 4 e3.es]/\(e3.vs.length<=9223372036854775807/\(0:Int)<=e3.i/\e3.i<=(↑(e3.vs.length):Int)/\∀(e0:ByteArray),List.Mem e0 (List.take e3.i.toNat e3.vs)->eR e3.es e0=true)/\aC (List.all e3.vs (eR e3.es)) (K (AV.ad 9 (List.take z1 (List.drop 0 (strs e3.vs)))) [Obj.mv 9 (strs e3.vs),Obj.box 178 (AV.mp 2),Dn.Obj.map 9 4 e3.es]) (∀(e2:Int),((0:Int)<=e2/\∃(e1:e2.toNat<e3.vs.length),(∀(e0:ByteArray),List.Mem e0 (List.take e2.toNat e3.vs)->eR e3.es e0=true)/\eR e3.es e3.vs[e2.toNat]=false)->aC (e2==(-1:Int)) (K (AV.ad 9 (List.take z1 (List.drop 0 (strs e3.vs)))) [Obj.mv 9 (strs e3.vs),Obj.box 178 (AV.mp 2),Dn.Obj.map 9 4 e3.es]) (ah z3 123 5=ah z3 123 5/\∃(e1:GB),sp 42 [(0,AV.ar 0 0 z1),(1,AV.bQ 125 [AV.ptr 1 0 [] 0]),(5,AV.int e2),(6,AV.int (IntKind.wrap IntKind.i64 (e2+(1:Int))))] [Obj.row 9 (strs e3.vs),Obj.box 178 (AV.mp 2),Dn.Obj.map 9 4 e3.es]=sp 42 [(0,AV.ar 0 0 e1.R.length),(1,AV.bQ 125 [AV.ptr 1 0 [] 0]),(5,AV.int e1.i),(6,AV.int e1.j)] [Obj.row 9 e1.R,Obj.box 178 (AV.mp 2),Dn.Obj.map 9 4 e1.es]/\(e1.R.length<=9223372036854775807/\(0:Int)<=e1.i/\e1.i<e1.j/\e1.j<=(↑(e1.R.length):Int)/\List.take e1.i.toNat e1.R=strs e1.P/\List.drop e1.j.toNat e1.R=strs e1.ws)/\∀(e0:List AV),e0.length=e1.R.length/\List.take (List.length (e1.P++List.filter (eR e1.es) e1.ws)) e0=strs (e1.P++List.filter (eR e1.es) e1.ws)->ba (true&&decide ((↑(List.length (e1.P++List.filter (eR e1.es) e1.ws)):Int)<=(↑(e1.R.length):Int))&&decide ((↑(e1.R.length):Int)<=(↑(e1.R.length):Int))) (ba (true&&decide ((↑(List.length (e1.P++List.filter (eR e1.es) e1.ws)):Int)<=(↑(e1.R.length):Int))) (K (AV.ad 9 (List.take (Int.toNat ((↑(List.length (e1.P++List.filter (eR e1.es) e1.ws)):Int) - (0:Int))) (List.drop 0 (dR e0 (0+Int.toNat (↑(List.length (e1.P++List.filter (eR e1.es) e1.ws)):Int)) (Int.toNat ((↑(e1.R.length):Int) - (↑(List.length (e1.P++List.filter (eR e1.es) e1.ws)):Int))) (AV.str {data:= #[]}))))) [Obj.mv 9 (dR e0 (0+Int.toNat (↑(List.length (e1.P++List.filter (eR e1.es) e1.ws)):Int)) (Int.toNat ((↑(e1.R.length):Int) - (↑(List.length (e1.P++List.filter (eR e1.es) e1.ws)):Int))) (AV.str {data:= #[]})),Obj.box 178 (AV.mp 2),Dn.Obj.map 9 4 e1.es]))))):=by kernel_rfl
def Hs(a:DB):List AV×List Dn.Obj:=([.ar 0 0 a.vs.length,Oc],Dp (strs a.vs) a.es)
def o4(a:DB):Prop:=a.vs.length<=aM
def Fi(a:DB):Out (AV×List Dn.Obj):= .all (fun _:List AV=>True) fun R=> .one (.ad 9 (strs (a.vs.filter (eR a.es))),[.mv 9 R, .box 178 (.mp 2), .map 9 4 a.es])
theorem W2(κ:Kp):bz (Wd κ) 12 123 (aR Hs o4 Fi):=by
 refine bg ?_
 rintro⟨vs,i,es⟩ K h1 ho
 simp only[o4] at h1
 simp only[Hs]
 rw[←aX vs]
 refine Eq.mpr (yGB κ ⟨vs,i,es⟩ K) ?_
 refine⟨rfl,⟨vs,0,es⟩,rfl,⟨h1,by simp only;omega,by simp only;omega,fun s hs=>nomatch hs⟩,?_⟩
 rw[af]
 refine⟨fun e=>?_,fun e y hy=>?_⟩
 ·have hf:vs.filter (eR es)=vs:=List.filter_eq_self.2 (List.all_eq_true.1 e)
  have:=ho (strs vs) trivial
  simp only[hf] at this
  rw[ab2,List.take_length]
  exact this
 ·have hF:=qs hy
  obtain⟨h0,h2,h3,h4⟩:=hy
  simp only at h0 h2
  simp only[aM] at h1
  rw[af,beq_iff_eq,beq_eq_false_iff_ne]
  refine⟨fun e2=>by omega,fun _=>⟨rfl,⟨strs vs,y,y+1,es,vs.take y.toNat,vs.drop (y.toNat+1)⟩,?_,⟨by simp only[aX];omega,h0,by simp only;omega,by simp only[aX];omega,?_,?_⟩,?_⟩⟩
  ·rw[aW (n:=y+1) (by omega) (by omega)]
  ·simp only[strs,List.map_take]
  ·simp only[strs,List.map_drop,show(y+1).toNat=y.toNat+1 by omega]
  ·rintro R ⟨r1,r2⟩
   simp only at r1 r2
   rw[←hF] at r2⊢
   have hle:(vs.filter (eR es)).length<=vs.length:=List.length_filter_le _ _
   rw[an,an]
   refine⟨by simp[aX,hle],by simp[aX,hle],?_⟩
   have:=ho (dR R (0+Int.toNat ((vs.filter (eR es)).length:Int)) (Int.toNat (((strs vs).length:Int) - ((vs.filter (eR es)).length:Int))) (.lit (.string (ByteArray.mk #[])))) trivial
   simp only[Int.toNat_natCast,Nat.zero_add,Int.sub_zero,ab2,nS,r2] at this⊢
   exact this
theorem YG(κ:Kp): ∀args st K,aR Hs o4 Fi args st K->dq (Pr κ) 123 args st K:=fun args st K h=>iK (eGB κ) (mGB κ) (W2 κ args st K h)
structure Tf where
 a:cq
 ws:List Nat
 n:Nat
 i:Int
 vs:List ByteArray
abbrev PJ(a:Tf):S:=sp 48 [(2, .ptr 0 0 [] 0),(8, .ptr 1 0 [] 0),(32, .ar 3 0 a.n),(33, .int a.n),(34, .int a.i)] [.box 66 (aq a.a), .box 178 (.mp 2), .map 9 4 (b7 a.vs), .row 3 (ints a.ws)]
theorem x10(κ:Kp)(a:Tf)(ws:List AV)(es:List (Value×AV))(I:Nat->S->Prop)(n:Nat)(K:Exit->S->Prop):(vc (E7 κ) 12 77 none 0 (ah (Pr κ).toProgram 77 8) (sp 48 [(2, .ptr 0 0 [] 0),(8, .ptr 1 0 [] 0),(32, .ar 3 0 a.n),(33, .int a.n),(34, .int a.i)] [.box 66 (aq a.a), .box 178 (.mp 2), .map 9 4 es, .row 3 ws]) (bL (E7 κ) 77 8 0 I n K))=(
 letI z1:=∃(e2:cq×Int),([aq a.a,AV.int (toInt (nth ws (0+a.i.toNat)))],aJ)=([aq e2.1,AV.int e2.2],aJ)/\(aQ (aH e2.1)=true/\(aO (aa (bn 56
  e2.1.hl e2.1.bl))<=100000/\e2.1.bl.length<=100000)/\(0:Int)<=e2.2/\e2.2<(↑(e2.1.bl.length):Int))/\∃(e1:List AV×List (Value×AV)),([AV.mp 0,
  AV.ad 9 (strs (db (aH e2.1) e2.2.toNat))],[Dn.Obj.map 9 4 es])=([AV.mp 0,AV.ad 9 e1.1],[Dn.Obj.map 9 4 e1.2])/\br e1/\∃(e0:Nat),e0<n/\I e0 (sp 48
  [(2,AV.ptr 0 0 [] 0),(8,AV.ptr 1 0 [] 0),(32,AV.ar 3 0 a.n),(33,AV.int (↑(a.n):Int)),(34,AV.int (IntKind.wrap IntKind.i64 (a.i+(1:Int))))]
  [Obj.box 66 (aq a.a),Obj.box 178 (AV.mp 2),Dn.Obj.map 9 4 (fA e1.2 e1.1),Obj.row 3 ws])
 aC (decide (a.i<(↑(a.n):Int))) (ba (decide ((0:Int)<=a.i)&&decide (a.i<(↑(a.n):Int))) (z1/\z1)) (K (Exit.exit 1) (sp 48 [(2,AV.ptr 0 0 [] 0),(8,
 AV.ptr 1 0 [] 0)] [Obj.box 66 (aq a.a),Obj.box 178 (AV.mp 2),Dn.Obj.map 9 4 es]))):=by kernel_rfl
def FN(a:Tf):Prop:=aQ (aH a.a)=true/\df a.a/\0<=a.i/\a.i<=a.n/\a.n<=a.ws.length/\a.ws.length<=a.a.bl.length/\∀k,k∈a.ws->k<a.a.bl.length
def zh(a:Tf):Out (Exit×S):= .one (.exit 1,sp 48 [(2, .ptr 0 0 [] 0),(8, .ptr 1 0 [] 0)] [.box 66 (aq a.a), .box 178 (.mp 2), .map 9 4 (b7 (a.vs++eZ (aH a.a) ((a.ws.take a.n).drop a.i.toNat)))])
theorem Bc(l:List Nat)(i:Nat)(h:i<l.length):toInt (nth (ints l) i)=(l[i]:Int):=by
 rw[aZ _ _ (by rw[oj];exact h)];simp[ints,toInt]
theorem l10(κ:Kp):bk (E7 κ) 12 77 8 (aP 0 PJ FN zh):=by
 refine aL (fun a=>a.n - a.i.toNat) ?_
 rintro⟨a,ws,n,i,vs⟩ K ⟨h1,h2,h3,h4,h5,h6,h7⟩ ho
 simp only at h1 h2 h3 h4 h5 h6 h7
 rw[show(E7 κ).P=Pr κ from rfl]
 refine Eq.mpr (x10 κ ⟨a,ws,n,i,vs⟩ (ints ws) (b7 vs) _ _ K) ?_
 simp only[zh,Out.run] at ho
 simp only[and_self,Nat.zero_add]
 have hl:=h2.2
 rw[af,an,aa3,aa2,aa2,aa4]
 refine⟨fun hi=>⟨⟨h3,hi⟩,?_⟩,fun hi=>?_⟩
 ·have hi':i.toNat<ws.length:=by omega
  have hk:=h7 _ (List.getElem_mem hi')
  have hg:=sn h2 hk
  have hd:(ws.take n).drop i.toNat=ws[i.toNat]::(ws.take n).drop (i.toNat+1):=by
   rw[ab3 (by rw[List.length_take];omega)]
   simp
  rw[hd] at ho
  rw[aW (n:=i+1) (by omega) (by omega),Bc ws _ hi']
  refine⟨(a,(ws[i.toNat]:Int)),rfl,⟨h1,h2,by simp only;omega,by simp only;omega⟩,(strs (db (aH a) ws[i.toNat]),b7 vs),rfl,by simp only[br,aX,aM];omega,_,?_,⟨a,ws,n,i+1,vs++db (aH a) ws[i.toNat]⟩,?_,⟨h1,h2,by simp only;omega,by simp only;omega,h5,h6,h7⟩,rfl,?_⟩
  ·simp only;omega
  ·simp only[l6]
  ·simp only[zh,Out.run,show(i+1).toNat=i.toNat+1 by omega]
   simpa only[eZ,List.flatMap_cons,List.append_assoc] using ho
 ·rw[ab0 (by rw[List.length_take];omega)] at ho
  simpa[eZ] using ho
noncomputable def KY(κ:Kp):Env:=((E7 κ).ak 77 8 (aP 0 PJ FN zh)).ay 123 (aR Hs o4 Fi)
theorem Xa(κ:Kp):aD (KY κ):=((e7 κ).ak (m7 κ) (l10 κ)).iE (YG κ)
theorem S2(κ:Kp):aj (KY κ):=((m7 κ).ak aI).ay aK
theorem y10(κ:Kp)(a:cq)(k:Int)(K:AV->List Dn.Obj->Prop):(bf (KY κ) 12 77 [aq a, .int k] [] K)=(
 letI z1:=K (AV.bp [AV.nil,AV.int 2]) []
 letI z2:=Pg.toProgram (Env.P (E7 κ))
 letI z3:=Int.toNat (k - (0:Int))
 ∃(e4:cq),([aq a],aJ)=([aq e4],aJ)/\(aO (aa (bn 56 e4.hl e4.bl))<=100000/\e4.bl.length<=100000)/\aC (aQ (aH e4)) (aC (iP (aH e4)) (aC (decide (k<
 (0:Int))) z1 (aC (decide (k>(↑(List.length (bU (aH e4))):Int))) z1 (ba (true&&decide ((0:Int)<=k)&&decide (k<=(↑(List.length (bU (aH e4))):
 Int))) (ah z2 77 8=ah z2 77 8/\∃(e3:Tf),sp 48 [(2,AV.ptr 0 0 [] 0),(8,AV.ptr 1 0 [] 0),(32,AV.ar 3 0 z3),(33,AV.int (↑z3:Int)),(34,AV.int 0)]
 [Obj.box 66 (aq a),Obj.box 178 (AV.mp 2),Dn.Obj.map 9 4 [],Obj.row 3 (ints (bU (aH e4)))]=sp 48 [(2,AV.ptr 0 0 [] 0),(8,AV.ptr 1 0 [] 0),(32,AV.ar 3 0
 e3.n),(33,AV.int (↑(e3.n):Int)),(34,AV.int e3.i)] [Obj.box 66 (aq e3.a),Obj.box 178 (AV.mp 2),Dn.Obj.map 9 4 (b7 e3.vs),Obj.row 3 (ints e3.ws)]/\(aQ
 (aH e3.a)=true/\(aO (aa (bn 56 e3.a.hl e3.a.bl))<=100000/\List.length e3.a.bl<=100000)/\(0:Int)<=e3.i/\e3.i<=(↑(e3.n):Int)/\e3.n<=e3.ws.length/\
 e3.ws.length<=List.length e3.a.bl/\∀(e0:Nat),List.Mem e0 e3.ws->e0<List.length e3.a.bl)/\∃(e2:cq),([aq e3.a],aJ)=([aq e2],aJ)/\(aQ (aH e2)=
 true/\aO (aa (bn 56 e2.hl e2.bl))<=100000/\e2.bl.length<=100000)/\∃(e1:DB),([AV.ar 0 0 (List.length (dc (aH e2))),AV.bQ 125 [AV.ptr 1 0 [] 0]],
 [Obj.row 9 (strs (dc (aH e2))),Obj.box 178 (AV.mp 2),Dn.Obj.map 9 4 (b7 (e3.vs++eZ (aH e3.a) (List.drop e3.i.toNat (List.take e3.n e3.ws))))])=([AV.ar 0 0
 e1.vs.length,AV.bQ 125 [AV.ptr 1 0 [] 0]],[Obj.row 9 (strs e1.vs),Obj.box 178 (AV.mp 2),Dn.Obj.map 9 4 e1.es])/\o4 e1/\∀(e0:List AV),True->K (AV.bp
 [AV.ad 9 (strs (List.filter (eR e1.es) e1.vs)),AV.int 0]) [])))) (K (AV.bp [AV.nil,AV.int 60]) [])) (K (AV.bp [AV.nil,AV.int 30]) [])):=by kernel_rfl
def Pv(a:cq×Int):List AV×List Dn.Obj:=([aq a.1, .int a.2],[])
def AU(a:cq×Int):Prop:=df a.1
def x5(a:cq×Int):Out (AV×List Dn.Obj):= .aC (aQ (aH a.1)) (.aC (iP (aH a.1)) (.aC (decide (a.2<0)||decide (a.1.bl.length<a.2)) (.one (.bp [.nil, .int 2],[]))
 (.one (.bp [.ad 9 (strs (jQ (aH a.1) a.2.toNat)), .int 0],[]))) (.one (.bp [.nil, .int 60],[]))) (.one (.bp [.nil, .int 30],[]))
theorem kt{a:cq}(h:iP (aH a)=true):(bU (aH a)).length=a.bl.length:=by
 have h1:=Ig (aH a)
 rw[fB] at h1
 simp only[iP,aa3,aa2,fB] at h
 omega
theorem c10(κ:Kp):bz (KY κ) 12 77 (aR Pv AU x5):=by
 refine bg ?_
 rintro⟨a,k⟩ K h2 ho
 refine Eq.mpr (y10 κ a k K) ?_
 simp only[x5,Out.run,af] at ho
 have h2:df a:=h2
 have hl:=h2.2
 refine⟨a,rfl,h2,?_⟩
 rw[af]
 refine⟨fun e1=>?_,fun e1=>ho.2 e1⟩
 rw[af]
 refine⟨fun e2=>?_,fun e2=>(ho.1 e1).2 e2⟩
 have hw:=kt e2
 have ho1:=(ho.1 e1).1 e2
 rw[af,aa2,aa4]
 refine⟨fun e3=>ho1.1 (by rw[aa8 e3];rfl),fun e3=>?_⟩
 rw[af,aa2,aa4,hw]
 refine⟨fun e4=>ho1.1 (by rw[aa8 (show(a.bl.length:Int)<k from e4)];simp),fun e4=>?_⟩
 have ho2:=ho1.2 (by rw[aa6 e3,aa6 (show ¬ (a.bl.length:Int)<k from e4)];rfl)
 simp only[an,aa3,aa2,Int.sub_zero]
 have h5:(fw (aH a)).length<=100000:=by
  have h6:=cF (aa (bn 56 a.hl a.bl))
  rw[iJ 56 a.rel a.hl a.bl] at h6
  exact Nat.le_trans h6 h2.1
 have h7:=lg (fw (aH a)) []
 refine⟨⟨⟨trivial,by omega⟩,by omega⟩,trivial,⟨a,bU (aH a),k.toNat,0,[]⟩,rfl,⟨e1,h2,by simp only;omega,by simp only;omega,by simp only;omega,by simp only;omega,fun j hj=>by have:=q8 hj;rwa [fB] at this⟩,a,rfl,⟨e1,h2⟩,⟨dc (aH a),0,b7 ([]++eZ (aH a) (((bU (aH a)).take k.toNat).drop (Int.toNat 0)))⟩,rfl,?_,?_⟩
 ·simp only[o4,dc,e1,aa9,aM];omega
 ·intro R _
  have hk3:List.filter (eR (b7 ([]++eZ (aH a) (((bU (aH a)).take k.toNat).drop (Int.toNat 0))))) (dc (aH a))=jQ (aH a) k.toNat:=by
   unfold jQ
   refine congrFun (congrArg _ ?_) _
   funext s
   unfold eR
   rw[oW];rfl
  simp only[hk3]
  exact ho2
noncomputable def Oh(κ:Kp):Env:=(KY κ).ay 77 (aR Pv AU x5)
theorem e10(κ:Kp):aD (Oh κ):=(Xa κ).ay (S2 κ) (c10 κ)
theorem Zs(κ:Kp):aj (Oh κ):=(S2 κ).ay aK
end Go.Proofs.YthaiinlfnommnaaGreatDoor
