import Derived.Test.YthaiinlfnommnaaGreatDoorDbM3
import Derived.Test.YthaiinlfnommnaaGreatDoorDbM1
import Derived.Test.YthaiinlfnommnaaGreatDoorDbM2
namespace Go.Proofs.YthaiinlfnommnaaGreatDoor
open Go Go.Dn Go.Rl Go.Proofs
attribute [local irreducible] a8 vc
set_option maxRecDepth 20000
theorem x65(κ:Kp)(l:List AV)(s:ByteArray)(i:Int)(I:Nat->S->Prop)(n:Nat)(K:Exit->S->Prop):(vc (ON κ) 12 242 none 0 (af (Pr κ).toProgram 242 2) (sp 19 [(0, .ad 9 l),(1, .lit (.string s)),(7, .int l.length),(8, .int i)] []) (bK (ON κ) 242 2 0 I n K))=(
 letI z1:=i<(↑(l.length):Int)
 aD (decide z1) (aX (decide ((0:Int)<=i)&&decide z1) (aD (ByteArray.toList s==ByteArray.toList (toStr (nth l i.toNat))) (K Exit.ret (sp 19 [(4,AV.int i)]
 [])) (∃(e0:Nat),e0<n/\I e0 (sp 19 [(0,AV.ad 9 l),(1,AV.str s),(7,AV.int (↑(l.length):Int)),(8,AV.int (IntKind.wrap IntKind.i64 (i+(1:
 Int))))] [])))) (K (Exit.exit 0) (sp 19 [] []))):=by kernel_rfl
abbrev UM(a:List AV×ByteArray×Int):S:=sp 19 [(0, .ad 9 a.1),(1, .lit (.string a.2.1)),(7, .int a.1.length),(8, .int a.2.2)] []
def Kd(a:List AV×ByteArray×Int):Prop:=a.1.length<=aR/\0<=a.2.2/\a.2.2<=a.1.length
def Hu(a:List AV×ByteArray×Int):Out (Exit×S):= .aD (decide (eb a.2.1 (a.1.drop a.2.2.toNat) a.2.2>=0)) (.one (.ret,sp 19 [(4, .int (eb a.2.1 (a.1.drop a.2.2.toNat) a.2.2))] [])) (.one (.exit 0,sp 19 [] []))
theorem l65(κ:Kp):bj (ON κ) 12 242 2 (aO 0 UM Kd Hu):=by
 refine aK (fun a=>a.1.length - a.2.2.toNat) ?_
 rintro⟨l,s,i⟩ K ⟨h1,h2,h3⟩ ho
 simp only at h1 h2 h3
 rw[show(ON κ).P=Pr κ from rfl]
 refine Eq.mpr (x65 κ l s i _ _ K) ?_
 simp only[aR] at h1
 simp only[Hu,Out.run,ah] at ho
 simp only[ah,aq,aa1,aa3,aa2]
 refine⟨fun hi=>⟨⟨h2,hi⟩,fun e=>?_,fun e=>?_⟩,fun hi=>?_⟩
 ·rw[ab2 (show i.toNat<l.length by omega),←bf l i.toNat (by omega),eb,show lU s (toStr (nth l i.toNat))=true from e,aa8,aa7 (show i>=0 from h2)] at ho
  exact ho.1 rfl
 ·rw[aW (n:=i+1) (by omega) (by omega)]
  refine⟨_,?_,(l,s,i+1),rfl,⟨by simpa[aR] using h1,by simp only;omega,by simp only;omega⟩,rfl,?_⟩
  ·simp only;omega
  ·rw[ab2 (show i.toNat<l.length by omega),←bf l i.toNat (by omega),eb,show lU s (toStr (nth l i.toNat))=false from e,aa6] at ho
   simp only[Hu,Out.run,ah,show(i+1).toNat=i.toNat+1 by omega]
   exact ho
 ·rw[aa9 (by omega)] at ho
  exact ho.2 rfl
noncomputable def LD(κ:Kp):Env:=(ON κ).ak 242 2 (aO 0 UM Kd Hu)
theorem XT(κ:Kp):aB (LD κ):=(e39 κ).ak (Y7 κ) (l65 κ)
theorem U1(κ:Kp):aj (LD κ):=(Y7 κ).ak aG
theorem y65(κ:Kp)(l:List AV)(s:ByteArray)(K:AV->List Dn.Obj->Prop):(a8 (LD κ) 12 242 [.ad 9 l, .lit (.string s)] [] K)=(
 af (Pg.toProgram (Env.P (ON κ))) 242 2=af (Pg.toProgram (Env.P (ON κ))) 242 2/\∃(a:List AV×ByteArray×Int),sp 19 [(0,AV.ad 9 l),(1,
 AV.str s),(7,AV.int (↑(l.length):Int)),(8,AV.int 0)] []=sp 19 [(0,AV.ad 9 a.1),(1,AV.str a.2.1),(7,AV.int (↑(a.1.length):Int)),(8,AV.int
 a.2.2)] []/\(a.1.length<=9223372036854775807/\(0:Int)<=a.2.2/\a.2.2<=(↑(a.1.length):Int))/\aD (decide (eb a.2.1 (List.drop (Int.toNat a.2.2)
 a.1) a.2.2>=(0:Int))) (K (AV.int (eb a.2.1 (List.drop (Int.toNat a.2.2) a.1) a.2.2)) []) (K (AV.int (-1)) [])):=by kernel_rfl
def WY:List AV->Option (Bool×AV)
 |[.ad 9 l, .lit (.string s)]=>some (decide (l.length<=aR), .int (eb s l 0))
 |_=>none
theorem uy(s:ByteArray): ∀(l:List AV) (i:Int),¬ eb s l i>=0->0<=i->eb s l i= -1
 |[],_,_,_=>rfl
 |a::l,i,h,h0=>by
  simp only[eb] at h⊢
  cases e:lU s (toStr a) with
  |true=>rw[e] at h;exact absurd h0 h
  |false=>rw[e] at h;exact uy s l (i+1) h (by omega)
theorem p65(κ:Kp):cU (LD κ) 12 242 WY:=by
 intro args x hh
 unfold WY at hh
 split at hh
 ·rename_i l s
  simp only[aa4,ab0,aa1] at hh
  obtain⟨h1,rfl⟩:=hh
  refine⟨_,rfl,rfl,?_⟩
  refine Eq.mpr (y65 κ l s _) ?_
  refine⟨rfl,(l,s,0),rfl,⟨h1,by simp only;omega,by simp only;omega⟩,?_⟩
  simp only[ab8,ab1,ah,aa1,aa3]
  exact⟨fun _=>trivial,fun e=>by rw[uy s l 0 e (by omega)]⟩
 ·cases hh
noncomputable def VJ(κ:Kp):Env:=(LD κ).aH 242 WY
theorem e65(κ:Kp):aB (VJ κ):=(XT κ).aH (U1 κ) (p65 κ)
theorem YZ(κ:Kp):aj (VJ κ):=(U1 κ).aH
theorem y63(κ:Kp)(l:List AV)(s:ByteArray)(K:AV->List Dn.Obj->Prop):(a8 (VJ κ) 12 193 [.ad 9 l, .lit (.string s)] [] K)=(
 aX (decide (l.length<=9223372036854775807)) (K (AV.bool (decide (eb s l (0:Int)>=(0:Int)))) [])):=by kernel_rfl
def X8:List AV->Option (Bool×AV)
 |[.ad 9 l, .lit (.string s)]=>some (decide (l.length<=aR), .bool (decide (eb s l 0>=0)))
 |_=>none
theorem p63(κ:Kp):cU (VJ κ) 12 193 X8:=by
 intro args x hh
 unfold X8 at hh
 split at hh
 ·rename_i l s
  simp only[aa4,ab0,aa1] at hh
  obtain⟨h1,rfl⟩:=hh
  refine⟨_,rfl,rfl,?_⟩
  refine Eq.mpr (y63 κ l s _) ?_
  rw[aq,aa1]
  exact⟨h1,rfl⟩
 ·cases hh
noncomputable def SN(κ:Kp):Env:=(VJ κ).aH 193 X8
theorem e63(κ:Kp):aB (SN κ):=(e65 κ).aH (YZ κ) (p63 κ)
theorem Y8(κ:Kp):aj (SN κ):=(YZ κ).aH
theorem y24(κ:Kp)(a:cm)(k:Int)(K:AV->List Dn.Obj->Prop):(a8 (SN κ) 12 122 [ar a, .int k] [] K)=(
 letI z2:=nth a.bl k.toNat
 letI z1:=∃(e1:List AV),([AV.ad 56 [AV.agg [AV.int (toInt (ae (ae z2 2) 0)),AV.str (toStr (ae (ae z2 2) 1)),AV.int (toInt (ae (ae z2 2) 2)),AV.ad 56 (ai
  (ae (ae z2 2) 3))]]],aI)=([AV.ad 56 e1],aI)/\bF e1/\∃(e0:cm×Int),([ar a,AV.int k],aI)=([ar e0.1,AV.int e0.2],aI)/\(aM (aF e0.1)=true/\(a6
  (aa (bm 56 e0.1.hl e0.1.bl))<=100000/\e0.1.bl.length<=100000)/\(0:Int)<=e0.2/\e0.2<(↑(e0.1.bl.length):Int))/\aX (decide ((List.length (ay (aa e1))
  +List.length (strs (ei (aF e0.1) e0.2.toNat))+1)*17<=70368744177664)) (K (AV.ad 9 (List.take (List.length (ay (aa e1))+List.length (strs (ei (aF e0.1)
  e0.2.toNat))) (List.drop 0 (List.take (List.length (ay (aa e1))) (strs (ay (aa e1)))++strs (ei (aF e0.1) e0.2.toNat))))) [])
 aX (decide ((0:Int)<=k)&&decide (k<(↑(a.bl.length):Int))) (aD (decide ((7:Int)<=toInt (ae z2 0))) ((z1/\z1)/\z1) (∃(e0:LA),([AV.agg [AV.int
 (toInt (ae z2 0)),AV.agg [AV.str (toStr (ae (ae z2 1) 0)),AV.ad 56 (ai (ae (ae z2 1) 1))],AV.agg [AV.int (toInt (ae (ae z2 2) 0)),AV.str (toStr (ae (ae z2
 2) 1)),AV.int (toInt (ae (ae z2 2) 2)),AV.ad 56 (ai (ae (ae z2 2) 3))],AV.agg [AV.int (toInt (ae (ae z2 3) 0)),AV.str (toStr (ae (ae z2 3) 1)),AV.int
 (toInt (ae (ae z2 3) 2)),AV.ad 56 (ai (ae (ae z2 3) 3))]]],aI)=([AV.agg [AV.int e0.op,AV.agg [AV.str e0.s,AV.ad 56 e0.l],AV.agg [AV.int e0.o1,AV.str
 e0.s1,AV.int e0.n1,AV.ad 56 e0.l1],AV.agg [AV.int e0.o2,AV.str e0.s2,AV.int e0.n2,AV.ad 56 e0.l2]]],aI)/\gm e0/\K (AV.ad 9 (List.take (List.length (ej
 (LA.lt e0))) (List.drop 0 (strs (ej (LA.lt e0)))))) []))):=by kernel_rfl
def PH(a:cm×Int):Out (AV×List Dn.Obj):= .one (.ad 9 (strs (cQ (aF a.1) a.2.toNat)),[])
theorem HE(l:Lt):a6 [l.x]<=iQ l:=by
 simp only[iQ,a6];omega
theorem Hd(x:AV):aa [po 56 (ae x 2)]=[(cK x).x]:=by
 simp only[aa,ac1,ac2,rG];rfl
theorem rK{a:cm}(h:dd a)(k:Nat):(ei (aF a) k).length<=100000:=by
 have h5:(ft (aF a)).length<=100000:=by
  have h6:=cx (aa (bm 56 a.hl a.bl))
  rw[iH 56 a.rel a.hl a.bl] at h6
  exact Nat.le_trans h6 h.1
 have h7:=k9 (ft (aF a)) []
 refine Nat.le_trans (List.length_filter_le _ _) ?_
 unfold cZ
 cases aM (aF a)
 ·simp
 ·rw[aa8];omega
theorem c24(κ:Kp):bt (SN κ) 12 122 (aL M9 Ab PH):=by
 refine aZ ?_
 rintro⟨a,k⟩ K ⟨h1,h2,h3,h4⟩ ho
 refine Eq.mpr (y24 κ a k K) ?_
 simp only at h1 h2 h3 h4
 have hk:k.toNat<a.bl.length:=by omega
 have hlit:=kE h2 hk
 have hv:=cx [(cK (nth a.bl k.toNat)).x]
 have hc:=HE (cK (nth a.bl k.toNat))
 have ho':K (.ad 9 (strs (cQ (aF a) k.toNat))) []:=ho
 unfold cQ at ho'
 rw[show(aF a).body=dg a.bl from rfl,km _ hk,show(cK (nth a.bl k.toNat)).op=toInt (ae (nth a.bl k.toNat) 0) from rfl] at ho'
 simp only[and_self]
 rw[aq,aa2,aa1,aa1,ah,aa1,aa3]
 refine⟨⟨h3,h4⟩,fun e=>?_,fun e=>?_⟩
 ·rw[aa7 e] at ho'
  refine⟨[po 56 (ae (nth a.bl k.toNat) 2)],rfl,by simp only[bF,Hd];omega,(a,k),rfl,⟨h1,h2,h3,h4⟩,?_⟩
  have hol:=rK h2 k.toNat
  simp only[Hd,aV,ab1,cX,aq,aa1]
  refine⟨by omega,?_⟩
  rw[←ie,List.take_of_length_le (by simp[aV])]
  exact ho'
 ·rw[aa5 e] at ho'
  refine⟨sa (nth a.bl k.toNat),rfl,by rw[gm,eD];exact hlit,?_⟩
  simp only[eD,ab1,cX]
  exact ho'
noncomputable def Ua(κ:Kp):Env:=(SN κ).ax 122 (aL M9 Ab PH)
theorem e24(κ:Kp):aB (Ua κ):=(e63 κ).ax (Y8 κ) (c24 κ)
theorem Zf(κ:Kp):aj (Ua κ):=(Y8 κ).ax aJ
theorem y52(κ:Kp)(a:cm)(k:Int)(es:List (Value×AV))(K:AV->List Dn.Obj->Prop):(a8 (Ua κ) 12 236 [.mp 0,ar a, .int k] [.map 9 4 es] K)=(
 letI z4:=nth a.bl k.toNat
 letI z5:=toStr (ae (ae z4 3) 1)
 letI z6:=ai (ae (ae z4 1) 1)
 letI z7:=toStr (ae (ae z4 1) 0)
 letI z8:=toInt (ae (ae z4 2) 0)
 letI z9:=toStr (ae (ae z4 2) 1)
 letI z10:=toInt (ae (ae z4 2) 2)
 letI z11:=toInt (ae (ae z4 3) 0)
 letI z12:=toInt (ae (ae z4 3) 2)
 letI z13:=ai (ae (ae z4 2) 3)
 letI z14:=ai (ae (ae z4 3) 3)
 letI z15:=Value×AV
 letI z1:=∃(e3:cm×Int),([ar a,AV.int k],aI)=([ar e3.1,AV.int e3.2],aI)/\(aM (aF e3.1)=true/\(a6 (aa (bm 56 e3.1.hl e3.1.bl))<=100000/\
  e3.1.bl.length<=100000)/\(0:Int)<=e3.2/\e3.2<(↑(e3.1.bl.length):Int))/\∃(e2:List AV×List z15),([AV.mp 0,AV.ad 9 (strs (ei (aF e3.1)
  e3.2.toNat))],[Dn.Obj.map 9 4 es])=([AV.mp 0,AV.ad 9 e2.1],[Dn.Obj.map 9 4 e2.2])/\bq e2/\aD (gD e2.2 e2.1) (∃(e1:ByteArray×List AV),([AV.agg
  [AV.str z7,AV.ad 56 z6]],aI)=([AV.agg [AV.str e1.1,AV.ad 56 e1.2]],aI)/\jR e1/\∃(e0:List AV×List z15),([AV.mp 0,AV.ad 9 (List.take (List.length
  (dM (aa e1.2))) (List.drop 0 (strs (dM (aa e1.2)))))],[Dn.Obj.map 9 4 e2.2])=([AV.mp 0,AV.ad 9 e0.1],[Dn.Obj.map 9 4 e0.2])/\bq e0/\K (AV.bool (gD e0.2
  e0.1)) [Dn.Obj.map 9 4 e0.2]) (K (AV.bool false) [Dn.Obj.map 9 4 e2.2])
 letI z2:=∃(e1:LA),([AV.agg [AV.int (toInt (ae z4 0)),AV.agg [AV.str z7,AV.ad 56 z6],AV.agg [AV.int z8,AV.str z9,AV.int z10,AV.ad 56 z13],AV.agg
  [AV.int z11,AV.str z5,AV.int z12,AV.ad 56 z14]]],aI)=([AV.agg [AV.int e1.op,AV.agg [AV.str e1.s,AV.ad 56 e1.l],AV.agg [AV.int e1.o1,AV.str e1.s1,
  AV.int e1.n1,AV.ad 56 e1.l1],AV.agg [AV.int e1.o2,AV.str e1.s2,AV.int e1.n2,AV.ad 56 e1.l2]]],aI)/\gm e1/\∃(e0:List AV×List z15),([AV.mp 0,AV.ad
  9 (List.take (List.length (ej (LA.lt e1))) (List.drop 0 (strs (ej (LA.lt e1)))))],[Dn.Obj.map 9 4 es])=([AV.mp 0,AV.ad 9 e0.1],[Dn.Obj.map 9 4 e0.2])/\bq
  e0/\K (AV.bool (gD e0.2 e0.1)) [Dn.Obj.map 9 4 e0.2]
 letI z3:=∃(e4:List AV),([AV.ad 56 z6],aI)=([AV.ad 56 e4],aI)/\bF e4/\aX (decide (List.length (List.take (List.length (ay (aa e4))) (List.drop 0
  (strs (ay (aa e4)))))<=9223372036854775807)) (aD (decide (eb z5 (List.take (List.length (ay (aa e4))) (List.drop 0 (strs (ay (aa e4))))) (0:Int)>=(0:
  Int))) z1 (K (AV.bool false) [Dn.Obj.map 9 4 es]))
 aX (decide ((0:Int)<=k)&&decide (k<(↑(a.bl.length):Int))) (aD (toInt (ae z4 0)==(1:Int)) (∃(e1:ByteArray×List AV),([AV.agg [AV.str z7,AV.ad
 56 z6]],aI)=([AV.agg [AV.str e1.1,AV.ad 56 e1.2]],aI)/\jR e1/\∃(e0:List AV×List z15),([AV.mp 0,AV.ad 9 (List.take (List.length (dM (aa e1.2)))
 (List.drop 0 (strs (dM (aa e1.2)))))],[Dn.Obj.map 9 4 es])=([AV.mp 0,AV.ad 9 e0.1],[Dn.Obj.map 9 4 e0.2])/\bq e0/\K (AV.bool (gD e0.2 e0.1)) [Dn.Obj.map
 9 4 e0.2]) (aD (toInt (ae z4 0)==(3:Int)) (∃(e3:TA),([AV.mp 0,AV.agg [AV.int z8,AV.str z9,AV.int z10,AV.ad 56 z13],AV.agg [AV.int z11,AV.str z5,
 AV.int z12,AV.ad 56 z14]],[Dn.Obj.map 9 4 es])=([AV.mp 0,AV.agg [AV.int e3.o1,AV.str e3.s1,AV.int e3.n1,AV.ad 56 e3.l1],AV.agg [AV.int e3.o2,AV.str
 e3.s2,AV.int e3.n2,AV.ad 56 e3.l2]],[Dn.Obj.map 9 4 e3.es])/\iT e3/\aD (lL e3.es (TA.x e3) (TA.y e3)) (K (AV.bool true) [Dn.Obj.map 9 4 e3.es]) (∃(e2:
 TA),([AV.mp 0,AV.agg [AV.int z11,AV.str z5,AV.int z12,AV.ad 56 z14],AV.agg [AV.int z8,AV.str z9,AV.int z10,AV.ad 56 z13]],[Dn.Obj.map 9 4 e3.es])=
 ([AV.mp 0,AV.agg [AV.int e2.o1,AV.str e2.s1,AV.int e2.n1,AV.ad 56 e2.l1],AV.agg [AV.int e2.o2,AV.str e2.s2,AV.int e2.n2,AV.ad 56 e2.l2]],[Dn.Obj.map 9
 4 e2.es])/\iT e2/\aD (lL e2.es (TA.x e2) (TA.y e2)) (K (AV.bool true) [Dn.Obj.map 9 4 e2.es]) (∃(e1:LA),([AV.agg [AV.int (toInt (ae z4 0)),AV.agg [AV.str
 z7,AV.ad 56 z6],AV.agg [AV.int z8,AV.str z9,AV.int z10,AV.ad 56 z13],AV.agg [AV.int z11,AV.str z5,AV.int z12,AV.ad 56 z14]]],aI)=([AV.agg [AV.int
 e1.op,AV.agg [AV.str e1.s,AV.ad 56 e1.l],AV.agg [AV.int e1.o1,AV.str e1.s1,AV.int e1.n1,AV.ad 56 e1.l1],AV.agg [AV.int e1.o2,AV.str e1.s2,AV.int e1.n2,
 AV.ad 56 e1.l2]]],aI)/\gm e1/\∃(e0:List AV×List z15),([AV.mp 0,AV.ad 9 (List.take (List.length (ej (LA.lt e1))) (List.drop 0 (strs (ej (LA.lt
 e1)))))],[Dn.Obj.map 9 4 e2.es])=([AV.mp 0,AV.ad 9 e0.1],[Dn.Obj.map 9 4 e0.2])/\bq e0/\K (AV.bool (gD e0.2 e0.1)) [Dn.Obj.map 9 4 e0.2]))) (aD (toInt
 (ae z4 0)==(2:Int)) z2 (aD (toInt (ae z4 0)==(4:Int)) z2 (aD (toInt (ae z4 0)==(5:Int)) z2 (aD (toInt (ae z4 0)==(6:Int)) z2 (aD (toInt (ae z4
 0)==(7:Int)) (z1/\z1/\z1/\z1) (z3/\z3/\z3/\z3))))))))):=by kernel_rfl
def Ve(a:cm×Int×List ByteArray):List AV×List Dn.Obj:=([.mp 0,ar a.1, .int a.2.1],[.map 9 4 (bR a.2.2)])
def Lj(a:cm×Int×List ByteArray):Prop:=aM (aF a.1)=true/\dd a.1/\0<=a.2.1/\a.2.1<a.1.bl.length
def Pq(a:cm×Int×List ByteArray):Out (AV×List Dn.Obj):= .one (.bool (oA a.2.2 (aF a.1) a.2.1.toNat),[.map 9 4 (bR a.2.2)])
theorem AX(x y:AV)(es:List (Value×AV)):(TA.mk (toInt (ae x 0)) (toStr (ae x 1)) (toInt (ae x 2)) (ai (ae x 3)) (toInt (ae y 0)) (toStr (ae y 1)) (toInt (ae y 2)) (ai (ae y 3)) es).x=cR x:=by rw[dh];rfl
theorem nI(x y:AV)(es:List (Value×AV)):(TA.mk (toInt (ae x 0)) (toStr (ae x 1)) (toInt (ae x 2)) (ai (ae x 3)) (toInt (ae y 0)) (toStr (ae y 1)) (toInt (ae y 2)) (ai (ae y 3)) es).y=cR y:=by rw[dh];rfl
def lN(x y:AV)(es:List (Value×AV)):TA:=TA.mk (toInt (ae x 0)) (toStr (ae x 1)) (toInt (ae x 2)) (ai (ae x 3)) (toInt (ae y 0)) (toStr (ae y 1)) (toInt (ae y 2)) (ai (ae y 3)) es
theorem c52(κ:Kp):bt (Ua κ) 12 236 (aL Ve Lj Pq):=by
 refine aZ ?_
 rintro⟨a,k,b⟩ K ⟨h1,h2,h3,h4⟩ ho
 refine Eq.mpr (y52 κ a k (bR b) K) ?_
 simp only at h1 h2 h3 h4
 have hk:k.toNat<a.bl.length:=by omega
 have hlit:=kE h2 hk
 have ho':K (.bool (oA b (aF a) k.toNat)) [.map 9 4 (bR b)]:=ho
 unfold oA at ho'
 rw[show(aF a).body=dg a.bl from rfl,km _ hk,show(cK (nth a.bl k.toNat)).op=toInt (ae (nth a.bl k.toNat) 0) from rfl,show(cK (nth a.bl k.toNat)).a.l=aa (ai (ae (ae (nth a.bl k.toNat) 1) 1)) from rfl,
  show(cK (nth a.bl k.toNat)).x=cR (ae (nth a.bl k.toNat) 2) from rfl,show(cK (nth a.bl k.toNat)).y=cR (ae (nth a.bl k.toNat) 3) from rfl] at ho'
 have hlc:iQ (cK (nth a.bl k.toNat))=a6 [cR (ae (nth a.bl k.toNat) 2),cR (ae (nth a.bl k.toNat) 3)]+a6 (aa (ai (ae (ae (nth a.bl k.toNat) 1) 1))):=rfl
 have hcl:a6 (aa (ai (ae (ae (nth a.bl k.toNat) 1) 1)))<=100000:=by omega
 have hcx:a6 [cR (ae (nth a.bl k.toNat) 2)]<=100000/\a6 [cR (ae (nth a.bl k.toNat) 3)]<=100000:=by
  simp only[a6] at hlc⊢;omega
 have hvl:=cx (aa (ai (ae (ae (nth a.bl k.toNat) 1) 1)))
 have hrl:=CL (aa (ai (ae (ae (nth a.bl k.toNat) 1) 1)))
 have hol:=rK h2 k.toNat
 have hll:(ej (cK (nth a.bl k.toNat))).length<=100000:=by
  have e1:=cx [(cK (nth a.bl k.toNat)).x,(cK (nth a.bl k.toNat)).y]
  have e2:=cx (cK (nth a.bl k.toNat)).a.l
  simp only[ej,iQ,ab9] at hlit⊢;omega
 simp only[and_self]
 rw[aq,aa2,aa1,aa1]
 refine⟨⟨h3,h4⟩,?_⟩
 rw[ah,beq_iff_eq,beq_eq_false_iff_ne]
 refine⟨fun e1=>?_,fun e1=>?_⟩
 ·rw[aa7 e1,aa8] at ho'
  refine⟨(toStr (ae (ae (nth a.bl k.toNat) 1) 0),ai (ae (ae (nth a.bl k.toNat) 1) 1)),rfl,hcl,(strs (dM (aa (ai (ae (ae (nth a.bl k.toNat) 1) 1)))),bR b),by simp only[ab1,cX],by simp only[bq,aV,aR];omega,?_⟩
  simp only[eZ];exact ho'
 rw[aa5 e1,aa6] at ho'
 rw[ah,beq_iff_eq,beq_eq_false_iff_ne]
 refine⟨fun e2=>?_,fun e2=>?_⟩
 ·rw[aa7 e2,aa8] at ho'
  refine⟨lN (ae (nth a.bl k.toNat) 2) (ae (nth a.bl k.toNat) 3) (bR b),rfl,by unfold iT lN;rw[nI];exact hcx.2,?_⟩
  unfold lN
  rw[AX,nI,oI]
  rw[ah]
  refine⟨fun f1=>by rw[f1] at ho';exact ho',fun f1=>?_⟩
  rw[f1,Bool.false_or] at ho'
  refine⟨lN (ae (nth a.bl k.toNat) 3) (ae (nth a.bl k.toNat) 2) (bR b),rfl,by unfold iT lN;rw[nI];exact hcx.1,?_⟩
  unfold lN
  rw[AX,nI,oI,ah]
  refine⟨fun f2=>by rw[f2] at ho';exact ho',fun f2=>?_⟩
  rw[f2,Bool.false_or] at ho'
  exact⟨sa (nth a.bl k.toNat),rfl,by rw[gm,eD];exact hlit,(strs (ej (sa (nth a.bl k.toNat)).lt),bR b),by simp only[ab1,cX],by simp only[bq,aV,aR];rw[eD];omega,by simp only[eZ,eD];exact ho'⟩
 rw[aa5 e2,aa6] at ho'
 rw[ah,beq_iff_eq,beq_eq_false_iff_ne]
 refine⟨fun e3=>?_,fun e3=>?_⟩
 ·rw[aa7 e3] at ho'
  simp only[Bool.true_or,Bool.or_true,aa8] at ho'
  exact⟨sa (nth a.bl k.toNat),rfl,by rw[gm,eD];exact hlit,(strs (ej (sa (nth a.bl k.toNat)).lt),bR b),by simp only[ab1,cX],by simp only[bq,aV,aR];rw[eD];omega,by simp only[eZ,eD];exact ho'⟩
 rw[ah,beq_iff_eq,beq_eq_false_iff_ne]
 refine⟨fun e4=>?_,fun e4=>?_⟩
 ·rw[aa7 e4] at ho'
  simp only[Bool.true_or,Bool.or_true,aa8] at ho'
  exact⟨sa (nth a.bl k.toNat),rfl,by rw[gm,eD];exact hlit,(strs (ej (sa (nth a.bl k.toNat)).lt),bR b),by simp only[ab1,cX],by simp only[bq,aV,aR];rw[eD];omega,by simp only[eZ,eD];exact ho'⟩
 rw[ah,beq_iff_eq,beq_eq_false_iff_ne]
 refine⟨fun e5=>?_,fun e5=>?_⟩
 ·rw[aa7 e5] at ho'
  simp only[Bool.true_or,Bool.or_true,aa8] at ho'
  exact⟨sa (nth a.bl k.toNat),rfl,by rw[gm,eD];exact hlit,(strs (ej (sa (nth a.bl k.toNat)).lt),bR b),by simp only[ab1,cX],by simp only[bq,aV,aR];rw[eD];omega,by simp only[eZ,eD];exact ho'⟩
 rw[ah,beq_iff_eq,beq_eq_false_iff_ne]
 refine⟨fun e6=>?_,fun e6=>?_⟩
 ·rw[aa7 e6] at ho'
  simp only[Bool.true_or,Bool.or_true,aa8] at ho'
  exact⟨sa (nth a.bl k.toNat),rfl,by rw[gm,eD];exact hlit,(strs (ej (sa (nth a.bl k.toNat)).lt),bR b),by simp only[ab1,cX],by simp only[bq,aV,aR];rw[eD];omega,by simp only[eZ,eD];exact ho'⟩
 rw[aa5 e3,aa5 e4,aa5 e5,aa5 e6] at ho'
 simp only[Bool.false_or,aa6] at ho'
 rw[ah,beq_iff_eq,beq_eq_false_iff_ne]
 refine⟨fun e7=>?_,fun e7=>?_⟩
 ·rw[aa7 e7,Bool.true_or,ac0] at ho'
  refine⟨(a,k),rfl,⟨h1,h2,h3,h4⟩,(strs (ei (aF a) k.toNat),bR b),rfl,by simp only[bq,aV,aR];omega,ah.2 ⟨fun f1=>⟨(toStr (ae (ae (nth a.bl k.toNat) 1) 0),ai (ae (ae (nth a.bl k.toNat) 1) 1)),rfl,hcl,(strs (dM (aa (ai (ae (ae (nth a.bl k.toNat) 1) 1)))),bR b),by simp only[ab1,cX],by simp only[bq,aV,aR];omega,?_⟩,fun f1=>?_⟩⟩
  ·rw[eZ] at f1
   simp only[eZ]
   rw[f1,ac0] at ho';exact ho'
  ·rw[eZ] at f1
   rw[f1,Bool.false_and] at ho';exact ho'
 ·rw[aa5 e7,Bool.false_or] at ho'
  refine⟨_,rfl,hcl,?_⟩
  have hp:=yh (toStr (ae (ae (nth a.bl k.toNat) 3) 1)) (ay (aa (ai (ae (ae (nth a.bl k.toNat) 1) 1)))) 0 (by omega)
  have hs:(cR (ae (nth a.bl k.toNat) 3)).s=toStr (ae (ae (nth a.bl k.toNat) 3) 1):=by rw[dh];rfl
  simp only[ab1,cX,aV,hp]
  rw[aq,aa1,ah]
  rw[hs] at ho'
  refine⟨by omega,fun e8=>?_,fun e8=>?_⟩
  ·rw[e8,ac0] at ho'
   refine⟨(a,k),rfl,⟨h1,h2,h3,h4⟩,(strs (ei (aF a) k.toNat),bR b),rfl,by simp only[bq,aV,aR];omega,ah.2 ⟨fun f1=>⟨(toStr (ae (ae (nth a.bl k.toNat) 1) 0),ai (ae (ae (nth a.bl k.toNat) 1) 1)),rfl,hcl,(strs (dM (aa (ai (ae (ae (nth a.bl k.toNat) 1) 1)))),bR b),by simp only[ab1,cX],by simp only[bq,aV,aR];omega,?_⟩,fun f1=>?_⟩⟩
   ·rw[eZ] at f1
    simp only[eZ]
    rw[f1,ac0] at ho';exact ho'
   ·rw[eZ] at f1
    rw[f1,Bool.false_and] at ho';exact ho'
  ·rw[e8,Bool.false_and] at ho';exact ho'
noncomputable def Nh(κ:Kp):Env:=(Ua κ).ax 236 (aL Ve Lj Pq)
theorem e52(κ:Kp):aB (Nh κ):=(e24 κ).ax (Zf κ) (c52 κ)
theorem YK(κ:Kp):aj (Nh κ):=(Zf κ).ax aJ
def b9(l:List Bool):List AV:=l.map fun b=> .lit (.bool b)
theorem jA(l:List Bool):(b9 l).length=l.length:=by simp[b9]
theorem Il(l:List Bool)(k:Nat):Dn.toBool (nth (b9 l) k)=Rl.fh l k:=by
 unfold Rl.fh
 rw[List.getD_eq_getElem?_getD]
 induction l generalizing k with
 |nil=>rfl
 |cons a l ih=>
  cases k with
  |zero=>rfl
  |succ k=>simpa[b9,nth] using ih k
structure Jk where
 a:cm
 done:List Bool
 b:List ByteArray
 i:Int
 first:Int
abbrev GN(a:Jk):S:=sp 38 [(1, .an 0 0 (b9 a.done).length),(2, .mp 1),(3, .ptr 2 0 [] 0),(7, .int a.first),(11, .ad 72 a.a.bl),(12, .int a.a.bl.length),(13, .int a.i)] [.row 4 (b9 a.done), .map 9 4 (bR a.b), .box 66 (ar a.a)]
theorem x36(κ:Kp)(a:Jk)(es:List (Value×AV))(I:Nat->S->Prop)(n:Nat)(K:Exit->S->Prop):(vc (Nh κ) 12 187 none 2 (af (Pr κ).toProgram 187 3) (sp 38 [(1, .an 0 0 (b9 a.done).length),(2, .mp 1),(3, .ptr 2 0 [] 0),(7, .int a.first),(11, .ad 72 a.a.bl),(12, .int a.a.bl.length),(13, .int a.i)] [.row 4 (b9 a.done), .map 9 4 es, .box 66 (ar a.a)]) (bK (Nh κ) 187 3 2 I n K))=(
 letI z1:=IntKind.wrap IntKind.i64 (a.i+(1:Int))
 letI z2:=List.length (b9 a.done)
 letI z3:=List.length a.a.bl
 aD (decide (a.i<(↑z3:Int))) (aX (decide ((0:Int)<=a.i)&&decide (a.i<(↑z3:Int))) (aX (decide ((0:Int)<=a.i)&&decide (a.i<(↑z2:Int))) (aD
 (Dn.toBool (nth (b9 a.done) (0+a.i.toNat))) (∃(e0:Nat),e0<n/\I e0 (sp 38 [(1,AV.an 0 0 z2),(2,AV.mp 1),(3,AV.ptr 2 0 [] 0),(7,AV.int a.first),
 (11,AV.ad 72 a.a.bl),(12,AV.int (↑z3:Int)),(13,AV.int z1)] [Obj.row 4 (b9 a.done),Dn.Obj.map 9 4 es,Obj.box 66 (ar a.a)])) (∃(e1:cm×Int×List
 ByteArray),([AV.mp 0,ar a.a,AV.int a.i],[Dn.Obj.map 9 4 es])=([AV.mp 0,ar e1.1,AV.int e1.2.1],[Dn.Obj.map 9 4 (bR e1.2.2)])/\(aM (aF e1.1)=true/\
 (a6 (aa (bm 56 e1.1.hl e1.1.bl))<=100000/\e1.1.bl.length<=100000)/\(0:Int)<=e1.2.1/\e1.2.1<(↑(e1.1.bl.length):Int))/\aD (!oA e1.2.2 (aF e1.1)
 e1.2.1.toNat) (∃(e0:Nat),e0<n/\I e0 (sp 38 [(1,AV.an 0 0 z2),(2,AV.mp 1),(3,AV.ptr 2 0 [] 0),(7,AV.int a.first),(11,AV.ad 72 a.a.bl),(12,
 AV.int (↑z3:Int)),(13,AV.int z1)] [Obj.row 4 (b9 a.done),Dn.Obj.map 9 4 (bR e1.2.2),Obj.box 66 (ar a.a)])) (aD (toInt (ae (nth a.a.bl a.i.toNat) 0) != (1
 :Int)) (K Exit.ret (sp 38 [(6,AV.int a.i)] [Obj.row 4 (b9 a.done),Dn.Obj.map 9 4 (bR e1.2.2)])) (aD (decide (a.first<(0:Int))) (∃(e0:Nat),e0<n/\I
 e0 (sp 38 [(1,AV.an 0 0 z2),(2,AV.mp 1),(3,AV.ptr 2 0 [] 0),(7,AV.int a.i),(11,AV.ad 72 a.a.bl),(12,AV.int (↑z3:Int)),(13,AV.int z1)] [Obj.row 4
 (b9 a.done),Dn.Obj.map 9 4 (bR e1.2.2),Obj.box 66 (ar a.a)])) (∃(e0:Nat),e0<n/\I e0 (sp 38 [(1,AV.an 0 0 z2),(2,AV.mp 1),(3,AV.ptr 2 0 [] 0),(7,
 AV.int a.first),(11,AV.ad 72 a.a.bl),(12,AV.int (↑z3:Int)),(13,AV.int z1)] [Obj.row 4 (b9 a.done),Dn.Obj.map 9 4 (bR e1.2.2),Obj.box 66 (ar
 a.a)])))))))) (K (Exit.exit 0) (sp 38 [(7,AV.int a.first)] [Obj.row 4 (b9 a.done),Dn.Obj.map 9 4 es]))):=by kernel_rfl
def AF(a:Jk):Prop:=aM (aF a.a)=true/\dd a.a/\0<=a.i/\a.i<=a.a.bl.length/\a.done.length=a.a.bl.length
def yG(a:Jk):Int:=mb (aF a.a) a.done a.b (a.a.bl.length - a.i.toNat) a.i.toNat a.first
def DS(a:Jk):Out (Exit×S):= .all (fun _:Bool=>True) fun e=> .aD e (.one (.ret,sp 38 [(6, .int (yG a))] [.row 4 (b9 a.done), .map 9 4 (bR a.b)])) (.one (.exit 0,sp 38 [(7, .int (yG a))] [.row 4 (b9 a.done), .map 9 4 (bR a.b)]))
theorem l36(κ:Kp):bj (Nh κ) 12 187 3 (aO 2 GN AF DS):=by
 refine aK (fun a=>a.a.bl.length - a.i.toNat) ?_
 rintro⟨a,done,b,i,first⟩ K ⟨h1,h2,h3,h4,h5⟩ ho
 simp only at h1 h2 h3 h4 h5
 rw[show(Nh κ).P=Pr κ from rfl]
 refine Eq.mpr (x36 κ ⟨a,done,b,i,first⟩ (bR b) _ _ K) ?_
 have ho1:=ho true trivial
 have ho2:=ho false trivial
 simp only[Out.run,aD,yG] at ho1 ho2
 simp only[Nat.zero_add,Il]
 have hbl:=jA done
 have hl:=h2.2
 rw[ah,aq,aq,aa2,aa2,aa1,aa1,aa1,aa3]
 have go:i<a.bl.length->∀f:Int,mb (aF a) done b (a.bl.length - i.toNat) i.toNat first=mb (aF a) done b (a.bl.length - (i.toNat+1)) (i.toNat+1) f->
   ∃m,m<a.bl.length - i.toNat/\fq GN AF DS (fun a=>a.a.bl.length - a.i.toNat) K m (GN ⟨a,done,b,i+1,f⟩):=by
  intro hi f hf
  refine⟨_,?_,⟨a,done,b,i+1,f⟩,rfl,⟨h1,h2,by simp only;omega,by simp only;omega,h5⟩,rfl,?_⟩
  ·simp only;omega
  ·intro e _
   simp only[Out.run,yG,show(i+1).toNat=i.toNat+1 by omega,←hf]
   cases e
   ·exact ho2
   ·exact ho1
 refine⟨fun hi=>⟨⟨h3,hi⟩,⟨h3,by omega⟩,?_⟩,fun hi=>?_⟩
 ·have hn:=EK (aF a) done b (a.bl.length - (i.toNat+1)) i.toNat first
  rw[show a.bl.length - (i.toNat+1)+1=a.bl.length - i.toNat by omega] at hn
  have hk:i.toNat<a.bl.length:=by omega
  have hop:(dR (aF a).body i.toNat).op=toInt (ae (nth a.bl i.toNat) 0):=by
   rw[show(aF a).body=dg a.bl from rfl,km _ hk];rfl
  rw[hop] at hn
  rw[aW (n:=i+1) (by omega) (by omega),ah]
  refine⟨fun e=>go hi first (by rw[hn,e];rfl),fun e=>⟨(a,i,b),rfl,⟨h1,h2,h3,hi⟩,?_⟩⟩
  rw[e,Bool.false_or] at hn
  simp only[ah,Bool.not_eq_true',ab3,bne_iff_ne,bne_eq_false_iff_eq,aa1,aa3]
  refine⟨fun e1=>go hi first (by rw[hn,e1];rfl),fun e1=>⟨fun e2=>?_,fun e2=>⟨fun e3=>go hi i ?_,fun e3=>go hi first ?_⟩⟩⟩
  ·rw[hn,e1,aa5 e2] at ho1
   simp only[Bool.not_true,aa6,Bool.not_false,aa8,Int.toNat_of_nonneg h3] at ho1
   exact ho1
  ·rw[hn,e1,aa7 e2,aa7 e3]
   simp only[Bool.not_true,aa6,aa8,Int.toNat_of_nonneg h3]
  ·rw[hn,e1,aa7 e2,aa5 e3]
   simp only[Bool.not_true,aa6]
 ·rw[show a.bl.length - i.toNat=0 by omega] at ho2
  exact ho2
noncomputable def JH(κ:Kp):Env:=(Nh κ).ak 187 3 (aO 2 GN AF DS)
theorem WN(κ:Kp):aB (JH κ):=(e52 κ).ak (YK κ) (l36 κ)
theorem UR(κ:Kp):aj (JH κ):=(YK κ).ak aG
theorem y36(κ:Kp)(a:Jk)(K:AV->List Dn.Obj->Prop):(a8 (JH κ) 12 187 [ar a.a, .an 0 0 (b9 a.done).length, .mp 1] [.row 4 (b9 a.done), .map 9 4 (bR a.b)] K)=(
 letI z1:=Pg.toProgram (Env.P (Nh κ))
 af z1 187 3=af z1 187 3/\∃(e1:Jk),sp 38 [(1,AV.an 0 0 (List.length (b9 a.done))),(2,AV.mp 1),(3,AV.ptr 2 0 [] 0),(7,AV.int (-1)),(11,AV.ad 72
 a.a.bl),(12,AV.int (↑(List.length a.a.bl):Int)),(13,AV.int 0)] [Obj.row 4 (b9 a.done),Dn.Obj.map 9 4 (bR a.b),Obj.box 66 (ar a.a)]=sp 38 [(1,AV.an 0
 0 (List.length (b9 e1.done))),(2,AV.mp 1),(3,AV.ptr 2 0 [] 0),(7,AV.int e1.first),(11,AV.ad 72 e1.a.bl),(12,AV.int (↑(List.length e1.a.bl):Int)),
 (13,AV.int e1.i)] [Obj.row 4 (b9 e1.done),Dn.Obj.map 9 4 (bR e1.b),Obj.box 66 (ar e1.a)]/\(aM (aF e1.a)=true/\(a6 (aa (bm 56 e1.a.hl e1.a.bl))<=100000/\
 List.length e1.a.bl<=100000)/\(0:Int)<=e1.i/\e1.i<=(↑(List.length e1.a.bl):Int)/\e1.done.length=List.length e1.a.bl)/\∀(e0:Bool),True->aD e0
 (K (AV.int (yG e1)) [Obj.row 4 (b9 e1.done),Dn.Obj.map 9 4 (bR e1.b)]) (K (AV.int (yG e1)) [Obj.row 4 (b9 e1.done),Dn.Obj.map 9 4 (bR e1.b)])):=by kernel_rfl
def VB(a:Jk):List AV×List Dn.Obj:=([ar a.a, .an 0 0 (b9 a.done).length, .mp 1],[.row 4 (b9 a.done), .map 9 4 (bR a.b)])
def LV(a:Jk):Prop:=aM (aF a.a)=true/\dd a.a/\a.done.length=a.a.bl.length
def Qk(a:Jk):Out (AV×List Dn.Obj):= .one (.int (aE (aF a.a) a.done a.b),[.row 4 (b9 a.done), .map 9 4 (bR a.b)])
theorem fT(a:cm):(aF a).body.length=a.bl.length:=zo a.bl
theorem c36(κ:Kp):bt (JH κ) 12 187 (aL VB LV Qk):=by
 refine aZ ?_
 rintro⟨a,done,b,i,first⟩ K ⟨h1,h2,h5⟩ ho
 refine Eq.mpr (y36 κ ⟨a,done,b,i,first⟩ K) ?_
 simp only at h1 h2 h5
 have ho':K (.int (aE (aF a) done b)) [.row 4 (b9 done), .map 9 4 (bR b)]:=ho
 unfold aE at ho'
 rw[fT] at ho'
 refine⟨rfl,⟨a,done,b,0, -1⟩,rfl,⟨h1,h2,by simp only;omega,by simp only;omega,h5⟩,?_⟩
 intro e _
 cases e
 ·exact ho'
 ·exact ho'
noncomputable def Ot(κ:Kp):Env:=(JH κ).ax 187 (aL VB LV Qk)
theorem e36(κ:Kp):aB (Ot κ):=(WN κ).ax (UR κ) (c36 κ)
theorem Za(κ:Kp):aj (Ot κ):=(UR κ).ax aJ
def ints(l:List Nat):List AV:=l.map fun(k:Nat)=>AV.lit (.int .i64 (k:Int))
theorem og(l:List Nat):(ints l).length=l.length:=by simp[ints]
theorem Jn(l m:List Nat):ints (l++m)=ints l++ints m:=by simp[ints]
structure TB where
 a:cm
 ks:List Nat
 done:List Bool
 b:List ByteArray
 i:Int
noncomputable abbrev Ud(a:cm)(κ:Kp):Dn.Obj:=
 .loop (gl (Pr κ).toProgram 112 4 .ready none (fW (bG 40) [(0,ar a),(1, .ptr 0 0 [] 0),(2, .nil),(3, .lit .nilIface),(4, .ptr 1 0 [] 0),(5, .ptr 3 0 [] 0),(7, .mp 2),(8,ar a),(9, .bL 186 [.ptr 4 0 [] 0])]))
noncomputable abbrev HB(κ:Kp)(a:cm)(ks:List Nat)(b:List ByteArray):List Dn.Obj:=[.box 66 (ar a), .box 38 (.an 6 0 (ints ks).length), .map 9 4 (bR b), .box 178 (.mp 2), .box 66 (ar a),Ud a κ, .row 3 (ints ks)]
noncomputable abbrev Jt(κ:Kp)(a:TB):S:=sp 38 [(0, .cD 5),(1, .ptr 4 0 [] 0),(3, .mp 7),(4, .an 8 0 (b9 a.done).length),(13, .int a.a.bl.length),(14, .int a.i)] (HB κ a.a a.ks a.b++[.map 9 4 (bR a.b), .row 4 (b9 a.done)])
theorem x17(κ:Kp)(a:cm)(ks:List AV)(es es':List (Value×AV))(done:List AV)(i:Int)(I:Nat->S->Prop)(n:Nat)(K:Exit->S->Prop):(vc (Ot κ) 12 186 none 6 (af (Pr κ).toProgram 186 3) (sp 38 [(0, .cD 5),(1, .ptr 4 0 [] 0),(3, .mp 7),(4, .an 8 0 done.length),(13, .int a.bl.length),(14, .int i)] [.box 66 (ar a), .box 38 (.an 6 0 ks.length), .map 9 4 es, .box 178 (.mp 2), .box 66 (ar a),Ud a κ, .row 3 ks, .map 9 4 es', .row 4 done]) (bK (Ot κ) 186 3 6 I n K))=(
 letI z1:=gl Tryz.prog 112 4 LoopState.ready none (fW (bG 40) [(0,ar a),(1,AV.ptr 0 0 [] 0),(2,AV.nil),(3,AV.lit Value.nilIface),(4,AV.ptr 1 0 [] 0),
  (5,AV.ptr 3 0 [] 0),(7,AV.mp 2),(8,ar a),(9,AV.bL 186 [AV.ptr 4 0 [] 0])])
 letI z2:=sp 38 [] [Obj.box 66 (ar a),Obj.box 38 (AV.an 6 0 ks.length),Dn.Obj.map 9 4 es,Obj.box 178 (AV.mp 2),Obj.box 66 (ar a),Dn.Obj.loop z1,Obj.row 3
  ks]
 letI z3:=IntKind.wrap IntKind.i64 (i+(1:Int))
 letI z4:=Value×AV
 letI z5:=AV.an 6 0 (ks.length+1)
 aD (decide (i<(↑(a.bl.length):Int))) (∃(e5:Jk),([ar a,AV.an 0 0 done.length,AV.mp 1],[Obj.row 4 done,Dn.Obj.map 9 4 es'])=([ar e5.a,AV.an 0 0
 (List.length (b9 e5.done)),AV.mp 1],[Obj.row 4 (b9 e5.done),Dn.Obj.map 9 4 (bR e5.b)])/\(aM (aF e5.a)=true/\(a6 (aa (bm 56 e5.a.hl e5.a.bl))<=100000/\
 List.length e5.a.bl<=100000)/\e5.done.length=List.length e5.a.bl)/\aD (decide (aE (aF e5.a) e5.done e5.b<(0:Int))) (K Exit.ret z2) (aX (decide
 ((ks.length+1+1)*9<=70368744177664)) ((∃(e4:cm×Int),([ar a,AV.int (aE (aF e5.a) e5.done e5.b)],aI)=([ar e4.1,AV.int e4.2],aI)/\(aM (aF e4.1)
 =true/\(a6 (aa (bm 56 e4.1.hl e4.1.bl))<=100000/\e4.1.bl.length<=100000)/\(0:Int)<=e4.2/\e4.2<(↑(e4.1.bl.length):Int))/\∃(e3:List AV×List
 z4),([AV.mp 0,AV.ad 9 (strs (cQ (aF e4.1) e4.2.toNat))],[Dn.Obj.map 9 4 es])=([AV.mp 0,AV.ad 9 e3.1],[Dn.Obj.map 9 4 e3.2])/\bq e3/\aX (decide ((0:
 Int)<=aE (aF e5.a) e5.done e5.b)&&decide (aE (aF e5.a) e5.done e5.b<(↑(done.length):Int))) (∃(e2:cm×Int),([ar a,AV.int (aE (aF e5.a) e5.done
 e5.b)],aI)=([ar e2.1,AV.int e2.2],aI)/\(aM (aF e2.1)=true/\(a6 (aa (bm 56 e2.1.hl e2.1.bl))<=100000/\e2.1.bl.length<=100000)/\(0:Int)<=e2.2/\
 e2.2<(↑(e2.1.bl.length):Int))/\∃(e1:List AV×List z4),([AV.mp 0,AV.ad 9 (strs (cQ (aF e2.1) e2.2.toNat))],[Dn.Obj.map 9 4 (bR e5.b)])=([AV.mp 0,
 AV.ad 9 e1.1],[Dn.Obj.map 9 4 e1.2])/\bq e1/\∃(e0:Nat),e0<n/\I e0 (sp 38 [(0,AV.cD 5),(1,AV.ptr 4 0 [] 0),(3,AV.mp 7),(4,AV.an 8 0
 done.length),(13,AV.int (↑(a.bl.length):Int)),(14,AV.int z3)] [Obj.box 66 (ar a),Obj.box 38 z5,Dn.Obj.map 9 4 (fF e3.2 e3.1),Obj.box 178 (AV.mp 2),
 Obj.box 66 (ar a),Dn.Obj.loop z1,Obj.row 3 (List.take ks.length ks++[AV.int (aE (aF e5.a) e5.done e5.b)]),Dn.Obj.map 9 4 (fF e1.2 e1.1),Obj.row 4 (cg (b9
 e5.done) (0+Int.toNat (aE (aF e5.a) e5.done e5.b)) (AV.bool true))])))/\∃(e4:cm×Int),([ar a,AV.int (aE (aF e5.a) e5.done e5.b)],aI)=([ar e4.1,
 AV.int e4.2],aI)/\(aM (aF e4.1)=true/\(a6 (aa (bm 56 e4.1.hl e4.1.bl))<=100000/\e4.1.bl.length<=100000)/\(0:Int)<=e4.2/\e4.2<(↑(e4.1.bl.length):
 Int))/\∃(e3:List AV×List z4),([AV.mp 0,AV.ad 9 (strs (cQ (aF e4.1) e4.2.toNat))],[Dn.Obj.map 9 4 es])=([AV.mp 0,AV.ad 9 e3.1],[Dn.Obj.map 9 4
 e3.2])/\bq e3/\aX (decide ((0:Int)<=aE (aF e5.a) e5.done e5.b)&&decide (aE (aF e5.a) e5.done e5.b<(↑(done.length):Int))) (∃(e2:cm×Int),([ar a,
 AV.int (aE (aF e5.a) e5.done e5.b)],aI)=([ar e2.1,AV.int e2.2],aI)/\(aM (aF e2.1)=true/\(a6 (aa (bm 56 e2.1.hl e2.1.bl))<=100000/\e2.1.bl.length<=
 100000)/\(0:Int)<=e2.2/\e2.2<(↑(e2.1.bl.length):Int))/\∃(e1:List AV×List z4),([AV.mp 0,AV.ad 9 (strs (cQ (aF e2.1) e2.2.toNat))],[Dn.Obj.map 9
 4 (bR e5.b)])=([AV.mp 0,AV.ad 9 e1.1],[Dn.Obj.map 9 4 e1.2])/\bq e1/\∃(e0:Nat),e0<n/\I e0 (sp 38 [(0,AV.cD 5),(1,AV.ptr 4 0 [] 0),(3,AV.mp 7),
 (4,AV.an 8 0 done.length),(13,AV.int (↑(a.bl.length):Int)),(14,AV.int z3)] [Obj.box 66 (ar a),Obj.box 38 z5,Dn.Obj.map 9 4 (fF e3.2 e3.1),Obj.box 178
 (AV.mp 2),Obj.box 66 (ar a),Dn.Obj.loop z1,Obj.row 3 (List.take ks.length ks++[AV.int (aE (aF e5.a) e5.done e5.b)]),Dn.Obj.map 9 4 (fF e1.2 e1.1),Obj.row
 4 (cg (b9 e5.done) (0+Int.toNat (aE (aF e5.a) e5.done e5.b)) (AV.bool true))]))))) (K (Exit.exit 0) z2)):=by kernel_rfl
theorem qg: ∀(l:List Bool) (k:Nat),cg (b9 l) k (.lit (.bool true))=b9 (l.set k true)
 |[],_=>rfl
 |_::_,0=>rfl
 |a::l,k+1=>by
  have:=qg l k
  simp only[b9] at this
  simp only[b9,ac1,cg,List.set_cons_succ,this]
noncomputable def eV(a:TB):List Nat:=oh (aF a.a) (a.a.bl.length - a.i.toNat) a.done a.b
def Hz(a:TB):Prop:=aM (aF a.a)=true/\dd a.a/\0<=a.i/\a.i<=a.a.bl.length/\a.done.length=a.a.bl.length/\a.ks.length<=a.i.toNat
noncomputable def K0(κ:Kp)(a:TB):Out (Exit×S):= .all (fun _:Bool=>True) fun e=> .aD e (.one (.ret,sp 38 [] (HB κ a.a (a.ks++eV a) (a.b++eU (aF a.a) (eV a)))))
 (.one (.exit 0,sp 38 [] (HB κ a.a (a.ks++eV a) (a.b++eU (aF a.a) (eV a)))))
theorem r5{a:cm}(h:dd a){k:Nat}(hk:k<a.bl.length):(cQ (aF a) k).length<=200000:=by
 have hlit:=kE h hk
 have hol:=rK h k
 have hc:=HE (cK (nth a.bl k))
 have hv:=cx [(cK (nth a.bl k)).x]
 have e1:=cx [(cK (nth a.bl k)).x,(cK (nth a.bl k)).y]
 have e2:=cx (cK (nth a.bl k)).a.l
 unfold cQ
 rw[show(aF a).body=dg a.bl from rfl,km _ hk]
 cases decide (7<=(cK (nth a.bl k)).op) with
 |true=>rw[aa8,ab9];omega
 |false=>
  rw[aa6]
  simp only[ej,iQ,ab9] at hlit⊢;omega
theorem l17(κ:Kp):bj (Ot κ) 12 186 3 (aO 6 (Jt κ) Hz (K0 κ)):=by
 refine aK (fun a=>a.a.bl.length - a.i.toNat) ?_
 rintro⟨a,ks,done,b,i⟩ K ⟨h1,h2,h3,h4,h5,h6⟩ ho
 simp only at h1 h2 h3 h4 h5 h6
 rw[show(Ot κ).P=Pr κ from rfl]
 refine Eq.mpr (x17 κ a (ints ks) (bR b) (bR b) (b9 done) i _ _ K) ?_
 have ho1:=ho true trivial
 have ho2:=ho false trivial
 simp only[Out.run,aD,eV] at ho1 ho2
 simp only[and_self]
 have hbl:=jA done
 have hil:=og ks
 have hl:=h2.2
 rw[ah,aa1,aa3]
 refine⟨fun hi=>⟨⟨a,done,b,0,0⟩,rfl,⟨h1,h2,h5⟩,?_⟩,fun hi=>?_⟩
 ·have hw:=D0 (aF a) (a.bl.length - (i.toNat+1)) done b
  rw[show a.bl.length - (i.toNat+1)+1=a.bl.length - i.toNat by omega] at hw
  rw[ah,aa1,aa3]
  refine⟨fun e=>?_,fun e=>?_⟩
  ·rw[hw,aa7 e] at ho1
   simp only[aa8,List.append_nil,eU,List.flatMap_nil] at ho1
   exact ho1
  ·rw[hw,aa5 e,aa6] at ho1 ho2
   rcases qh (aF a) done b with e0|⟨e1,e2,e3,_⟩
   ·rw[e0] at e;omega
   have e2':=e2
   rw[fT] at e2'
   have hg:=r5 h2 e2'
   rw[aq,aa1]
   refine⟨by omega,(a,aE (aF a) done b),rfl,⟨h1,h2,e1,by simp only;omega⟩,(strs (cQ (aF a) (aE (aF a) done b).toNat),bR b),rfl,by simp only[bq,aV,aR];omega,?_⟩
   rw[aq,aa2,aa1,aa1]
   refine⟨⟨e1,by show aE (aF a) done b<_;omega⟩,(a,aE (aF a) done b),rfl,⟨h1,h2,e1,by simp only;omega⟩,(strs (cQ (aF a) (aE (aF a) done b).toNat),bR b),rfl,by simp only[bq,aV,aR];omega,?_⟩
   rw[aW (n:=i+1) (by omega) (by omega)]
   refine⟨_,?_,⟨a,ks++[(aE (aF a) done b).toNat],done.set (aE (aF a) done b).toNat true,b++cQ (aF a) (aE (aF a) done b).toNat,i+1⟩,?_,⟨h1,h2,by simp only;omega,by simp only;omega,by simpa using h5,by simp only[ab9,List.length_singleton];omega⟩,rfl,?_⟩
   ·simp only;omega
   ·simp only[List.take_length]
    simp only[Jt,HB,List.cons_append,List.nil_append,Nat.zero_add,qg,lY,jA,List.length_set,Jn,og,ab9,List.length_singleton]
    simp only[ints,ac1,ac2,Int.toNat_of_nonneg e1,List.length_singleton]
   ·have hg2: ∀l,b++eU (aF a) ((aE (aF a) done b).toNat::l)=(b++cQ (aF a) (aE (aF a) done b).toNat)++eU (aF a) l:=fun l=>by
     simp only[eU,List.flatMap_cons,List.append_assoc]
    have hk2: ∀l,ks++(aE (aF a) done b).toNat::l=(ks++[(aE (aF a) done b).toNat])++l:=fun l=>by simp
    rw[hg2,hk2] at ho1 ho2
    intro f _
    simp only[Out.run,eV,show(i+1).toNat=i.toNat+1 by omega]
    cases f
    ·exact ho2
    ·exact ho1
 ·rw[show a.bl.length - i.toNat=0 by omega] at ho2
  simp only[oh,List.append_nil,eU,List.flatMap_nil] at ho2
  exact ho2
noncomputable def I6(κ:Kp):Env:=(Ot κ).ak 186 3 (aO 6 (Jt κ) Hz (K0 κ))
theorem Yb(κ:Kp):aB (I6 κ):=(e36 κ).ak (Za κ) (l17 κ)
theorem Oe(κ:Kp):aj (I6 κ):=(Za κ).ak aG
end Go.Proofs.YthaiinlfnommnaaGreatDoor
namespace Go.Proofs.YthaiinlfnommnaaGreatDoor
open Go Go.Dn Go.Rl Go.Proofs Go.RowKit Go.Extern.Stop Go.Stop Go.Extern
theorem VH(v:Value)(xT:TypeId)(w:World):(Instr.typeAssert (.iface 278 v) xT 284 true).run Tryz.prog w= .ok (.tuple #[.nilIface, .bool false]) w:=run_typeAssert_lacksB Tryz.underlying284 (by kernel_rfl) (by kernel_rfl) v xT w
theorem Ip(v:Value)(xT:TypeId)(w:World):(Instr.typeAssert (.iface 278 v) xT 286 true).run Tryz.prog w= .ok (.tuple #[.nilIface, .bool false]) w:=run_typeAssert_lacksB Tryz.underlying286 (by kernel_rfl) (by kernel_rfl) v xT w
theorem Ct(v:Value)(xT:TypeId)(w:World):(Instr.typeAssert (.iface 278 v) xT 288 true).run Tryz.prog w= .ok (.tuple #[.iface 278 v, .bool true]) w:=run_typeAssert_hasB Tryz.underlying288 (by kernel_rfl) v xT w
theorem xB(v:Value)(w:World):(Go.method 443 278 v "Unwrap").run Tryz.prog w= .ok (286,v) w:=by kernel_rfl
set_option maxRecDepth 4000 in
theorem Iz(a:Addr)(w:World):
  Calls Tryz.prog 185 #[.iface 306 (.pointer (some a)), .iface 306 (.pointer (some a)), .bool true] w fun e w'=>e= .returned (.bool true)/\w'=w:=by
 obtain⟨i,hi,hcmp⟩:=Option.map_eq_some_iff.1 Fw
 obtain⟨j,hj,hjs⟩:=Option.map_eq_some_iff.1 Em
 have heq:=run_eql_iface_ptr_same (P:=Tryz.prog) w a Tryz.underlying170 Tryz.underlying306 hi hcmp hj
 go_enter Tryz.func185,Tryz.ntmps185
 go_wp2
 refine wp_loop_rounds 1 ?_
 rw[rounds_succ]
 go_wp2
 go_ret
 exact⟨rfl,rfl⟩
set_option maxRecDepth 8000 in
theorem Oj(ja ra b:Addr)(cap:Nat)(w:World)(h1:w.cell? ja=some (.slice (some ra) 1 cap))(h2:w.cell? ra=some (.iface 306 (.pointer (some b)))):
  Calls Tryz.prog 113 #[.iface 278 (.pointer (some ja)), .iface 306 (.pointer (some b))] w fun e w'=>e= .returned (.bool true)/\w'=w:=by
 have h8:= @run_callFunc_extern Tryz.prog 184 _ Extern.ReflectliteType.typeOf Tryz.func184 (by kernel_rfl) (by kernel_rfl) (by kernel_rfl) (by kernel_rfl)
 have h32:= @run_callFunc_extern Tryz.prog 290 _ (Extern.ReflectliteType.method fun t=>do Go.Extern.Rtype.noPackHeld "Comparable" t;pure (.bool (←typeInfo t).comparable)) Tryz.func290 (by kernel_rfl) (by kernel_rfl) (by kernel_rfl) (by kernel_rfl)
 have tT:=uO
 have cT:=mX
 have mR:=iE
 have hne:=run_eql_iface_types (P:=Tryz.prog) 278 306 (.pointer (some ja)) (.pointer (some b)) Tryz.underlying170 (by decide)
 have n1:=VH
 have n2:=Ip
 have n3:=Ct
 have mU:=xB
 go_enter Tryz.func113,Tryz.ntmps113
 go_wp2
 refine wp_loop_rounds 1 ?_
 rw[rounds_succ]
 go_wp2
 refine wp_loop_rounds 1 ?_
 rw[rounds_succ]
 go_wp2_with (first|(go_at_call 185;refine(Iz b _).mono ?_;rintro e w' ⟨rfl,rfl⟩))
 all_goals (go_ret;exact⟨rfl,rfl⟩)
end Go.Proofs.YthaiinlfnommnaaGreatDoor
namespace Go.Proofs.YthaiinlfnommnaaGreatDoor
open Go Go.Dn Go.Rl Go.Proofs
attribute [local irreducible] a8 vc
set_option maxRecDepth 20000
noncomputable def Sy(κ:Kp):Env:=(I6 κ).ak 183 3 (la (I6 κ) 12 183 3 3)
noncomputable def TM(κ:Kp):Env:=(Sy κ).ak 183 12 (la (Sy κ) 12 183 12 3)
theorem eJ1(κ:Kp):aB (Sy κ):=(Yb κ).ak (Oe κ) (sr (Oe κ) 3)
theorem VU(κ:Kp):aj (Sy κ):=(Oe κ).ak (lg (Oe κ) 3)
theorem eJ2(κ:Kp):aB (TM κ):=(eJ1 κ).ak (VU κ) (sr (VU κ) 3)
theorem Zm(κ:Kp):aj (TM κ):=(VU κ).ak (lg (VU κ) 3)
theorem yJ(κ:Kp)(K:AV->List Dn.Obj->Prop):(a8 (TM κ) 12 183 [.ad 170 [.lit (mg κ)]] [] K)=(
 letI z1:=Pg.toProgram (Env.P (I6 κ))
 letI z2:=Pg.toProgram (Env.P (Sy κ))
 af z1 183 3=af z1 183 3/\af z2 183 12=af z2 183 12/\K (AV.jj 278 (AV.ptr 0 0 [] 0)) [Obj.box 280 (AV.agg [AV.an 1 0 1]),Obj.row 170 [AV.lit (Value.iface
 306 (Value.pointer (some (Kp.stuck κ))))]]):=by kernel_rfl
abbrev An:AV:= .jj 278 (.ptr 0 0 [] 0)
abbrev Ai(κ:Kp):List Dn.Obj:=[.box 280 (.agg [.an 1 0 1]), .row 170 [.lit (mg κ)]]
def Zr(κ:Kp)(_:Unit):List AV×List Dn.Obj:=([.ad 170 [.lit (mg κ)]],[])
def Gj(_:Unit):Prop:=True
def UP(κ:Kp)(_:Unit):Out (AV×List Dn.Obj):= .one (An,Ai κ)
theorem cJ(κ:Kp):bt (TM κ) 12 183 (aL (Zr κ) Gj (UP κ)):=by
 refine aZ ?_
 rintro⟨⟩ K _ ho
 refine Eq.mpr (yJ κ K) ?_
 exact⟨rfl,rfl,ho⟩
def ZK(κ:Kp)(_:Unit):List AV×List Dn.Obj:=([An, .lit (mg κ)],Ai κ)
def SK(κ:Kp)(_:Unit):Out (AV×List Dn.Obj):= .one (.bool true,Ai κ)
theorem qI(κ:Kp): ∀args st K,aL (ZK κ) Gj (SK κ) args st K->cM (Pr κ) 113 args st K:=by
 rintro args st K ⟨_,h1,_,h3⟩
 obtain⟨rfl,rfl⟩:=Prod.mk.inj h1
 refine⟨⟨_,Tryz.func113,rfl⟩,fun C vs hC hI hst hm=>?_⟩
 obtain⟨vs⟩:=vs
 match vs,hm with
 | [v1,v2],hm=>
  simp only[MT] at hm
  obtain⟨a1,a2,a3,b1,b2,b3,_⟩:=hm
  have hv2:v2=mg κ:=aQ (C:=C) ⟨b1,b2,b3⟩
  have r1:Rel C An v1:=⟨a1,a2,a3⟩
  obtain⟨c1,_⟩:=gF r1 rfl (by simp)
  simp only[M,c1] at a3
  obtain⟨u,u1,u2,u3,u4,v,v1',v2',v3⟩:=a3
  have hv1:v1= .iface 278 u:=by simpa using u1
  have hu:u.cells= #[u]:=gM (by rw[u2];rfl)
  have huv:v=u:=by rw[hu] at v1';simpa using v1'.symm
  subst huv
  have o0:=hI.obj 0 (by rw[hst];simp)
  have o1:=hI.obj 1 (by rw[hst];simp)
  rw[hst] at o0 o1
  simp only[aw,j4] at o0 o1
  obtain⟨_,_,c,e,g1,_,g2⟩:=o0
  simp only[M,ML] at g2
  obtain⟨⟨_,s,s1,_,s2⟩,_⟩:=g2
  have s3:=s2.1 170 [.lit (mg κ)] (by rw[hst];rfl)
  obtain⟨_,s3⟩:=s3
  rcases s3 with⟨_,_,_,s3⟩|⟨n1,cap,q,rfl,s3,s4,_⟩
  ·cases s3
  have hq:q=⟨(C.ι 1).block,0,none⟩:=by
   rcases s3 with s3|⟨s3,s5⟩
   ·rw[s3,Nat.zero_mul]
   ·omega
  subst hq
  obtain⟨_,o1⟩:=o1
  rcases o1 with⟨o1,_⟩|⟨_,_,c',k1,_,_,_,k2⟩
  ·rw[n1] at o1;cases o1
  simp only[MR,M] at k2
  obtain⟨⟨k2,_⟩,_⟩:=k2
  have hp:v= .pointer (some ⟨(C.ι 0).block,0,none⟩):=(v3.2.1 280 _ (by rw[hst];rfl)).2
  subst hp
  subst hv1 hv2
  refine(callsIn_wide.2 (Oj ⟨(C.ι 0).block,0,none⟩ ⟨(C.ι 1).block,0,none⟩ κ.stuck cap C.w s1 k2)).mono ?_
  rintro e' w' ⟨rfl,rfl⟩
  exact⟨_, .bool true,C,rfl,rfl,rfl,hI,a7 rfl,Ext.refl _ (by rw[hst];exact Nat.le_refl _),by rw[hst];exact h3⟩
 |[],hm=>simp[MT] at hm
 |[_],hm=>simp[MT] at hm
 |_::_::_::_,hm=>simp[MT] at hm
noncomputable def EJ(κ:Kp):Env:=((TM κ).ax 183 (aL (Zr κ) Gj (UP κ))).ax 113 (aL (ZK κ) Gj (SK κ))
theorem eJ(κ:Kp):aB (EJ κ):=((eJ2 κ).ax (Zm κ) (cJ κ)).gZ (qI κ)
theorem mJ(κ:Kp):aj (EJ κ):=((Zm κ).ax aJ).ax aJ
theorem y17(κ:Kp)(a:cm)(K:AV->List Dn.Obj->Prop):(a8 (EJ κ) 12 112 [ar a] [] K)=(
 letI z2:=Value.iface 306 (Value.pointer (some (Kp.stuck κ)))
 letI z1:=∃(e0:Unit),([AV.ad 170 [AV.lit z2]],aI)=([AV.ad 170 [AV.lit z2]],aI)/\True/\K (AV.bh [AV.nil,AV.jj 278 (AV.ptr 0 0 [] 0)]) [Obj.box 280
  (AV.agg [AV.an 1 0 1]),Obj.row 170 [AV.lit z2]]
 letI z3:=a.bl.length
 letI z4:=Value×AV
 letI z5:=Pg.toProgram (Env.P (Ot κ))
 letI z6:=Int.toNat (↑z3:Int)
 aX (true&&decide ((↑z3:Int)<=(↑z3:Int))&&decide ((Int.toNat (↑z3:Int)+1)*2<=70368744177664)&&true) (af z5 186 3=af z5 186 3/\∃(e4:TB),
 sp 38 [(0,AV.cD 5),(1,AV.ptr 4 0 [] 0),(3,AV.mp 7),(4,AV.an 8 0 z6),(13,AV.int (↑z3:Int)),(14,AV.int 0)] [Obj.box 66 (ar a),Obj.box 38 (AV.an 6 0
 0),Dn.Obj.map 9 4 [],Obj.box 178 (AV.mp 2),Obj.box 66 (ar a),Dn.Obj.loop (gl Tryz.prog 112 4 LoopState.ready none (fW (bG 40) [(0,ar a),(1,AV.ptr 0 0 []
 0),(2,AV.nil),(3,AV.lit Value.nilIface),(4,AV.ptr 1 0 [] 0),(5,AV.ptr 3 0 [] 0),(7,AV.mp 2),(8,ar a),(9,AV.bL 186 [AV.ptr 4 0 [] 0])])),Obj.row 3
 [],Dn.Obj.map 9 4 [],Obj.row 4 (fN (AV.bool false) z6)]=sp 38 [(0,AV.cD 5),(1,AV.ptr 4 0 [] 0),(3,AV.mp 7),(4,AV.an 8 0 (List.length (b9 e4.done))),
 (13,AV.int (↑(List.length e4.a.bl):Int)),(14,AV.int e4.i)] [Obj.box 66 (ar e4.a),Obj.box 38 (AV.an 6 0 (List.length (ints e4.ks))),Dn.Obj.map 9 4 (bR
 e4.b),Obj.box 178 (AV.mp 2),Obj.box 66 (ar e4.a),Dn.Obj.loop (gl Tryz.prog 112 4 LoopState.ready none (fW (bG 40) [(0,ar e4.a),(1,AV.ptr 0 0 [] 0),(2,
 AV.nil),(3,AV.lit Value.nilIface),(4,AV.ptr 1 0 [] 0),(5,AV.ptr 3 0 [] 0),(7,AV.mp 2),(8,ar e4.a),(9,AV.bL 186 [AV.ptr 4 0 [] 0])])),Obj.row 3
 (ints e4.ks),Dn.Obj.map 9 4 (bR e4.b),Obj.row 4 (b9 e4.done)]/\(aM (aF e4.a)=true/\(a6 (aa (bm 56 e4.a.hl e4.a.bl))<=100000/\List.length e4.a.bl<=
 100000)/\(0:Int)<=e4.i/\e4.i<=(↑(List.length e4.a.bl):Int)/\e4.done.length=List.length e4.a.bl/\e4.ks.length<=e4.i.toNat)/\∀(e3:Bool),True->
 aD e3 (aD (decide ((↑(List.length (ints (e4.ks++eV e4))):Int)<(↑(List.length e4.a.bl):Int))) (z1/\z1) ((∃(e2:List AV),([AV.ad 56 e4.a.hl],aI)=
 ([AV.ad 56 e2],aI)/\bF e2/\∃(e1:List AV×List z4),([AV.mp 0,AV.ad 9 (List.take (List.length (ay (aa e2))) (List.drop 0 (strs (ay (aa e2)))))],
 [Dn.Obj.map 9 4 (bR (e4.b++eU (aF e4.a) (eV e4)))])=([AV.mp 0,AV.ad 9 e1.1],[Dn.Obj.map 9 4 e1.2])/\bq e1/\aD (!gD e1.2 e1.1) z1 (K (AV.bh [AV.an 0 0
 (List.length (ints (e4.ks++eV e4))),AV.lit Value.nilIface]) [Obj.row 3 (ints (e4.ks++eV e4))]))/\∃(e2:List AV),([AV.ad 56 e4.a.hl],aI)=([AV.ad 56
 e2],aI)/\bF e2/\∃(e1:List AV×List z4),([AV.mp 0,AV.ad 9 (List.take (List.length (ay (aa e2))) (List.drop 0 (strs (ay (aa e2)))))],[Dn.Obj.map 9 4 (bR
 (e4.b++eU (aF e4.a) (eV e4)))])=([AV.mp 0,AV.ad 9 e1.1],[Dn.Obj.map 9 4 e1.2])/\bq e1/\aD (!gD e1.2 e1.1) z1 (K (AV.bh [AV.an 0 0 (List.length (ints
 (e4.ks++eV e4))),AV.lit Value.nilIface]) [Obj.row 3 (ints (e4.ks++eV e4))]))) (aD (decide ((↑(List.length (ints (e4.ks++eV e4))):Int)<(↑(List.length
 e4.a.bl):Int))) (z1/\z1) ((∃(e2:List AV),([AV.ad 56 e4.a.hl],aI)=([AV.ad 56 e2],aI)/\bF e2/\∃(e1:List AV×List z4),([AV.mp 0,AV.ad 9
 (List.take (List.length (ay (aa e2))) (List.drop 0 (strs (ay (aa e2)))))],[Dn.Obj.map 9 4 (bR (e4.b++eU (aF e4.a) (eV e4)))])=([AV.mp 0,AV.ad 9 e1.1],
 [Dn.Obj.map 9 4 e1.2])/\bq e1/\aD (!gD e1.2 e1.1) z1 (K (AV.bh [AV.an 0 0 (List.length (ints (e4.ks++eV e4))),AV.lit Value.nilIface]) [Obj.row 3 (ints
 (e4.ks++eV e4))]))/\∃(e2:List AV),([AV.ad 56 e4.a.hl],aI)=([AV.ad 56 e2],aI)/\bF e2/\∃(e1:List AV×List z4),([AV.mp 0,AV.ad 9 (List.take
 (List.length (ay (aa e2))) (List.drop 0 (strs (ay (aa e2)))))],[Dn.Obj.map 9 4 (bR (e4.b++eU (aF e4.a) (eV e4)))])=([AV.mp 0,AV.ad 9 e1.1],[Dn.Obj.map 9
 4 e1.2])/\bq e1/\aD (!gD e1.2 e1.1) z1 (K (AV.bh [AV.an 0 0 (List.length (ints (e4.ks++eV e4))),AV.lit Value.nilIface]) [Obj.row 3 (ints (e4.ks++eV
 e4))]))))):=by kernel_rfl
def BU(a:cm):List AV×List Dn.Obj:=([ar a],[])
def J5(a:cm):Prop:=aM (aF a)=true/\dd a
noncomputable def Js(κ:Kp)(a:cm):Out (AV×List Dn.Obj):= .aD (iO (aF a)) (.one (.bh [.an 0 0 (b8 (aF a)).length, .lit .nilIface],[.row 3 (ints (b8 (aF a)))])) (.one (.bh [.nil,An],Ai κ))
theorem s9(n:Nat):fN (.lit (.bool false)) n=b9 (List.replicate n false):=by simp[fN,b9]
theorem c17(κ:Kp):bt (EJ κ) 12 112 (aL BU J5 (Js κ)):=by
 refine aZ ?_
 rintro a K ⟨h1,h2⟩ ho
 refine Eq.mpr (y17 κ a K) ?_
 simp only[and_self]
 simp only[Js,Out.run,ah] at ho
 have hl:=h2.2
 have hw:eV ⟨a,[],List.replicate a.bl.length false,[],0⟩=b8 (aF a):=by
  unfold eV b8
  rw[fT];rfl
 have hc:=o5 h2
 have hv:=cx (aa a.hl)
 have hs:iO (aF a)=(decide (a.bl.length<=(b8 (aF a)).length)&&hasB (eU (aF a) (b8 (aF a))) (ay (aa a.hl))):=by
  unfold iO;rw[fT];rfl
 rw[hs] at ho
 simp only[aq,aa2,aa1,Int.toNat_natCast]
 refine⟨⟨⟨⟨trivial,by omega⟩,by omega⟩,trivial⟩,trivial,⟨a,[],List.replicate a.bl.length false,[],0⟩,?_,⟨h1,h2,by simp only;omega,by simp only;omega,by simp,by simp⟩,?_⟩
 ·simp only[s9,jA,List.length_replicate];rfl
 ·intro y _
  rw[hw]
  cases y<;>
  ·simp only[og,List.nil_append,ah,aa1,aa3,Bool.not_eq_true',ab3,reduceCtorEq,false_implies,true_implies,and_true,true_and]
   refine⟨fun e=>?_,fun e=>?_⟩
   ·rw[aa5 (show ¬ a.bl.length<=(b8 (aF a)).length by omega),Bool.false_and] at ho
    exact⟨(),ho.2 rfl⟩
   ·rw[aa7 (show a.bl.length<=(b8 (aF a)).length by omega),ac0] at ho
    refine⟨a.hl,rfl,hc,(strs (ay (aa a.hl)),bR (eU (aF a) (b8 (aF a)))),?_,?_,?_⟩
    ·simp only[ab1,cX]
    ·simp only[bq,aV,aR];omega
    ·simp only[eZ]
     exact⟨fun e2=>⟨(),ho.2 e2⟩,fun e2=>ho.1 e2⟩
noncomputable def T9(κ:Kp):Env:=(EJ κ).ax 112 (aL BU J5 (Js κ))
theorem e17(κ:Kp):aB (T9 κ):=(eJ κ).ax (mJ κ) (c17 κ)
theorem YI(κ:Kp):aj (T9 κ):=(mJ κ).ax aJ
theorem y7(κ:Kp)(a:cm)(K:AV->List Dn.Obj->Prop):(a8 (T9 κ) 12 70 [ar a] [] K)=(
 letI z1:=Value.iface 306 (Value.pointer (some (Kp.stuck κ)))
 aX (decide (a.hl.length<=9223372036854775807)&&decide (a.bl.length<=9223372036854775807)) (aD (!aM {head:={rel:=a.rel,l:=aa a.hl},body:=dg a.bl}) (K (AV.bh [AV.nil,AV.int 30]) []) (∃(e1:cm),([AV.agg [AV.agg [AV.str a.rel,AV.ad 56 a.hl],AV.ad 72 a.bl,AV.int a.line]],aI)=([AV.agg [AV.agg [AV.str e1.rel,AV.ad 56 e1.hl],AV.ad 72 e1.bl,AV.int e1.line]],aI)/\(aM (aF e1)=true/\a6 (aa (bm 56 e1.hl e1.bl))<=100000/\e1.bl.length<=100000)/\aD (iO (aF e1)) (K (AV.bh [AV.an 0 0 (List.length (b8 (aF e1))),AV.int 0]) [Obj.row 3 (ints (b8 (aF e1)))]) (∃(e0:Unit),([AV.jj 278 (AV.ptr 0 0 [] 0),AV.lit z1],[Obj.box 280 (AV.agg [AV.an 1 0 1]),Obj.row 170 [AV.lit z1]])=([AV.jj 278 (AV.ptr 0 0 [] 0),AV.lit z1],[Obj.box 280 (AV.agg [AV.an 1 0 1]),Obj.row 170 [AV.lit z1]])/\True/\K (AV.bh [AV.nil,AV.int 60]) [])))):=by kernel_rfl
def HX(a:cm):Out (AV×List Dn.Obj):= .aD (aM (aF a)) (.aD (iO (aF a)) (.one (.bh [.an 0 0 (b8 (aF a)).length, .int 0],[.row 3 (ints (b8 (aF a)))])) (.one (.bh [.nil, .int 60],[]))) (.one (.bh [.nil, .int 30],[]))
theorem c7(κ:Kp):bt (T9 κ) 12 70 (aL BU dd HX):=by
 refine aZ ?_
 rintro a K h2 ho
 refine Eq.mpr (y7 κ a K) ?_
 simp only[HX,Out.run,ah] at ho
 have hc:=o5 h2
 have hl1:=fA (aa a.hl)
 rw[eP] at hl1
 have hl:=h2.2
 rw[aq,aa2,aa1,aa1]
 refine⟨⟨by omega,by omega⟩,?_⟩
 have hr:aM ⟨⟨a.rel,aa a.hl⟩,dg a.bl⟩=aM (aF a):=rfl
 rw[hr]
 simp only[ah,Bool.not_eq_true',ab3]
 refine⟨fun e=>ho.2 e,fun e=>⟨a,rfl,⟨e,h2⟩,fun e2=>(ho.1 e).1 e2,fun e2=>⟨(),trivial,trivial,(ho.1 e).2 e2⟩⟩⟩
noncomputable def E7(κ:Kp):Env:=(T9 κ).ax 70 (aL BU dd HX)
theorem e7(κ:Kp):aB (E7 κ):=(e17 κ).ax (YI κ) (c7 κ)
theorem m7(κ:Kp):aj (E7 κ):=(YI κ).ax aJ
def eL(es:List (Value×AV))(s:ByteArray):Bool:=lO es s
structure DB where
 vs:List ByteArray
 i:Int
 es:List (Value×AV)
abbrev CG(R:List AV)(es:List (Value×AV)):List Dn.Obj:=[.row 9 R, .box 178 (.mp 2), .map 9 4 es]
abbrev Na:AV:= .bL 125 [.ptr 1 0 [] 0]
abbrev IG(a:DB):S:=sp 19 [(0, .an 0 0 (strs a.vs).length),(1,Na),(7, .int (strs a.vs).length),(8, .int a.i)] (CG (strs a.vs) a.es)
theorem xFB(κ:Kp)(a:DB)(I:Nat->S->Prop)(n:Nat)(K:Exit->S->Prop):(vc (oC κ) 12 190 none 3 (af (Pr κ).toProgram 190 2) (IG a) (bK (oC κ) 190 2 3 I n K))=(
 letI z1:=List.length (strs a.vs)
 aD (decide (a.i<(↑z1:Int))) (aX (decide ((0:Int)<=a.i)&&decide (a.i<(↑z1:Int))) (aD (!Dn.toBool (dp a.es (Value.string (toStr (nth (strs a.vs) (0+
 a.i.toNat)))) (AV.bool false))) (K Exit.ret (sp 19 [(4,AV.int a.i)] [Obj.row 9 (strs a.vs),Obj.box 178 (AV.mp 2),Dn.Obj.map 9 4 a.es])) (∃(e0:Nat),e0<n
 /\I e0 (sp 19 [(0,AV.an 0 0 z1),(1,AV.bL 125 [AV.ptr 1 0 [] 0]),(7,AV.int (↑z1:Int)),(8,AV.int (IntKind.wrap IntKind.i64 (a.i+(1:Int))))] [Obj.row
 9 (strs a.vs),Obj.box 178 (AV.mp 2),Dn.Obj.map 9 4 a.es])))) (K (Exit.exit 0) (sp 19 [] [Obj.row 9 (strs a.vs),Obj.box 178 (AV.mp 2),Dn.Obj.map 9 4 a.es]))):=by kernel_rfl
def D1(a:DB):Prop:=a.vs.length<=aR/\0<=a.i/\a.i<=a.vs.length/\∀s,s∈a.vs.take a.i.toNat->eL a.es s=true
def Ci(a:DB):Out (Exit×S):=
 .aD (a.vs.all (eL a.es)) (.one (.exit 0,sp 19 [] (CG (strs a.vs) a.es)))
  (.all (fun j:Int=>um (eL a.es) a.vs j) fun j=> .one (.ret,sp 19 [(4, .int j)] (CG (strs a.vs) a.es)))
theorem lFB(κ:Kp):bj (oC κ) 12 190 2 (aO 3 IG D1 Ci):=by
 refine aK (fun a=>a.vs.length - a.i.toNat) ?_
 rintro⟨vs,i,es⟩ K ⟨h1,h2,h3,h4⟩ ho
 simp only at h1 h2 h3 h4
 rw[show(oC κ).P=Pr κ from rfl]
 refine Eq.mpr (xFB κ ⟨vs,i,es⟩ _ _ K) ?_
 simp only[aR] at h1
 simp only[Ci,Out.run,ah] at ho
 have hl:=aV vs
 simp only[aV,Nat.zero_add]
 have fin:i<vs.length->∀(hi:i.toNat<vs.length),(eL es vs[i.toNat]=false->K .ret (sp 19 [(4, .int i)] (CG (strs vs) es)))/\
   (eL es vs[i.toNat]=true->∃m,m<vs.length - i.toNat/\fq IG D1 Ci (fun a=>a.vs.length - a.i.toNat) K m (IG ⟨vs,i+1,es⟩)):=by
  intro hi0 hi
  refine⟨fun e=>ho.2 ?_ i ⟨h2,hi,h4,e⟩,fun e=>⟨_,?_,⟨vs,i+1,es⟩,rfl,⟨by simpa[aR] using h1,by simp only;omega,by simp only;omega,?_⟩,rfl,?_⟩⟩
  ·rw[Bool.eq_false_iff]
   intro hall
   rw[List.all_eq_true.1 hall _ (List.getElem_mem hi)] at e
   cases e
  ·simp only;omega
  ·intro s hs
   simp only at hs
   rw[show(i+1).toNat=i.toNat+1 by omega,List.take_succ_eq_append_getElem hi,List.mem_append,List.mem_singleton] at hs
   rcases hs with hs|hs
   ·exact h4 s hs
   ·rw[hs];exact e
  ·simp only[Ci,Out.run,ah]
   exact ho
 simp only[ah,aq,aa1,aa3,aa2,Bool.not_eq_true',ab3]
 refine⟨fun hi=>⟨⟨h2,hi⟩,?_⟩,fun hi=>?_⟩
 ·have hi':i.toNat<vs.length:=by omega
  have hn:toStr (nth (strs vs) i.toNat)=vs[i.toNat]:=by rw[wZ vs _ hi'];rfl
  rw[aW (n:=i+1) (by omega) (by omega),hn]
  have hf:=fin hi hi'
  simp only[IG,aV] at hf
  exact⟨fun e=>hf.1 e,fun e=>hf.2 e⟩
 ·refine ho.1 (List.all_eq_true.2 fun s hs=>h4 s ?_)
  rw[List.take_of_length_le (by omega)];exact hs
noncomputable def Og(κ:Kp):Env:=(oC κ).ak 190 2 (aO 3 IG D1 Ci)
theorem eFB(κ:Kp):aB (Og κ):=(RG κ).ak (Kv κ) (lFB κ)
theorem YY(κ:Kp):aj (Og κ):=(Kv κ).ak aG
structure GB where
 R:List AV
 i:Int
 j:Int
 es:List (Value×AV)
 P:List ByteArray
 ws:List ByteArray
abbrev CS(a:GB):S:=sp 42 [(0, .an 0 0 a.R.length),(1,Na),(5, .int a.i),(6, .int a.j)] (CG a.R a.es)
theorem xGB(κ:Kp)(a:GB)(I:Nat->S->Prop)(n:Nat)(K:Exit->S->Prop):(vc (Og κ) 12 123 none 3 (af (Pr κ).toProgram 123 5) (CS a) (bK (Og κ) 123 5 3 I n K))=(
 letI z1:=IntKind.wrap IntKind.i64 (a.j+(1:Int))
 letI z2:=toStr (nth a.R (0+a.j.toNat))
 letI z3:=a.j<(↑(a.R.length):Int)
 aD (decide z3) (aX (decide ((0:Int)<=a.j)&&decide z3) (aD (!!Dn.toBool (dp a.es (Value.string z2) (AV.bool false))) (aX (decide ((0:Int)<=a.i)&&decide
 (a.i<(↑(a.R.length):Int))) (∃(e0:Nat),e0<n/\I e0 (sp 42 [(0,AV.an 0 0 a.R.length),(1,AV.bL 125 [AV.ptr 1 0 [] 0]),(5,AV.int (IntKind.wrap
 IntKind.i64 (a.i+(1:Int)))),(6,AV.int z1)] [Obj.row 9 (cg a.R (0+a.i.toNat) (AV.str z2)),Obj.box 178 (AV.mp 2),Dn.Obj.map 9 4 a.es]))) (∃(e0:Nat),
 e0<n/\I e0 (sp 42 [(0,AV.an 0 0 a.R.length),(1,AV.bL 125 [AV.ptr 1 0 [] 0]),(5,AV.int a.i),(6,AV.int z1)] [Obj.row 9 a.R,Obj.box 178 (AV.mp 2),
 Dn.Obj.map 9 4 a.es])))) (K (Exit.exit 0) (sp 42 [(0,AV.an 0 0 a.R.length),(5,AV.int a.i)] [Obj.row 9 a.R,Obj.box 178 (AV.mp 2),Dn.Obj.map 9 4 a.es]))):=by kernel_rfl
def zN(a:GB):Prop:=a.R.length<=aR/\0<=a.i/\a.i<a.j/\a.j<=a.R.length/\a.R.take a.i.toNat=strs a.P/\a.R.drop a.j.toNat=strs a.ws
def Cb(a:GB):Out (Exit×S):= .all (fun R:List AV=>R.length=a.R.length/\R.take (a.P++a.ws.filter (eL a.es)).length=strs (a.P++a.ws.filter (eL a.es)))
 fun R=> .one (.exit 0,sp 42 [(0, .an 0 0 a.R.length),(5, .int (a.P++a.ws.filter (eL a.es)).length)] (CG R a.es))
theorem lGB(κ:Kp):bj (Og κ) 12 123 5 (aO 3 CS zN Cb):=by
 refine aK (fun a=>a.R.length - a.j.toNat) ?_
 rintro⟨R,i,j,es,P,ws⟩ K ⟨h1,h2,h3,h4,h5,h6⟩ ho
 simp only at h1 h2 h3 h4 h5 h6
 rw[show(Og κ).P=Pr κ from rfl]
 refine Eq.mpr (xGB κ ⟨R,i,j,es,P,ws⟩ _ _ K) ?_
 simp only[aR] at h1
 simp only[Cb,Out.run] at ho
 simp only[Nat.zero_add]
 have hP:P.length=i.toNat:=by
  have:=congrArg List.length h5
  rw[List.length_take,aV] at this;omega
 have fin: ∀(s:ByteArray) (l:List ByteArray),ws=s::l->j<R.length->nth R j.toNat= .lit (.string s)->
   (eL es s=false->∃m,m<R.length - j.toNat/\fq CS zN Cb (fun a=>a.R.length - a.j.toNat) K m (CS ⟨R,i,j+1,es,P,l⟩))/\
   (eL es s=true->∃m,m<R.length - j.toNat/\fq CS zN Cb (fun a=>a.R.length - a.j.toNat) K m (CS ⟨cg R i.toNat (.lit (.string s)),i+1,j+1,es,P++[s],l⟩)):=by
  rintro s l rfl hj hn
  obtain⟨_,_,h7⟩:=jC (l:=strs l) h6
  refine⟨fun e=>⟨_,?_,_,rfl,⟨by simpa[aR] using h1,h2,by simp only;omega,by simp only;omega,h5,?_⟩,rfl,?_⟩,fun e=>⟨_,?_,_,rfl,⟨by simpa[aR,gy] using h1,by simp only;omega,by simp only;omega,by simp only[gy];omega,?_,?_⟩,rfl,?_⟩⟩
  ·simp only;omega
  ·simp only[show(j+1).toNat=j.toNat+1 by omega];exact h7
  ·intro y hy
   have:=ho y
   simp only[List.filter_cons,e,Bool.false_eq_true,if_false] at hy this⊢
   exact this hy
  ·simp only[gy];omega
  ·simp only[show(i+1).toNat=i.toNat+1 by omega]
   rw[sf _ _ _ (by omega),h5,ie];rfl
  ·simp only[show(j+1).toNat=j.toNat+1 by omega]
   rw[sk _ _ _ _ (by omega)];exact h7
  ·intro y hy
   have:=ho y
   simp only[List.filter_cons,e,if_true,gy,List.append_assoc,List.singleton_append] at hy this⊢
   exact this hy
 simp only[ah,aq,aa1,aa3,aa2,Bool.not_eq_true',ab3]
 refine⟨fun hj=>⟨⟨by omega,hj⟩,?_⟩,fun hj=>?_⟩
 ·cases ws with
  |nil=>
   have:=congrArg List.length h6
   rw[List.length_drop,aV] at this
   simp at this;omega
  |cons s l=>
   obtain⟨_,hn,_⟩:=jC (l:=strs l) h6
   have hn':toStr (nth R j.toNat)=s:=by rw[hn];rfl
   have hf:=fin s l rfl hj hn
   simp only[CS,gy] at hf
   rw[aW (n:=i+1) (by omega) (by omega),aW (n:=j+1) (by omega) (by omega),hn']
   exact⟨fun e=>⟨⟨by omega,by omega⟩,hf.2 e⟩,fun e=>hf.1 e⟩
 ·have hw:ws=[]:=by
   have:=congrArg List.length h6
   rw[List.length_drop,aV] at this
   cases ws with
   |nil=>rfl
   |cons=>simp at this;omega
  subst hw
  have:=ho R ⟨rfl,by simp only[List.filter_nil,List.append_nil,hP];exact h5⟩
  simp only[List.filter_nil,List.append_nil,hP,Int.toNat_of_nonneg h2] at this
  exact this
noncomputable def VV(κ:Kp):Env:=(Og κ).ak 123 5 (aO 3 CS zN Cb)
theorem eGB(κ:Kp):aB (VV κ):=(eFB κ).ak (YY κ) (lGB κ)
theorem mGB(κ:Kp):aj (VV κ):=(YY κ).ak aG
theorem yGB(κ:Kp)(a:DB)(K:AV->List Dn.Obj->Prop):(a8 (VV κ) 12 123 [.an 0 0 (strs a.vs).length,Na] (CG (strs a.vs) a.es) K)=(
 letI z1:=List.length (strs a.vs)
 letI z2:=Pg.toProgram (Env.P (oC κ))
 letI z3:=Pg.toProgram (Env.P (Og κ))
 af z2 190 2=af z2 190 2/\∃(e3:DB),sp 19 [(0,AV.an 0 0 z1),(1,AV.bL 125 [AV.ptr 1 0 [] 0]),(7,AV.int (↑z1:Int)),(8,AV.int 0)] [Obj.row 9 (strs a.vs),Obj.box 178 (AV.mp 2),Dn.Obj.map 9 4 a.es]=sp 19 [(0,AV.an 0 0 (List.length (strs e3.vs))),(1,AV.bL 125 [AV.ptr 1 0 [] 0]),(7,AV.int (↑(List.length (strs e3.vs)):Int)),(8,AV.int e3.i)] [Obj.row 9 (strs e3.vs),Obj.box 178 (AV.mp 2),Dn.Obj.map 9 4 e3.es]/\(e3.vs.length<=9223372036854775807/\(0:Int)<=e3.i/\e3.i<=(↑(e3.vs.length):Int)/\∀(e0:ByteArray),List.Mem e0 (List.take e3.i.toNat e3.vs)->eL e3.es e0=true)/\aD (List.all e3.vs (eL e3.es)) (K (AV.ad 9 (List.take z1 (List.drop 0 (strs e3.vs)))) [Obj.mq 9 (strs e3.vs),Obj.box 178 (AV.mp 2),Dn.Obj.map 9 4 e3.es]) (∀(e2:Int),((0:Int)<=e2/\∃(e1:e2.toNat<e3.vs.length),(∀(e0:ByteArray),List.Mem e0 (List.take e2.toNat e3.vs)->eL e3.es e0=true)/\eL e3.es e3.vs[e2.toNat]=false)->aD (e2==(-1:Int)) (K (AV.ad 9 (List.take z1 (List.drop 0 (strs e3.vs)))) [Obj.mq 9 (strs e3.vs),Obj.box 178 (AV.mp 2),Dn.Obj.map 9 4 e3.es]) (af z3 123 5=af z3 123 5/\∃(e1:GB),sp 42 [(0,AV.an 0 0 z1),(1,AV.bL 125 [AV.ptr 1 0 [] 0]),(5,AV.int e2),(6,AV.int (IntKind.wrap IntKind.i64 (e2+(1:Int))))] [Obj.row 9 (strs e3.vs),Obj.box 178 (AV.mp 2),Dn.Obj.map 9 4 e3.es]=sp 42 [(0,AV.an 0 0 e1.R.length),(1,AV.bL 125 [AV.ptr 1 0 [] 0]),(5,AV.int e1.i),(6,AV.int e1.j)] [Obj.row 9 e1.R,Obj.box 178 (AV.mp 2),Dn.Obj.map 9 4 e1.es]/\(e1.R.length<=9223372036854775807/\(0:Int)<=e1.i/\e1.i<e1.j/\e1.j<=(↑(e1.R.length):Int)/\List.take e1.i.toNat e1.R=strs e1.P/\List.drop e1.j.toNat e1.R=strs e1.ws)/\∀(e0:List AV),e0.length=e1.R.length/\List.take (List.length (e1.P++List.filter (eL e1.es) e1.ws)) e0=strs (e1.P++List.filter (eL e1.es) e1.ws)->aX (true&&decide ((↑(List.length (e1.P++List.filter (eL e1.es) e1.ws)):Int)<=(↑(e1.R.length):Int))&&decide ((↑(e1.R.length):Int)<=(↑(e1.R.length):Int))) (aX (true&&decide ((↑(List.length (e1.P++List.filter (eL e1.es) e1.ws)):Int)<=(↑(e1.R.length):Int))) (K (AV.ad 9 (List.take (Int.toNat ((↑(List.length (e1.P++List.filter (eL e1.es) e1.ws)):Int) - (0:Int))) (List.drop 0 (dP e0 (0+Int.toNat (↑(List.length (e1.P++List.filter (eL e1.es) e1.ws)):Int)) (Int.toNat ((↑(e1.R.length):Int) - (↑(List.length (e1.P++List.filter (eL e1.es) e1.ws)):Int))) (AV.str {data:= #[]}))))) [Obj.mq 9 (dP e0 (0+Int.toNat (↑(List.length (e1.P++List.filter (eL e1.es) e1.ws)):Int)) (Int.toNat ((↑(e1.R.length):Int) - (↑(List.length (e1.P++List.filter (eL e1.es) e1.ws)):Int))) (AV.str {data:= #[]})),Obj.box 178 (AV.mp 2),Dn.Obj.map 9 4 e1.es]))))):=by kernel_rfl
def Ga(a:DB):List AV×List Dn.Obj:=([.an 0 0 a.vs.length,Na],CG (strs a.vs) a.es)
def o4(a:DB):Prop:=a.vs.length<=aR
def Eh(a:DB):Out (AV×List Dn.Obj):= .all (fun _:List AV=>True) fun R=> .one (.ad 9 (strs (a.vs.filter (eL a.es))),[.mq 9 R, .box 178 (.mp 2), .map 9 4 a.es])
theorem Ya(κ:Kp):bt (VV κ) 12 123 (aL Ga o4 Eh):=by
 refine aZ ?_
 rintro⟨vs,i,es⟩ K h1 ho
 simp only[o4] at h1
 simp only[Ga]
 rw[←aV vs]
 refine Eq.mpr (yGB κ ⟨vs,i,es⟩ K) ?_
 refine⟨rfl,⟨vs,0,es⟩,rfl,⟨h1,by simp only;omega,by simp only;omega,fun s hs=>nomatch hs⟩,?_⟩
 rw[ah]
 refine⟨fun e=>?_,fun e y hy=>?_⟩
 ·have hf:vs.filter (eL es)=vs:=List.filter_eq_self.2 (List.all_eq_true.1 e)
  have:=ho (strs vs) trivial
  simp only[hf] at this
  rw[ab1,List.take_length]
  exact this
 ·have hF:=qM hy
  obtain⟨h0,h2,h3,h4⟩:=hy
  simp only at h0 h2
  simp only[aR] at h1
  rw[ah,beq_iff_eq,beq_eq_false_iff_ne]
  refine⟨fun e2=>by omega,fun _=>⟨rfl,⟨strs vs,y,y+1,es,vs.take y.toNat,vs.drop (y.toNat+1)⟩,?_,⟨by simp only[aV];omega,h0,by simp only;omega,by simp only[aV];omega,?_,?_⟩,?_⟩⟩
  ·rw[aW (n:=y+1) (by omega) (by omega)]
  ·simp only[strs,List.map_take]
  ·simp only[strs,List.map_drop,show(y+1).toNat=y.toNat+1 by omega]
  ·rintro R ⟨r1,r2⟩
   simp only at r1 r2
   rw[←hF] at r2⊢
   have hle:(vs.filter (eL es)).length<=vs.length:=List.length_filter_le _ _
   rw[aq,aq]
   refine⟨by simp[aV,hle],by simp[aV,hle],?_⟩
   have:=ho (dP R (0+Int.toNat ((vs.filter (eL es)).length:Int)) (Int.toNat (((strs vs).length:Int) - ((vs.filter (eL es)).length:Int))) (.lit (.string (ByteArray.mk #[])))) trivial
   simp only[Int.toNat_natCast,Nat.zero_add,Int.sub_zero,ab1,oq,r2] at this⊢
   exact this
theorem Ym(κ:Kp): ∀args st K,aL Ga o4 Eh args st K->cM (Pr κ) 123 args st K:=fun args st K h=>iK (eGB κ) (mGB κ) (Ya κ args st K h)
structure VE where
 a:cm
 ws:List Nat
 n:Nat
 i:Int
 vs:List ByteArray
abbrev PS(a:VE):S:=sp 48 [(2, .ptr 0 0 [] 0),(8, .ptr 1 0 [] 0),(32, .an 3 0 a.n),(33, .int a.n),(34, .int a.i)] [.box 66 (ar a.a), .box 178 (.mp 2), .map 9 4 (bR a.vs), .row 3 (ints a.ws)]
theorem x10(κ:Kp)(a:VE)(ws:List AV)(es:List (Value×AV))(I:Nat->S->Prop)(n:Nat)(K:Exit->S->Prop):(vc (E7 κ) 12 77 none 0 (af (Pr κ).toProgram 77 8) (sp 48 [(2, .ptr 0 0 [] 0),(8, .ptr 1 0 [] 0),(32, .an 3 0 a.n),(33, .int a.n),(34, .int a.i)] [.box 66 (ar a.a), .box 178 (.mp 2), .map 9 4 es, .row 3 ws]) (bK (E7 κ) 77 8 0 I n K))=(
 letI z1:=∃(e2:cm×Int),([ar a.a,AV.int (toInt (nth ws (0+a.i.toNat)))],aI)=([ar e2.1,AV.int e2.2],aI)/\(aM (aF e2.1)=true/\(a6 (aa (bm 56
  e2.1.hl e2.1.bl))<=100000/\e2.1.bl.length<=100000)/\(0:Int)<=e2.2/\e2.2<(↑(e2.1.bl.length):Int))/\∃(e1:List AV×List (Value×AV)),([AV.mp 0,
  AV.ad 9 (strs (cQ (aF e2.1) e2.2.toNat))],[Dn.Obj.map 9 4 es])=([AV.mp 0,AV.ad 9 e1.1],[Dn.Obj.map 9 4 e1.2])/\bq e1/\∃(e0:Nat),e0<n/\I e0 (sp 48
  [(2,AV.ptr 0 0 [] 0),(8,AV.ptr 1 0 [] 0),(32,AV.an 3 0 a.n),(33,AV.int (↑(a.n):Int)),(34,AV.int (IntKind.wrap IntKind.i64 (a.i+(1:Int))))]
  [Obj.box 66 (ar a.a),Obj.box 178 (AV.mp 2),Dn.Obj.map 9 4 (fF e1.2 e1.1),Obj.row 3 ws])
 aD (decide (a.i<(↑(a.n):Int))) (aX (decide ((0:Int)<=a.i)&&decide (a.i<(↑(a.n):Int))) (z1/\z1)) (K (Exit.exit 1) (sp 48 [(2,AV.ptr 0 0 [] 0),(8,
 AV.ptr 1 0 [] 0)] [Obj.box 66 (ar a.a),Obj.box 178 (AV.mp 2),Dn.Obj.map 9 4 es]))):=by kernel_rfl
def GC(a:VE):Prop:=aM (aF a.a)=true/\dd a.a/\0<=a.i/\a.i<=a.n/\a.n<=a.ws.length/\a.ws.length<=a.a.bl.length/\∀k,k∈a.ws->k<a.a.bl.length
def AO(a:VE):Out (Exit×S):= .one (.exit 1,sp 48 [(2, .ptr 0 0 [] 0),(8, .ptr 1 0 [] 0)] [.box 66 (ar a.a), .box 178 (.mp 2), .map 9 4 (bR (a.vs++eU (aF a.a) ((a.ws.take a.n).drop a.i.toNat)))])
theorem CP(l:List Nat)(i:Nat)(h:i<l.length):toInt (nth (ints l) i)=(l[i]:Int):=by
 rw[bf _ _ (by rw[og];exact h)];simp[ints,toInt]
theorem l10(κ:Kp):bj (E7 κ) 12 77 8 (aO 0 PS GC AO):=by
 refine aK (fun a=>a.n - a.i.toNat) ?_
 rintro⟨a,ws,n,i,vs⟩ K ⟨h1,h2,h3,h4,h5,h6,h7⟩ ho
 simp only at h1 h2 h3 h4 h5 h6 h7
 rw[show(E7 κ).P=Pr κ from rfl]
 refine Eq.mpr (x10 κ ⟨a,ws,n,i,vs⟩ (ints ws) (bR vs) _ _ K) ?_
 simp only[AO,Out.run] at ho
 simp only[and_self,Nat.zero_add]
 have hl:=h2.2
 rw[ah,aq,aa2,aa1,aa1,aa3]
 refine⟨fun hi=>⟨⟨h3,hi⟩,?_⟩,fun hi=>?_⟩
 ·have hi':i.toNat<ws.length:=by omega
  have hk:=h7 _ (List.getElem_mem hi')
  have hg:=r5 h2 hk
  have hd:(ws.take n).drop i.toNat=ws[i.toNat]::(ws.take n).drop (i.toNat+1):=by
   rw[ab2 (by rw[List.length_take];omega)]
   simp
  rw[hd] at ho
  rw[aW (n:=i+1) (by omega) (by omega),CP ws _ hi']
  refine⟨(a,(ws[i.toNat]:Int)),rfl,⟨h1,h2,by simp only;omega,by simp only;omega⟩,(strs (cQ (aF a) ws[i.toNat]),bR vs),rfl,by simp only[bq,aV,aR];omega,_,?_,⟨a,ws,n,i+1,vs++cQ (aF a) ws[i.toNat]⟩,?_,⟨h1,h2,by simp only;omega,by simp only;omega,h5,h6,h7⟩,rfl,?_⟩
  ·simp only;omega
  ·simp only[lY]
  ·simp only[AO,Out.run,show(i+1).toNat=i.toNat+1 by omega]
   simpa only[eU,List.flatMap_cons,List.append_assoc] using ho
 ·rw[aa9 (by rw[List.length_take];omega)] at ho
  simpa[eU] using ho
noncomputable def JN(κ:Kp):Env:=((E7 κ).ak 77 8 (aO 0 PS GC AO)).ax 123 (aL Ga o4 Eh)
theorem XS(κ:Kp):aB (JN κ):=((e7 κ).ak (m7 κ) (l10 κ)).gZ (Ym κ)
theorem Ub(κ:Kp):aj (JN κ):=((m7 κ).ak aG).ax aJ
theorem y10(κ:Kp)(a:cm)(k:Int)(K:AV->List Dn.Obj->Prop):(a8 (JN κ) 12 77 [ar a, .int k] [] K)=(
 letI z1:=K (AV.bh [AV.nil,AV.int 2]) []
 letI z2:=Pg.toProgram (Env.P (E7 κ))
 letI z3:=Int.toNat (k - (0:Int))
 ∃(e4:cm),([ar a],aI)=([ar e4],aI)/\(a6 (aa (bm 56 e4.hl e4.bl))<=100000/\e4.bl.length<=100000)/\aD (aM (aF e4)) (aD (iO (aF e4)) (aD (decide (k<
 (0:Int))) z1 (aD (decide (k>(↑(List.length (b8 (aF e4))):Int))) z1 (aX (true&&decide ((0:Int)<=k)&&decide (k<=(↑(List.length (b8 (aF e4))):
 Int))) (af z2 77 8=af z2 77 8/\∃(e3:VE),sp 48 [(2,AV.ptr 0 0 [] 0),(8,AV.ptr 1 0 [] 0),(32,AV.an 3 0 z3),(33,AV.int (↑z3:Int)),(34,AV.int 0)]
 [Obj.box 66 (ar a),Obj.box 178 (AV.mp 2),Dn.Obj.map 9 4 [],Obj.row 3 (ints (b8 (aF e4)))]=sp 48 [(2,AV.ptr 0 0 [] 0),(8,AV.ptr 1 0 [] 0),(32,AV.an 3 0
 e3.n),(33,AV.int (↑(e3.n):Int)),(34,AV.int e3.i)] [Obj.box 66 (ar e3.a),Obj.box 178 (AV.mp 2),Dn.Obj.map 9 4 (bR e3.vs),Obj.row 3 (ints e3.ws)]/\(aM
 (aF e3.a)=true/\(a6 (aa (bm 56 e3.a.hl e3.a.bl))<=100000/\List.length e3.a.bl<=100000)/\(0:Int)<=e3.i/\e3.i<=(↑(e3.n):Int)/\e3.n<=e3.ws.length/\
 e3.ws.length<=List.length e3.a.bl/\∀(e0:Nat),List.Mem e0 e3.ws->e0<List.length e3.a.bl)/\∃(e2:cm),([ar e3.a],aI)=([ar e2],aI)/\(aM (aF e2)=
 true/\a6 (aa (bm 56 e2.hl e2.bl))<=100000/\e2.bl.length<=100000)/\∃(e1:DB),([AV.an 0 0 (List.length (cZ (aF e2))),AV.bL 125 [AV.ptr 1 0 [] 0]],
 [Obj.row 9 (strs (cZ (aF e2))),Obj.box 178 (AV.mp 2),Dn.Obj.map 9 4 (bR (e3.vs++eU (aF e3.a) (List.drop e3.i.toNat (List.take e3.n e3.ws))))])=([AV.an 0 0
 e1.vs.length,AV.bL 125 [AV.ptr 1 0 [] 0]],[Obj.row 9 (strs e1.vs),Obj.box 178 (AV.mp 2),Dn.Obj.map 9 4 e1.es])/\o4 e1/\∀(e0:List AV),True->K (AV.bh
 [AV.ad 9 (strs (List.filter (eL e1.es) e1.vs)),AV.int 0]) [])))) (K (AV.bh [AV.nil,AV.int 60]) [])) (K (AV.bh [AV.nil,AV.int 30]) [])):=by kernel_rfl
def N6(a:cm×Int):List AV×List Dn.Obj:=([ar a.1, .int a.2],[])
def AJ(a:cm×Int):Prop:=dd a.1
def yo(a:cm×Int):Out (AV×List Dn.Obj):= .aD (aM (aF a.1)) (.aD (iO (aF a.1)) (.aD (decide (a.2<0)||decide (a.1.bl.length<a.2)) (.one (.bh [.nil, .int 2],[]))
 (.one (.bh [.ad 9 (strs (kJ (aF a.1) a.2.toNat)), .int 0],[]))) (.one (.bh [.nil, .int 60],[]))) (.one (.bh [.nil, .int 30],[]))
theorem oZ{a:cm}(h:iO (aF a)=true):(b8 (aF a)).length=a.bl.length:=by
 have h1:=Ja (aF a)
 rw[fT] at h1
 simp only[iO,aa2,aa1,fT] at h
 omega
theorem c10(κ:Kp):bt (JN κ) 12 77 (aL N6 AJ yo):=by
 refine aZ ?_
 rintro⟨a,k⟩ K h2 ho
 refine Eq.mpr (y10 κ a k K) ?_
 simp only[yo,Out.run,ah] at ho
 have h2:dd a:=h2
 have hl:=h2.2
 refine⟨a,rfl,h2,?_⟩
 rw[ah]
 refine⟨fun e1=>?_,fun e1=>ho.2 e1⟩
 rw[ah]
 refine⟨fun e2=>?_,fun e2=>(ho.1 e1).2 e2⟩
 have hw:=oZ e2
 have ho1:=(ho.1 e1).1 e2
 rw[ah,aa1,aa3]
 refine⟨fun e3=>ho1.1 (by rw[aa7 e3];rfl),fun e3=>?_⟩
 rw[ah,aa1,aa3,hw]
 refine⟨fun e4=>ho1.1 (by rw[aa7 (show(a.bl.length:Int)<k from e4)];simp),fun e4=>?_⟩
 have ho2:=ho1.2 (by rw[aa5 e3,aa5 (show ¬ (a.bl.length:Int)<k from e4)];rfl)
 simp only[aq,aa2,aa1,Int.sub_zero]
 have h5:(ft (aF a)).length<=100000:=by
  have h6:=cx (aa (bm 56 a.hl a.bl))
  rw[iH 56 a.rel a.hl a.bl] at h6
  exact Nat.le_trans h6 h2.1
 have h7:=k9 (ft (aF a)) []
 refine⟨⟨⟨trivial,by omega⟩,by omega⟩,trivial,⟨a,b8 (aF a),k.toNat,0,[]⟩,rfl,⟨e1,h2,by simp only;omega,by simp only;omega,by simp only;omega,by simp only;omega,fun j hj=>by have:=uW hj;rwa [fT] at this⟩,a,rfl,⟨e1,h2⟩,⟨cZ (aF a),0,bR ([]++eU (aF a) (((b8 (aF a)).take k.toNat).drop (Int.toNat 0)))⟩,rfl,?_,?_⟩
 ·simp only[o4,cZ,e1,aa8,aR];omega
 ·intro R _
  have hk3:List.filter (eL (bR ([]++eU (aF a) (((b8 (aF a)).take k.toNat).drop (Int.toNat 0))))) (cZ (aF a))=kJ (aF a) k.toNat:=by
   unfold kJ
   refine congrFun (congrArg _ ?_) _
   funext s
   unfold eL
   rw[oJ];rfl
  simp only[hk3]
  exact ho2
noncomputable def Ov(κ:Kp):Env:=(JN κ).ax 77 (aL N6 AJ yo)
theorem e10(κ:Kp):aB (Ov κ):=(XS κ).ax (Ub κ) (c10 κ)
theorem YS(κ:Kp):aj (Ov κ):=(Ub κ).ax aJ
end Go.Proofs.YthaiinlfnommnaaGreatDoor
