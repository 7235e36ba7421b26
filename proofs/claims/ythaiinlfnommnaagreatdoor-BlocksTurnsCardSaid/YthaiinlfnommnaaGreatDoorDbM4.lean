import Derived.Test.YthaiinlfnommnaaGreatDoorDbM3
import Derived.Test.YthaiinlfnommnaaGreatDoorDbM1
import Derived.Test.YthaiinlfnommnaaGreatDoorDbM2
namespace Go.Proofs.YthaiinlfnommnaaGreatDoor
open Go Go.Dn Go.Rl Go.Proofs
attribute [local irreducible] ba vc
set_option maxRecDepth 20000
theorem x65(κ:Kp)(l:List AV)(s:ByteArray)(i:Int)(I:Nat->S->Prop)(n:Nat)(K:Exit->S->Prop):(vc (MH κ) 12 242 none 0 (af (Pr κ).toProgram 242 2) (sp 19 [(0, .ad 9 l),(1, .lit (.string s)),(7, .int l.length),(8, .int i)] []) (bJ (MH κ) 242 2 0 I n K))=(
 letI z1:=i<(↑(l.length):Int)
 aD (decide z1) (a7 (decide ((0:Int)<=i)&&decide z1) (aD (ByteArray.toList s==ByteArray.toList (toStr (nth l i.toNat))) (K Exit.ret (sp 19 [(4,AV.int i)]
 [])) (∃(e0:Nat),e0<n/\I e0 (sp 19 [(0,AV.ad 9 l),(1,AV.str s),(7,AV.int (↑(l.length):Int)),(8,AV.int (IntKind.wrap IntKind.i64 (i+(1:
 Int))))] [])))) (K (Exit.exit 0) (sp 19 [] []))):=by kernel_rfl
abbrev Sk(a:List AV×ByteArray×Int):S:=sp 19 [(0, .ad 9 a.1),(1, .lit (.string a.2.1)),(7, .int a.1.length),(8, .int a.2.2)] []
def Kv(a:List AV×ByteArray×Int):Prop:=a.1.length<=aR/\0<=a.2.2/\a.2.2<=a.1.length
def FR(a:List AV×ByteArray×Int):Out (Exit×S):= .aD (decide (dU a.2.1 (a.1.drop a.2.2.toNat) a.2.2>=0)) (.one (.ret,sp 19 [(4, .int (dU a.2.1 (a.1.drop a.2.2.toNat) a.2.2))] [])) (.one (.exit 0,sp 19 [] []))
theorem l65(κ:Kp):bj (MH κ) 12 242 2 (aO 0 Sk Kv FR):=by
 refine aK (fun a=>a.1.length - a.2.2.toNat) ?_
 rintro⟨l,s,i⟩ K ⟨h1,h2,h3⟩ ho
 simp only at h1 h2 h3
 rw[show(MH κ).P=Pr κ from rfl]
 refine Eq.mpr (x65 κ l s i _ _ K) ?_
 simp only[aR] at h1
 simp only[FR,Out.run,ah] at ho
 simp only[ah,an,aa1,aa3,aa2]
 refine⟨fun hi=>⟨⟨h2,hi⟩,fun e=>?_,fun e=>?_⟩,fun hi=>?_⟩
 ·rw[ab2 (show i.toNat<l.length by omega),←bf l i.toNat (by omega),dU,show l6 s (toStr (nth l i.toNat))=true from e,aa8,aa7 (show i>=0 from h2)] at ho
  exact ho.1 rfl
 ·rw[aV (n:=i+1) (by omega) (by omega)]
  refine⟨_,?_,(l,s,i+1),rfl,⟨by simpa[aR] using h1,by simp only;omega,by simp only;omega⟩,rfl,?_⟩
  ·simp only;omega
  ·rw[ab2 (show i.toNat<l.length by omega),←bf l i.toNat (by omega),dU,show l6 s (toStr (nth l i.toNat))=false from e,aa6] at ho
   simp only[FR,Out.run,ah,show(i+1).toNat=i.toNat+1 by omega]
   exact ho
 ·rw[aa9 (by omega)] at ho
  exact ho.2 rfl
noncomputable def Md(κ:Kp):Env:=(MH κ).ak 242 2 (aO 0 Sk Kv FR)
theorem WH(κ:Kp):aB (Md κ):=(e39 κ).ak (Zs κ) (l65 κ)
theorem UM(κ:Kp):aj (Md κ):=(Zs κ).ak aG
theorem y65(κ:Kp)(l:List AV)(s:ByteArray)(K:AV->List Dn.Obj->Prop):(ba (Md κ) 12 242 [.ad 9 l, .lit (.string s)] [] K)=(
 af (Pg.toProgram (Env.P (MH κ))) 242 2=af (Pg.toProgram (Env.P (MH κ))) 242 2/\∃(a:List AV×ByteArray×Int),sp 19 [(0,AV.ad 9 l),(1,
 AV.str s),(7,AV.int (↑(l.length):Int)),(8,AV.int 0)] []=sp 19 [(0,AV.ad 9 a.1),(1,AV.str a.2.1),(7,AV.int (↑(a.1.length):Int)),(8,AV.int
 a.2.2)] []/\(a.1.length<=9223372036854775807/\(0:Int)<=a.2.2/\a.2.2<=(↑(a.1.length):Int))/\aD (decide (dU a.2.1 (List.drop (Int.toNat a.2.2)
 a.1) a.2.2>=(0:Int))) (K (AV.int (dU a.2.1 (List.drop (Int.toNat a.2.2) a.1) a.2.2)) []) (K (AV.int (-1)) [])):=by kernel_rfl
def X8:List AV->Option (Bool×AV)
 |[.ad 9 l, .lit (.string s)]=>some (decide (l.length<=aR), .int (dU s l 0))
 |_=>none
theorem vU(s:ByteArray): ∀(l:List AV) (i:Int),¬ dU s l i>=0->0<=i->dU s l i= -1
 |[],_,_,_=>rfl
 |a::l,i,h,h0=>by
  simp only[dU] at h⊢
  cases e:l6 s (toStr a) with
  |true=>rw[e] at h;exact absurd h0 h
  |false=>rw[e] at h;exact vU s l (i+1) h (by omega)
theorem p65(κ:Kp):cQ (Md κ) 12 242 X8:=by
 intro args x hh
 unfold X8 at hh
 split at hh
 ·rename_i l s
  simp only[aa4,ab0,aa1] at hh
  obtain⟨h1,rfl⟩:=hh
  refine⟨_,rfl,rfl,?_⟩
  refine Eq.mpr (y65 κ l s _) ?_
  refine⟨rfl,(l,s,0),rfl,⟨h1,by simp only;omega,by simp only;omega⟩,?_⟩
  simp only[ab8,ab1,ah,aa1,aa3]
  exact⟨fun _=>trivial,fun e=>by rw[vU s l 0 e (by omega)]⟩
 ·cases hh
noncomputable def UG(κ:Kp):Env:=(Md κ).aH 242 X8
theorem e65(κ:Kp):aB (UG κ):=(WH κ).aH (UM κ) (p65 κ)
theorem Yt(κ:Kp):aj (UG κ):=(UM κ).aH
theorem y63(κ:Kp)(l:List AV)(s:ByteArray)(K:AV->List Dn.Obj->Prop):(ba (UG κ) 12 193 [.ad 9 l, .lit (.string s)] [] K)=(
 a7 (decide (l.length<=9223372036854775807)) (K (AV.bool (decide (dU s l (0:Int)>=(0:Int)))) [])):=by kernel_rfl
def Wq:List AV->Option (Bool×AV)
 |[.ad 9 l, .lit (.string s)]=>some (decide (l.length<=aR), .bool (decide (dU s l 0>=0)))
 |_=>none
theorem p63(κ:Kp):cQ (UG κ) 12 193 Wq:=by
 intro args x hh
 unfold Wq at hh
 split at hh
 ·rename_i l s
  simp only[aa4,ab0,aa1] at hh
  obtain⟨h1,rfl⟩:=hh
  refine⟨_,rfl,rfl,?_⟩
  refine Eq.mpr (y63 κ l s _) ?_
  rw[an,aa1]
  exact⟨h1,rfl⟩
 ·cases hh
noncomputable def Uz(κ:Kp):Env:=(UG κ).aH 193 Wq
theorem e63(κ:Kp):aB (Uz κ):=(e65 κ).aH (Yt κ) (p63 κ)
theorem Yy(κ:Kp):aj (Uz κ):=(Yt κ).aH
theorem y24(κ:Kp)(a:cm)(k:Int)(K:AV->List Dn.Obj->Prop):(ba (Uz κ) 12 122 [ar a, .int k] [] K)=(
 letI z2:=nth a.bl k.toNat
 letI z1:=∃(e1:List AV),([AV.ad 56 [AV.agg [AV.int (toInt (ae (ae z2 2) 0)),AV.str (toStr (ae (ae z2 2) 1)),AV.int (toInt (ae (ae z2 2) 2)),AV.ad 56 (ai
  (ae (ae z2 2) 3))]]],aI)=([AV.ad 56 e1],aI)/\bG e1/\∃(e0:cm×Int),([ar a,AV.int k],aI)=([ar e0.1,AV.int e0.2],aI)/\(aM (aF e0.1)=true/\(aZ
  (aa (bk 56 e0.1.hl e0.1.bl))<=100000/\e0.1.bl.length<=100000)/\(0:Int)<=e0.2/\e0.2<(↑(e0.1.bl.length):Int))/\a7 (decide ((List.length (ay (aa e1))
  +List.length (strs (ee (aF e0.1) e0.2.toNat))+1)*17<=70368744177664)) (K (AV.ad 9 (List.take (List.length (ay (aa e1))+List.length (strs (ee (aF e0.1)
  e0.2.toNat))) (List.drop 0 (List.take (List.length (ay (aa e1))) (strs (ay (aa e1)))++strs (ee (aF e0.1) e0.2.toNat))))) [])
 a7 (decide ((0:Int)<=k)&&decide (k<(↑(a.bl.length):Int))) (aD (decide ((7:Int)<=toInt (ae z2 0))) ((z1/\z1)/\z1) (∃(e0:LA),([AV.agg [AV.int
 (toInt (ae z2 0)),AV.agg [AV.str (toStr (ae (ae z2 1) 0)),AV.ad 56 (ai (ae (ae z2 1) 1))],AV.agg [AV.int (toInt (ae (ae z2 2) 0)),AV.str (toStr (ae (ae z2
 2) 1)),AV.int (toInt (ae (ae z2 2) 2)),AV.ad 56 (ai (ae (ae z2 2) 3))],AV.agg [AV.int (toInt (ae (ae z2 3) 0)),AV.str (toStr (ae (ae z2 3) 1)),AV.int
 (toInt (ae (ae z2 3) 2)),AV.ad 56 (ai (ae (ae z2 3) 3))]]],aI)=([AV.agg [AV.int e0.op,AV.agg [AV.str e0.s,AV.ad 56 e0.l],AV.agg [AV.int e0.o1,AV.str
 e0.s1,AV.int e0.n1,AV.ad 56 e0.l1],AV.agg [AV.int e0.o2,AV.str e0.s2,AV.int e0.n2,AV.ad 56 e0.l2]]],aI)/\gg e0/\K (AV.ad 9 (List.take (List.length (eh
 (LA.lt e0))) (List.drop 0 (strs (eh (LA.lt e0)))))) []))):=by kernel_rfl
def P4(a:cm×Int):Out (AV×List Dn.Obj):= .one (.ad 9 (strs (cV (aF a.1) a.2.toNat)),[])
theorem Fz(l:Lt):aZ [l.x]<=iX l:=by
 simp only[iX,aZ];omega
theorem Fv(x:AV):aa [pg 56 (ae x 2)]=[(cE x).x]:=by
 simp only[aa,ac1,ac2,qW];rfl
theorem rL{a:cm}(h:de a)(k:Nat):(ee (aF a) k).length<=100000:=by
 have h5:(fo (aF a)).length<=100000:=by
  have h6:=cx (aa (bk 56 a.hl a.bl))
  rw[iG 56 a.rel a.hl a.bl] at h6
  exact Nat.le_trans h6 h.1
 have h7:=kz (fo (aF a)) []
 refine Nat.le_trans (List.length_filter_le _ _) ?_
 unfold cW
 cases aM (aF a)
 ·simp
 ·rw[aa8];omega
theorem c24(κ:Kp):bu (Uz κ) 12 122 (aL OX AM P4):=by
 refine aX ?_
 rintro⟨a,k⟩ K ⟨h1,h2,h3,h4⟩ ho
 refine Eq.mpr (y24 κ a k K) ?_
 simp only at h1 h2 h3 h4
 have hk:k.toNat<a.bl.length:=by omega
 have hlit:=kD h2 hk
 have hv:=cx [(cE (nth a.bl k.toNat)).x]
 have hc:=Fz (cE (nth a.bl k.toNat))
 have ho':K (.ad 9 (strs (cV (aF a) k.toNat))) []:=ho
 unfold cV at ho'
 rw[show(aF a).body=dg a.bl from rfl,km _ hk,show(cE (nth a.bl k.toNat)).op=toInt (ae (nth a.bl k.toNat) 0) from rfl] at ho'
 simp only[and_self]
 rw[an,aa2,aa1,aa1,ah,aa1,aa3]
 refine⟨⟨h3,h4⟩,fun e=>?_,fun e=>?_⟩
 ·rw[aa7 e] at ho'
  refine⟨[pg 56 (ae (nth a.bl k.toNat) 2)],rfl,by simp only[bG,Fv];omega,(a,k),rfl,⟨h1,h2,h3,h4⟩,?_⟩
  have hol:=rL h2 k.toNat
  simp only[Fv,aW,ab1,cX,an,aa1]
  refine⟨by omega,?_⟩
  rw[←ij,List.take_of_length_le (by simp[aW])]
  exact ho'
 ·rw[aa5 e] at ho'
  refine⟨rR (nth a.bl k.toNat),rfl,by rw[gg,eC];exact hlit,?_⟩
  simp only[eC,ab1,cX]
  exact ho'
noncomputable def T9(κ:Kp):Env:=(Uz κ).aw 122 (aL OX AM P4)
theorem e24(κ:Kp):aB (T9 κ):=(e63 κ).aw (Yy κ) (c24 κ)
theorem ZA(κ:Kp):aj (T9 κ):=(Yy κ).aw aJ
theorem y52(κ:Kp)(a:cm)(k:Int)(es:List (Value×AV))(K:AV->List Dn.Obj->Prop):(ba (T9 κ) 12 236 [.mp 0,ar a, .int k] [.map 9 4 es] K)=(
 letI z4:=nth a.bl k.toNat
 letI z5:=toStr (ae (ae z4 3) 1)
 letI z6:=ai (ae (ae z4 1) 1)
 letI z7:=toStr (ae (ae z4 1) 0)
 letI z8:=toInt (ae (ae z4 2) 0)
 letI z9:=toStr (ae (ae z4 2) 1)
 letI z10:=toInt (ae (ae z4 2) 2)
 letI z11:=toInt (ae (ae z4 3) 0)
 letI z12:=toInt (ae (ae z4 3) 2)
 letI z13:=ai (ae (ae z4 2) 3)
 letI z14:=ai (ae (ae z4 3) 3)
 letI z15:=Value×AV
 letI z1:=∃(e3:cm×Int),([ar a,AV.int k],aI)=([ar e3.1,AV.int e3.2],aI)/\(aM (aF e3.1)=true/\(aZ (aa (bk 56 e3.1.hl e3.1.bl))<=100000/\
  e3.1.bl.length<=100000)/\(0:Int)<=e3.2/\e3.2<(↑(e3.1.bl.length):Int))/\∃(e2:List AV×List z15),([AV.mp 0,AV.ad 9 (strs (ee (aF e3.1)
  e3.2.toNat))],[Dn.Obj.map 9 4 es])=([AV.mp 0,AV.ad 9 e2.1],[Dn.Obj.map 9 4 e2.2])/\bq e2/\aD (gz e2.2 e2.1) (∃(e1:ByteArray×List AV),([AV.agg
  [AV.str z7,AV.ad 56 z6]],aI)=([AV.agg [AV.str e1.1,AV.ad 56 e1.2]],aI)/\jK e1/\∃(e0:List AV×List z15),([AV.mp 0,AV.ad 9 (List.take (List.length
  (dL (aa e1.2))) (List.drop 0 (strs (dL (aa e1.2)))))],[Dn.Obj.map 9 4 e2.2])=([AV.mp 0,AV.ad 9 e0.1],[Dn.Obj.map 9 4 e0.2])/\bq e0/\K (AV.bool (gz e0.2
  e0.1)) [Dn.Obj.map 9 4 e0.2]) (K (AV.bool false) [Dn.Obj.map 9 4 e2.2])
 letI z2:=∃(e1:LA),([AV.agg [AV.int (toInt (ae z4 0)),AV.agg [AV.str z7,AV.ad 56 z6],AV.agg [AV.int z8,AV.str z9,AV.int z10,AV.ad 56 z13],AV.agg
  [AV.int z11,AV.str z5,AV.int z12,AV.ad 56 z14]]],aI)=([AV.agg [AV.int e1.op,AV.agg [AV.str e1.s,AV.ad 56 e1.l],AV.agg [AV.int e1.o1,AV.str e1.s1,
  AV.int e1.n1,AV.ad 56 e1.l1],AV.agg [AV.int e1.o2,AV.str e1.s2,AV.int e1.n2,AV.ad 56 e1.l2]]],aI)/\gg e1/\∃(e0:List AV×List z15),([AV.mp 0,AV.ad
  9 (List.take (List.length (eh (LA.lt e1))) (List.drop 0 (strs (eh (LA.lt e1)))))],[Dn.Obj.map 9 4 es])=([AV.mp 0,AV.ad 9 e0.1],[Dn.Obj.map 9 4 e0.2])/\bq
  e0/\K (AV.bool (gz e0.2 e0.1)) [Dn.Obj.map 9 4 e0.2]
 letI z3:=∃(e4:List AV),([AV.ad 56 z6],aI)=([AV.ad 56 e4],aI)/\bG e4/\a7 (decide (List.length (List.take (List.length (ay (aa e4))) (List.drop 0
  (strs (ay (aa e4)))))<=9223372036854775807)) (aD (decide (dU z5 (List.take (List.length (ay (aa e4))) (List.drop 0 (strs (ay (aa e4))))) (0:Int)>=(0:
  Int))) z1 (K (AV.bool false) [Dn.Obj.map 9 4 es]))
 a7 (decide ((0:Int)<=k)&&decide (k<(↑(a.bl.length):Int))) (aD (toInt (ae z4 0)==(1:Int)) (∃(e1:ByteArray×List AV),([AV.agg [AV.str z7,AV.ad
 56 z6]],aI)=([AV.agg [AV.str e1.1,AV.ad 56 e1.2]],aI)/\jK e1/\∃(e0:List AV×List z15),([AV.mp 0,AV.ad 9 (List.take (List.length (dL (aa e1.2)))
 (List.drop 0 (strs (dL (aa e1.2)))))],[Dn.Obj.map 9 4 es])=([AV.mp 0,AV.ad 9 e0.1],[Dn.Obj.map 9 4 e0.2])/\bq e0/\K (AV.bool (gz e0.2 e0.1)) [Dn.Obj.map
 9 4 e0.2]) (aD (toInt (ae z4 0)==(3:Int)) (∃(e3:TA),([AV.mp 0,AV.agg [AV.int z8,AV.str z9,AV.int z10,AV.ad 56 z13],AV.agg [AV.int z11,AV.str z5,
 AV.int z12,AV.ad 56 z14]],[Dn.Obj.map 9 4 es])=([AV.mp 0,AV.agg [AV.int e3.o1,AV.str e3.s1,AV.int e3.n1,AV.ad 56 e3.l1],AV.agg [AV.int e3.o2,AV.str
 e3.s2,AV.int e3.n2,AV.ad 56 e3.l2]],[Dn.Obj.map 9 4 e3.es])/\iO e3/\aD (lI e3.es (TA.x e3) (TA.y e3)) (K (AV.bool true) [Dn.Obj.map 9 4 e3.es]) (∃(e2:
 TA),([AV.mp 0,AV.agg [AV.int z11,AV.str z5,AV.int z12,AV.ad 56 z14],AV.agg [AV.int z8,AV.str z9,AV.int z10,AV.ad 56 z13]],[Dn.Obj.map 9 4 e3.es])=
 ([AV.mp 0,AV.agg [AV.int e2.o1,AV.str e2.s1,AV.int e2.n1,AV.ad 56 e2.l1],AV.agg [AV.int e2.o2,AV.str e2.s2,AV.int e2.n2,AV.ad 56 e2.l2]],[Dn.Obj.map 9
 4 e2.es])/\iO e2/\aD (lI e2.es (TA.x e2) (TA.y e2)) (K (AV.bool true) [Dn.Obj.map 9 4 e2.es]) (∃(e1:LA),([AV.agg [AV.int (toInt (ae z4 0)),AV.agg [AV.str
 z7,AV.ad 56 z6],AV.agg [AV.int z8,AV.str z9,AV.int z10,AV.ad 56 z13],AV.agg [AV.int z11,AV.str z5,AV.int z12,AV.ad 56 z14]]],aI)=([AV.agg [AV.int
 e1.op,AV.agg [AV.str e1.s,AV.ad 56 e1.l],AV.agg [AV.int e1.o1,AV.str e1.s1,AV.int e1.n1,AV.ad 56 e1.l1],AV.agg [AV.int e1.o2,AV.str e1.s2,AV.int e1.n2,
 AV.ad 56 e1.l2]]],aI)/\gg e1/\∃(e0:List AV×List z15),([AV.mp 0,AV.ad 9 (List.take (List.length (eh (LA.lt e1))) (List.drop 0 (strs (eh (LA.lt
 e1)))))],[Dn.Obj.map 9 4 e2.es])=([AV.mp 0,AV.ad 9 e0.1],[Dn.Obj.map 9 4 e0.2])/\bq e0/\K (AV.bool (gz e0.2 e0.1)) [Dn.Obj.map 9 4 e0.2]))) (aD (toInt
 (ae z4 0)==(2:Int)) z2 (aD (toInt (ae z4 0)==(4:Int)) z2 (aD (toInt (ae z4 0)==(5:Int)) z2 (aD (toInt (ae z4 0)==(6:Int)) z2 (aD (toInt (ae z4
 0)==(7:Int)) (z1/\z1/\z1/\z1) (z3/\z3/\z3/\z3))))))))):=by kernel_rfl
def S4(a:cm×Int×List ByteArray):List AV×List Dn.Obj:=([.mp 0,ar a.1, .int a.2.1],[.map 9 4 (bQ a.2.2)])
def Jg(a:cm×Int×List ByteArray):Prop:=aM (aF a.1)=true/\de a.1/\0<=a.2.1/\a.2.1<a.1.bl.length
def Pd(a:cm×Int×List ByteArray):Out (AV×List Dn.Obj):= .one (.bool (nU a.2.2 (aF a.1) a.2.1.toNat),[.map 9 4 (bQ a.2.2)])
theorem zH(x y:AV)(es:List (Value×AV)):(TA.mk (toInt (ae x 0)) (toStr (ae x 1)) (toInt (ae x 2)) (ai (ae x 3)) (toInt (ae y 0)) (toStr (ae y 1)) (toInt (ae y 2)) (ai (ae y 3)) es).x=cR x:=by rw[dh];rfl
theorem nO(x y:AV)(es:List (Value×AV)):(TA.mk (toInt (ae x 0)) (toStr (ae x 1)) (toInt (ae x 2)) (ai (ae x 3)) (toInt (ae y 0)) (toStr (ae y 1)) (toInt (ae y 2)) (ai (ae y 3)) es).y=cR y:=by rw[dh];rfl
def lF(x y:AV)(es:List (Value×AV)):TA:=TA.mk (toInt (ae x 0)) (toStr (ae x 1)) (toInt (ae x 2)) (ai (ae x 3)) (toInt (ae y 0)) (toStr (ae y 1)) (toInt (ae y 2)) (ai (ae y 3)) es
theorem c52(κ:Kp):bu (T9 κ) 12 236 (aL S4 Jg Pd):=by
 refine aX ?_
 rintro⟨a,k,b⟩ K ⟨h1,h2,h3,h4⟩ ho
 refine Eq.mpr (y52 κ a k (bQ b) K) ?_
 simp only at h1 h2 h3 h4
 have hk:k.toNat<a.bl.length:=by omega
 have hlit:=kD h2 hk
 have ho':K (.bool (nU b (aF a) k.toNat)) [.map 9 4 (bQ b)]:=ho
 unfold nU at ho'
 rw[show(aF a).body=dg a.bl from rfl,km _ hk,show(cE (nth a.bl k.toNat)).op=toInt (ae (nth a.bl k.toNat) 0) from rfl,show(cE (nth a.bl k.toNat)).a.l=aa (ai (ae (ae (nth a.bl k.toNat) 1) 1)) from rfl,
  show(cE (nth a.bl k.toNat)).x=cR (ae (nth a.bl k.toNat) 2) from rfl,show(cE (nth a.bl k.toNat)).y=cR (ae (nth a.bl k.toNat) 3) from rfl] at ho'
 have hlc:iX (cE (nth a.bl k.toNat))=aZ [cR (ae (nth a.bl k.toNat) 2),cR (ae (nth a.bl k.toNat) 3)]+aZ (aa (ai (ae (ae (nth a.bl k.toNat) 1) 1))):=rfl
 have hcl:aZ (aa (ai (ae (ae (nth a.bl k.toNat) 1) 1)))<=100000:=by omega
 have hcx:aZ [cR (ae (nth a.bl k.toNat) 2)]<=100000/\aZ [cR (ae (nth a.bl k.toNat) 3)]<=100000:=by
  simp only[aZ] at hlc⊢;omega
 have hvl:=cx (aa (ai (ae (ae (nth a.bl k.toNat) 1) 1)))
 have hrl:=Cd (aa (ai (ae (ae (nth a.bl k.toNat) 1) 1)))
 have hol:=rL h2 k.toNat
 have hll:(eh (cE (nth a.bl k.toNat))).length<=100000:=by
  have e1:=cx [(cE (nth a.bl k.toNat)).x,(cE (nth a.bl k.toNat)).y]
  have e2:=cx (cE (nth a.bl k.toNat)).a.l
  simp only[eh,iX,ab9] at hlit⊢;omega
 simp only[and_self]
 rw[an,aa2,aa1,aa1]
 refine⟨⟨h3,h4⟩,?_⟩
 rw[ah,beq_iff_eq,beq_eq_false_iff_ne]
 refine⟨fun e1=>?_,fun e1=>?_⟩
 ·rw[aa7 e1,aa8] at ho'
  refine⟨(toStr (ae (ae (nth a.bl k.toNat) 1) 0),ai (ae (ae (nth a.bl k.toNat) 1) 1)),rfl,hcl,(strs (dL (aa (ai (ae (ae (nth a.bl k.toNat) 1) 1)))),bQ b),by simp only[ab1,cX],by simp only[bq,aW,aR];omega,?_⟩
  simp only[fc];exact ho'
 rw[aa5 e1,aa6] at ho'
 rw[ah,beq_iff_eq,beq_eq_false_iff_ne]
 refine⟨fun e2=>?_,fun e2=>?_⟩
 ·rw[aa7 e2,aa8] at ho'
  refine⟨lF (ae (nth a.bl k.toNat) 2) (ae (nth a.bl k.toNat) 3) (bQ b),rfl,by unfold iO lF;rw[nO];exact hcx.2,?_⟩
  unfold lF
  rw[zH,nO,oz]
  rw[ah]
  refine⟨fun f1=>by rw[f1] at ho';exact ho',fun f1=>?_⟩
  rw[f1,Bool.false_or] at ho'
  refine⟨lF (ae (nth a.bl k.toNat) 3) (ae (nth a.bl k.toNat) 2) (bQ b),rfl,by unfold iO lF;rw[nO];exact hcx.1,?_⟩
  unfold lF
  rw[zH,nO,oz,ah]
  refine⟨fun f2=>by rw[f2] at ho';exact ho',fun f2=>?_⟩
  rw[f2,Bool.false_or] at ho'
  exact⟨rR (nth a.bl k.toNat),rfl,by rw[gg,eC];exact hlit,(strs (eh (rR (nth a.bl k.toNat)).lt),bQ b),by simp only[ab1,cX],by simp only[bq,aW,aR];rw[eC];omega,by simp only[fc,eC];exact ho'⟩
 rw[aa5 e2,aa6] at ho'
 rw[ah,beq_iff_eq,beq_eq_false_iff_ne]
 refine⟨fun e3=>?_,fun e3=>?_⟩
 ·rw[aa7 e3] at ho'
  simp only[Bool.true_or,Bool.or_true,aa8] at ho'
  exact⟨rR (nth a.bl k.toNat),rfl,by rw[gg,eC];exact hlit,(strs (eh (rR (nth a.bl k.toNat)).lt),bQ b),by simp only[ab1,cX],by simp only[bq,aW,aR];rw[eC];omega,by simp only[fc,eC];exact ho'⟩
 rw[ah,beq_iff_eq,beq_eq_false_iff_ne]
 refine⟨fun e4=>?_,fun e4=>?_⟩
 ·rw[aa7 e4] at ho'
  simp only[Bool.true_or,Bool.or_true,aa8] at ho'
  exact⟨rR (nth a.bl k.toNat),rfl,by rw[gg,eC];exact hlit,(strs (eh (rR (nth a.bl k.toNat)).lt),bQ b),by simp only[ab1,cX],by simp only[bq,aW,aR];rw[eC];omega,by simp only[fc,eC];exact ho'⟩
 rw[ah,beq_iff_eq,beq_eq_false_iff_ne]
 refine⟨fun e5=>?_,fun e5=>?_⟩
 ·rw[aa7 e5] at ho'
  simp only[Bool.true_or,Bool.or_true,aa8] at ho'
  exact⟨rR (nth a.bl k.toNat),rfl,by rw[gg,eC];exact hlit,(strs (eh (rR (nth a.bl k.toNat)).lt),bQ b),by simp only[ab1,cX],by simp only[bq,aW,aR];rw[eC];omega,by simp only[fc,eC];exact ho'⟩
 rw[ah,beq_iff_eq,beq_eq_false_iff_ne]
 refine⟨fun e6=>?_,fun e6=>?_⟩
 ·rw[aa7 e6] at ho'
  simp only[Bool.true_or,Bool.or_true,aa8] at ho'
  exact⟨rR (nth a.bl k.toNat),rfl,by rw[gg,eC];exact hlit,(strs (eh (rR (nth a.bl k.toNat)).lt),bQ b),by simp only[ab1,cX],by simp only[bq,aW,aR];rw[eC];omega,by simp only[fc,eC];exact ho'⟩
 rw[aa5 e3,aa5 e4,aa5 e5,aa5 e6] at ho'
 simp only[Bool.false_or,aa6] at ho'
 rw[ah,beq_iff_eq,beq_eq_false_iff_ne]
 refine⟨fun e7=>?_,fun e7=>?_⟩
 ·rw[aa7 e7,Bool.true_or,ac0] at ho'
  refine⟨(a,k),rfl,⟨h1,h2,h3,h4⟩,(strs (ee (aF a) k.toNat),bQ b),rfl,by simp only[bq,aW,aR];omega,ah.2 ⟨fun f1=>⟨(toStr (ae (ae (nth a.bl k.toNat) 1) 0),ai (ae (ae (nth a.bl k.toNat) 1) 1)),rfl,hcl,(strs (dL (aa (ai (ae (ae (nth a.bl k.toNat) 1) 1)))),bQ b),by simp only[ab1,cX],by simp only[bq,aW,aR];omega,?_⟩,fun f1=>?_⟩⟩
  ·rw[fc] at f1
   simp only[fc]
   rw[f1,ac0] at ho';exact ho'
  ·rw[fc] at f1
   rw[f1,Bool.false_and] at ho';exact ho'
 ·rw[aa5 e7,Bool.false_or] at ho'
  refine⟨_,rfl,hcl,?_⟩
  have hp:=xM (toStr (ae (ae (nth a.bl k.toNat) 3) 1)) (ay (aa (ai (ae (ae (nth a.bl k.toNat) 1) 1)))) 0 (by omega)
  have hs:(cR (ae (nth a.bl k.toNat) 3)).s=toStr (ae (ae (nth a.bl k.toNat) 3) 1):=by rw[dh];rfl
  simp only[ab1,cX,aW,hp]
  rw[an,aa1,ah]
  rw[hs] at ho'
  refine⟨by omega,fun e8=>?_,fun e8=>?_⟩
  ·rw[e8,ac0] at ho'
   refine⟨(a,k),rfl,⟨h1,h2,h3,h4⟩,(strs (ee (aF a) k.toNat),bQ b),rfl,by simp only[bq,aW,aR];omega,ah.2 ⟨fun f1=>⟨(toStr (ae (ae (nth a.bl k.toNat) 1) 0),ai (ae (ae (nth a.bl k.toNat) 1) 1)),rfl,hcl,(strs (dL (aa (ai (ae (ae (nth a.bl k.toNat) 1) 1)))),bQ b),by simp only[ab1,cX],by simp only[bq,aW,aR];omega,?_⟩,fun f1=>?_⟩⟩
   ·rw[fc] at f1
    simp only[fc]
    rw[f1,ac0] at ho';exact ho'
   ·rw[fc] at f1
    rw[f1,Bool.false_and] at ho';exact ho'
  ·rw[e8,Bool.false_and] at ho';exact ho'
noncomputable def OH(κ:Kp):Env:=(T9 κ).aw 236 (aL S4 Jg Pd)
theorem e52(κ:Kp):aB (OH κ):=(e24 κ).aw (ZA κ) (c52 κ)
theorem Y4(κ:Kp):aj (OH κ):=(ZA κ).aw aJ
def cd(l:List Bool):List AV:=l.map fun b=> .lit (.bool b)
theorem jo(l:List Bool):(cd l).length=l.length:=by simp[cd]
theorem HG(l:List Bool)(k:Nat):Dn.toBool (nth (cd l) k)=Rl.eZ l k:=by
 unfold Rl.eZ
 rw[List.getD_eq_getElem?_getD]
 induction l generalizing k with
 |nil=>rfl
 |cons a l ih=>
  cases k with
  |zero=>rfl
  |succ k=>simpa[cd,nth] using ih k
structure IZ where
 a:cm
 done:List Bool
 b:List ByteArray
 i:Int
 first:Int
abbrev Gb(a:IZ):S:=sp 38 [(1, .aq 0 0 (cd a.done).length),(2, .mp 1),(3, .ptr 2 0 [] 0),(7, .int a.first),(11, .ad 72 a.a.bl),(12, .int a.a.bl.length),(13, .int a.i)] [.row 4 (cd a.done), .map 9 4 (bQ a.b), .box 66 (ar a.a)]
theorem x36(κ:Kp)(a:IZ)(es:List (Value×AV))(I:Nat->S->Prop)(n:Nat)(K:Exit->S->Prop):(vc (OH κ) 12 187 none 2 (af (Pr κ).toProgram 187 3) (sp 38 [(1, .aq 0 0 (cd a.done).length),(2, .mp 1),(3, .ptr 2 0 [] 0),(7, .int a.first),(11, .ad 72 a.a.bl),(12, .int a.a.bl.length),(13, .int a.i)] [.row 4 (cd a.done), .map 9 4 es, .box 66 (ar a.a)]) (bJ (OH κ) 187 3 2 I n K))=(
 letI z1:=IntKind.wrap IntKind.i64 (a.i+(1:Int))
 letI z2:=List.length (cd a.done)
 letI z3:=List.length a.a.bl
 aD (decide (a.i<(↑z3:Int))) (a7 (decide ((0:Int)<=a.i)&&decide (a.i<(↑z3:Int))) (a7 (decide ((0:Int)<=a.i)&&decide (a.i<(↑z2:Int))) (aD
 (Dn.toBool (nth (cd a.done) (0+a.i.toNat))) (∃(e0:Nat),e0<n/\I e0 (sp 38 [(1,AV.aq 0 0 z2),(2,AV.mp 1),(3,AV.ptr 2 0 [] 0),(7,AV.int a.first),
 (11,AV.ad 72 a.a.bl),(12,AV.int (↑z3:Int)),(13,AV.int z1)] [Obj.row 4 (cd a.done),Dn.Obj.map 9 4 es,Obj.box 66 (ar a.a)])) (∃(e1:cm×Int×List
 ByteArray),([AV.mp 0,ar a.a,AV.int a.i],[Dn.Obj.map 9 4 es])=([AV.mp 0,ar e1.1,AV.int e1.2.1],[Dn.Obj.map 9 4 (bQ e1.2.2)])/\(aM (aF e1.1)=true/\
 (aZ (aa (bk 56 e1.1.hl e1.1.bl))<=100000/\e1.1.bl.length<=100000)/\(0:Int)<=e1.2.1/\e1.2.1<(↑(e1.1.bl.length):Int))/\aD (!nU e1.2.2 (aF e1.1)
 e1.2.1.toNat) (∃(e0:Nat),e0<n/\I e0 (sp 38 [(1,AV.aq 0 0 z2),(2,AV.mp 1),(3,AV.ptr 2 0 [] 0),(7,AV.int a.first),(11,AV.ad 72 a.a.bl),(12,
 AV.int (↑z3:Int)),(13,AV.int z1)] [Obj.row 4 (cd a.done),Dn.Obj.map 9 4 (bQ e1.2.2),Obj.box 66 (ar a.a)])) (aD (toInt (ae (nth a.a.bl a.i.toNat) 0) != (1
 :Int)) (K Exit.ret (sp 38 [(6,AV.int a.i)] [Obj.row 4 (cd a.done),Dn.Obj.map 9 4 (bQ e1.2.2)])) (aD (decide (a.first<(0:Int))) (∃(e0:Nat),e0<n/\I
 e0 (sp 38 [(1,AV.aq 0 0 z2),(2,AV.mp 1),(3,AV.ptr 2 0 [] 0),(7,AV.int a.i),(11,AV.ad 72 a.a.bl),(12,AV.int (↑z3:Int)),(13,AV.int z1)] [Obj.row 4
 (cd a.done),Dn.Obj.map 9 4 (bQ e1.2.2),Obj.box 66 (ar a.a)])) (∃(e0:Nat),e0<n/\I e0 (sp 38 [(1,AV.aq 0 0 z2),(2,AV.mp 1),(3,AV.ptr 2 0 [] 0),(7,
 AV.int a.first),(11,AV.ad 72 a.a.bl),(12,AV.int (↑z3:Int)),(13,AV.int z1)] [Obj.row 4 (cd a.done),Dn.Obj.map 9 4 (bQ e1.2.2),Obj.box 66 (ar
 a.a)])))))))) (K (Exit.exit 0) (sp 38 [(7,AV.int a.first)] [Obj.row 4 (cd a.done),Dn.Obj.map 9 4 es]))):=by kernel_rfl
def AK(a:IZ):Prop:=aM (aF a.a)=true/\de a.a/\0<=a.i/\a.i<=a.a.bl.length/\a.done.length=a.a.bl.length
def yj(a:IZ):Int:=mc (aF a.a) a.done a.b (a.a.bl.length - a.i.toNat) a.i.toNat a.first
def Dp(a:IZ):Out (Exit×S):= .all (fun _:Bool=>True) fun e=> .aD e (.one (.ret,sp 38 [(6, .int (yj a))] [.row 4 (cd a.done), .map 9 4 (bQ a.b)])) (.one (.exit 0,sp 38 [(7, .int (yj a))] [.row 4 (cd a.done), .map 9 4 (bQ a.b)]))
theorem l36(κ:Kp):bj (OH κ) 12 187 3 (aO 2 Gb AK Dp):=by
 refine aK (fun a=>a.a.bl.length - a.i.toNat) ?_
 rintro⟨a,done,b,i,first⟩ K ⟨h1,h2,h3,h4,h5⟩ ho
 simp only at h1 h2 h3 h4 h5
 rw[show(OH κ).P=Pr κ from rfl]
 refine Eq.mpr (x36 κ ⟨a,done,b,i,first⟩ (bQ b) _ _ K) ?_
 have ho1:=ho true trivial
 have ho2:=ho false trivial
 simp only[Out.run,aD,yj] at ho1 ho2
 simp only[Nat.zero_add,HG]
 have hbl:=jo done
 have hl:=h2.2
 rw[ah,an,an,aa2,aa2,aa1,aa1,aa1,aa3]
 have go:i<a.bl.length->∀f:Int,mc (aF a) done b (a.bl.length - i.toNat) i.toNat first=mc (aF a) done b (a.bl.length - (i.toNat+1)) (i.toNat+1) f->
   ∃m,m<a.bl.length - i.toNat/\fm Gb AK Dp (fun a=>a.a.bl.length - a.i.toNat) K m (Gb ⟨a,done,b,i+1,f⟩):=by
  intro hi f hf
  refine⟨_,?_,⟨a,done,b,i+1,f⟩,rfl,⟨h1,h2,by simp only;omega,by simp only;omega,h5⟩,rfl,?_⟩
  ·simp only;omega
  ·intro e _
   simp only[Out.run,yj,show(i+1).toNat=i.toNat+1 by omega,←hf]
   cases e
   ·exact ho2
   ·exact ho1
 refine⟨fun hi=>⟨⟨h3,hi⟩,⟨h3,by omega⟩,?_⟩,fun hi=>?_⟩
 ·have hn:=D6 (aF a) done b (a.bl.length - (i.toNat+1)) i.toNat first
  rw[show a.bl.length - (i.toNat+1)+1=a.bl.length - i.toNat by omega] at hn
  have hk:i.toNat<a.bl.length:=by omega
  have hop:(dP (aF a).body i.toNat).op=toInt (ae (nth a.bl i.toNat) 0):=by
   rw[show(aF a).body=dg a.bl from rfl,km _ hk];rfl
  rw[hop] at hn
  rw[aV (n:=i+1) (by omega) (by omega),ah]
  refine⟨fun e=>go hi first (by rw[hn,e];rfl),fun e=>⟨(a,i,b),rfl,⟨h1,h2,h3,hi⟩,?_⟩⟩
  rw[e,Bool.false_or] at hn
  simp only[ah,Bool.not_eq_true',ab3,bne_iff_ne,bne_eq_false_iff_eq,aa1,aa3]
  refine⟨fun e1=>go hi first (by rw[hn,e1];rfl),fun e1=>⟨fun e2=>?_,fun e2=>⟨fun e3=>go hi i ?_,fun e3=>go hi first ?_⟩⟩⟩
  ·rw[hn,e1,aa5 e2] at ho1
   simp only[Bool.not_true,aa6,Bool.not_false,aa8,Int.toNat_of_nonneg h3] at ho1
   exact ho1
  ·rw[hn,e1,aa7 e2,aa7 e3]
   simp only[Bool.not_true,aa6,aa8,Int.toNat_of_nonneg h3]
  ·rw[hn,e1,aa7 e2,aa5 e3]
   simp only[Bool.not_true,aa6]
 ·rw[show a.bl.length - i.toNat=0 by omega] at ho2
  exact ho2
noncomputable def KS(κ:Kp):Env:=(OH κ).ak 187 3 (aO 2 Gb AK Dp)
theorem Wn(κ:Kp):aB (KS κ):=(e52 κ).ak (Y4 κ) (l36 κ)
theorem Tu(κ:Kp):aj (KS κ):=(Y4 κ).ak aG
theorem y36(κ:Kp)(a:IZ)(K:AV->List Dn.Obj->Prop):(ba (KS κ) 12 187 [ar a.a, .aq 0 0 (cd a.done).length, .mp 1] [.row 4 (cd a.done), .map 9 4 (bQ a.b)] K)=(
 letI z1:=Pg.toProgram (Env.P (OH κ))
 af z1 187 3=af z1 187 3/\∃(e1:IZ),sp 38 [(1,AV.aq 0 0 (List.length (cd a.done))),(2,AV.mp 1),(3,AV.ptr 2 0 [] 0),(7,AV.int (-1)),(11,AV.ad 72
 a.a.bl),(12,AV.int (↑(List.length a.a.bl):Int)),(13,AV.int 0)] [Obj.row 4 (cd a.done),Dn.Obj.map 9 4 (bQ a.b),Obj.box 66 (ar a.a)]=sp 38 [(1,AV.aq 0
 0 (List.length (cd e1.done))),(2,AV.mp 1),(3,AV.ptr 2 0 [] 0),(7,AV.int e1.first),(11,AV.ad 72 e1.a.bl),(12,AV.int (↑(List.length e1.a.bl):Int)),
 (13,AV.int e1.i)] [Obj.row 4 (cd e1.done),Dn.Obj.map 9 4 (bQ e1.b),Obj.box 66 (ar e1.a)]/\(aM (aF e1.a)=true/\(aZ (aa (bk 56 e1.a.hl e1.a.bl))<=100000/\
 List.length e1.a.bl<=100000)/\(0:Int)<=e1.i/\e1.i<=(↑(List.length e1.a.bl):Int)/\e1.done.length=List.length e1.a.bl)/\∀(e0:Bool),True->aD e0
 (K (AV.int (yj e1)) [Obj.row 4 (cd e1.done),Dn.Obj.map 9 4 (bQ e1.b)]) (K (AV.int (yj e1)) [Obj.row 4 (cd e1.done),Dn.Obj.map 9 4 (bQ e1.b)])):=by kernel_rfl
def TL(a:IZ):List AV×List Dn.Obj:=([ar a.a, .aq 0 0 (cd a.done).length, .mp 1],[.row 4 (cd a.done), .map 9 4 (bQ a.b)])
def Ja(a:IZ):Prop:=aM (aF a.a)=true/\de a.a/\a.done.length=a.a.bl.length
def Pz(a:IZ):Out (AV×List Dn.Obj):= .one (.int (aE (aF a.a) a.done a.b),[.row 4 (cd a.done), .map 9 4 (bQ a.b)])
theorem fW(a:cm):(aF a).body.length=a.bl.length:=zU a.bl
theorem c36(κ:Kp):bu (KS κ) 12 187 (aL TL Ja Pz):=by
 refine aX ?_
 rintro⟨a,done,b,i,first⟩ K ⟨h1,h2,h5⟩ ho
 refine Eq.mpr (y36 κ ⟨a,done,b,i,first⟩ K) ?_
 simp only at h1 h2 h5
 have ho':K (.int (aE (aF a) done b)) [.row 4 (cd done), .map 9 4 (bQ b)]:=ho
 unfold aE at ho'
 rw[fW] at ho'
 refine⟨rfl,⟨a,done,b,0, -1⟩,rfl,⟨h1,h2,by simp only;omega,by simp only;omega,h5⟩,?_⟩
 intro e _
 cases e
 ·exact ho'
 ·exact ho'
noncomputable def MU(κ:Kp):Env:=(KS κ).aw 187 (aL TL Ja Pz)
theorem e36(κ:Kp):aB (MU κ):=(Wn κ).aw (Tu κ) (c36 κ)
theorem ZT(κ:Kp):aj (MU κ):=(Tu κ).aw aJ
def ints(l:List Nat):List AV:=l.map fun(k:Nat)=>AV.lit (.int .i64 (k:Int))
theorem n9(l:List Nat):(ints l).length=l.length:=by simp[ints]
theorem Ko(l m:List Nat):ints (l++m)=ints l++ints m:=by simp[ints]
structure Tn where
 a:cm
 ks:List Nat
 done:List Bool
 b:List ByteArray
 i:Int
noncomputable abbrev UJ(a:cm)(κ:Kp):Dn.Obj:=
 .loop (gh (Pr κ).toProgram 112 4 .ready none (fV (bF 40) [(0,ar a),(1, .ptr 0 0 [] 0),(2, .nil),(3, .lit .nilIface),(4, .ptr 1 0 [] 0),(5, .ptr 3 0 [] 0),(7, .mp 2),(8,ar a),(9, .bL 186 [.ptr 4 0 [] 0])]))
noncomputable abbrev Hc(κ:Kp)(a:cm)(ks:List Nat)(b:List ByteArray):List Dn.Obj:=[.box 66 (ar a), .box 38 (.aq 6 0 (ints ks).length), .map 9 4 (bQ b), .box 178 (.mp 2), .box 66 (ar a),UJ a κ, .row 3 (ints ks)]
noncomputable abbrev Js(κ:Kp)(a:Tn):S:=sp 38 [(0, .cD 5),(1, .ptr 4 0 [] 0),(3, .mp 7),(4, .aq 8 0 (cd a.done).length),(13, .int a.a.bl.length),(14, .int a.i)] (Hc κ a.a a.ks a.b++[.map 9 4 (bQ a.b), .row 4 (cd a.done)])
theorem x17(κ:Kp)(a:cm)(ks:List AV)(es es':List (Value×AV))(done:List AV)(i:Int)(I:Nat->S->Prop)(n:Nat)(K:Exit->S->Prop):(vc (MU κ) 12 186 none 6 (af (Pr κ).toProgram 186 3) (sp 38 [(0, .cD 5),(1, .ptr 4 0 [] 0),(3, .mp 7),(4, .aq 8 0 done.length),(13, .int a.bl.length),(14, .int i)] [.box 66 (ar a), .box 38 (.aq 6 0 ks.length), .map 9 4 es, .box 178 (.mp 2), .box 66 (ar a),UJ a κ, .row 3 ks, .map 9 4 es', .row 4 done]) (bJ (MU κ) 186 3 6 I n K))=(
 letI z1:=gh Tryz.prog 112 4 LoopState.ready none (fV (bF 40) [(0,ar a),(1,AV.ptr 0 0 [] 0),(2,AV.nil),(3,AV.lit Value.nilIface),(4,AV.ptr 1 0 [] 0),
  (5,AV.ptr 3 0 [] 0),(7,AV.mp 2),(8,ar a),(9,AV.bL 186 [AV.ptr 4 0 [] 0])])
 letI z2:=sp 38 [] [Obj.box 66 (ar a),Obj.box 38 (AV.aq 6 0 ks.length),Dn.Obj.map 9 4 es,Obj.box 178 (AV.mp 2),Obj.box 66 (ar a),Dn.Obj.loop z1,Obj.row 3
  ks]
 letI z3:=IntKind.wrap IntKind.i64 (i+(1:Int))
 letI z4:=Value×AV
 letI z5:=AV.aq 6 0 (ks.length+1)
 aD (decide (i<(↑(a.bl.length):Int))) (∃(e5:IZ),([ar a,AV.aq 0 0 done.length,AV.mp 1],[Obj.row 4 done,Dn.Obj.map 9 4 es'])=([ar e5.a,AV.aq 0 0
 (List.length (cd e5.done)),AV.mp 1],[Obj.row 4 (cd e5.done),Dn.Obj.map 9 4 (bQ e5.b)])/\(aM (aF e5.a)=true/\(aZ (aa (bk 56 e5.a.hl e5.a.bl))<=100000/\
 List.length e5.a.bl<=100000)/\e5.done.length=List.length e5.a.bl)/\aD (decide (aE (aF e5.a) e5.done e5.b<(0:Int))) (K Exit.ret z2) (a7 (decide
 ((ks.length+1+1)*9<=70368744177664)) ((∃(e4:cm×Int),([ar a,AV.int (aE (aF e5.a) e5.done e5.b)],aI)=([ar e4.1,AV.int e4.2],aI)/\(aM (aF e4.1)
 =true/\(aZ (aa (bk 56 e4.1.hl e4.1.bl))<=100000/\e4.1.bl.length<=100000)/\(0:Int)<=e4.2/\e4.2<(↑(e4.1.bl.length):Int))/\∃(e3:List AV×List
 z4),([AV.mp 0,AV.ad 9 (strs (cV (aF e4.1) e4.2.toNat))],[Dn.Obj.map 9 4 es])=([AV.mp 0,AV.ad 9 e3.1],[Dn.Obj.map 9 4 e3.2])/\bq e3/\a7 (decide ((0:
 Int)<=aE (aF e5.a) e5.done e5.b)&&decide (aE (aF e5.a) e5.done e5.b<(↑(done.length):Int))) (∃(e2:cm×Int),([ar a,AV.int (aE (aF e5.a) e5.done
 e5.b)],aI)=([ar e2.1,AV.int e2.2],aI)/\(aM (aF e2.1)=true/\(aZ (aa (bk 56 e2.1.hl e2.1.bl))<=100000/\e2.1.bl.length<=100000)/\(0:Int)<=e2.2/\
 e2.2<(↑(e2.1.bl.length):Int))/\∃(e1:List AV×List z4),([AV.mp 0,AV.ad 9 (strs (cV (aF e2.1) e2.2.toNat))],[Dn.Obj.map 9 4 (bQ e5.b)])=([AV.mp 0,
 AV.ad 9 e1.1],[Dn.Obj.map 9 4 e1.2])/\bq e1/\∃(e0:Nat),e0<n/\I e0 (sp 38 [(0,AV.cD 5),(1,AV.ptr 4 0 [] 0),(3,AV.mp 7),(4,AV.aq 8 0
 done.length),(13,AV.int (↑(a.bl.length):Int)),(14,AV.int z3)] [Obj.box 66 (ar a),Obj.box 38 z5,Dn.Obj.map 9 4 (fx e3.2 e3.1),Obj.box 178 (AV.mp 2),
 Obj.box 66 (ar a),Dn.Obj.loop z1,Obj.row 3 (List.take ks.length ks++[AV.int (aE (aF e5.a) e5.done e5.b)]),Dn.Obj.map 9 4 (fx e1.2 e1.1),Obj.row 4 (cg (cd
 e5.done) (0+Int.toNat (aE (aF e5.a) e5.done e5.b)) (AV.bool true))])))/\∃(e4:cm×Int),([ar a,AV.int (aE (aF e5.a) e5.done e5.b)],aI)=([ar e4.1,
 AV.int e4.2],aI)/\(aM (aF e4.1)=true/\(aZ (aa (bk 56 e4.1.hl e4.1.bl))<=100000/\e4.1.bl.length<=100000)/\(0:Int)<=e4.2/\e4.2<(↑(e4.1.bl.length):
 Int))/\∃(e3:List AV×List z4),([AV.mp 0,AV.ad 9 (strs (cV (aF e4.1) e4.2.toNat))],[Dn.Obj.map 9 4 es])=([AV.mp 0,AV.ad 9 e3.1],[Dn.Obj.map 9 4
 e3.2])/\bq e3/\a7 (decide ((0:Int)<=aE (aF e5.a) e5.done e5.b)&&decide (aE (aF e5.a) e5.done e5.b<(↑(done.length):Int))) (∃(e2:cm×Int),([ar a,
 AV.int (aE (aF e5.a) e5.done e5.b)],aI)=([ar e2.1,AV.int e2.2],aI)/\(aM (aF e2.1)=true/\(aZ (aa (bk 56 e2.1.hl e2.1.bl))<=100000/\e2.1.bl.length<=
 100000)/\(0:Int)<=e2.2/\e2.2<(↑(e2.1.bl.length):Int))/\∃(e1:List AV×List z4),([AV.mp 0,AV.ad 9 (strs (cV (aF e2.1) e2.2.toNat))],[Dn.Obj.map 9
 4 (bQ e5.b)])=([AV.mp 0,AV.ad 9 e1.1],[Dn.Obj.map 9 4 e1.2])/\bq e1/\∃(e0:Nat),e0<n/\I e0 (sp 38 [(0,AV.cD 5),(1,AV.ptr 4 0 [] 0),(3,AV.mp 7),
 (4,AV.aq 8 0 done.length),(13,AV.int (↑(a.bl.length):Int)),(14,AV.int z3)] [Obj.box 66 (ar a),Obj.box 38 z5,Dn.Obj.map 9 4 (fx e3.2 e3.1),Obj.box 178
 (AV.mp 2),Obj.box 66 (ar a),Dn.Obj.loop z1,Obj.row 3 (List.take ks.length ks++[AV.int (aE (aF e5.a) e5.done e5.b)]),Dn.Obj.map 9 4 (fx e1.2 e1.1),Obj.row
 4 (cg (cd e5.done) (0+Int.toNat (aE (aF e5.a) e5.done e5.b)) (AV.bool true))]))))) (K (Exit.exit 0) z2)):=by kernel_rfl
theorem pF: ∀(l:List Bool) (k:Nat),cg (cd l) k (.lit (.bool true))=cd (l.set k true)
 |[],_=>rfl
 |_::_,0=>rfl
 |a::l,k+1=>by
  have:=pF l k
  simp only[cd] at this
  simp only[cd,ac1,cg,List.set_cons_succ,this]
noncomputable def eS(a:Tn):List Nat:=nb (aF a.a) (a.a.bl.length - a.i.toNat) a.done a.b
def FD(a:Tn):Prop:=aM (aF a.a)=true/\de a.a/\0<=a.i/\a.i<=a.a.bl.length/\a.done.length=a.a.bl.length/\a.ks.length<=a.i.toNat
noncomputable def Jc(κ:Kp)(a:Tn):Out (Exit×S):= .all (fun _:Bool=>True) fun e=> .aD e (.one (.ret,sp 38 [] (Hc κ a.a (a.ks++eS a) (a.b++eV (aF a.a) (eS a)))))
 (.one (.exit 0,sp 38 [] (Hc κ a.a (a.ks++eS a) (a.b++eV (aF a.a) (eS a)))))
theorem sc{a:cm}(h:de a){k:Nat}(hk:k<a.bl.length):(cV (aF a) k).length<=200000:=by
 have hlit:=kD h hk
 have hol:=rL h k
 have hc:=Fz (cE (nth a.bl k))
 have hv:=cx [(cE (nth a.bl k)).x]
 have e1:=cx [(cE (nth a.bl k)).x,(cE (nth a.bl k)).y]
 have e2:=cx (cE (nth a.bl k)).a.l
 unfold cV
 rw[show(aF a).body=dg a.bl from rfl,km _ hk]
 cases decide (7<=(cE (nth a.bl k)).op) with
 |true=>rw[aa8,ab9];omega
 |false=>
  rw[aa6]
  simp only[eh,iX,ab9] at hlit⊢;omega
theorem l17(κ:Kp):bj (MU κ) 12 186 3 (aO 6 (Js κ) FD (Jc κ)):=by
 refine aK (fun a=>a.a.bl.length - a.i.toNat) ?_
 rintro⟨a,ks,done,b,i⟩ K ⟨h1,h2,h3,h4,h5,h6⟩ ho
 simp only at h1 h2 h3 h4 h5 h6
 rw[show(MU κ).P=Pr κ from rfl]
 refine Eq.mpr (x17 κ a (ints ks) (bQ b) (bQ b) (cd done) i _ _ K) ?_
 have ho1:=ho true trivial
 have ho2:=ho false trivial
 simp only[Out.run,aD,eS] at ho1 ho2
 simp only[and_self]
 have hbl:=jo done
 have hil:=n9 ks
 have hl:=h2.2
 rw[ah,aa1,aa3]
 refine⟨fun hi=>⟨⟨a,done,b,0,0⟩,rfl,⟨h1,h2,h5⟩,?_⟩,fun hi=>?_⟩
 ·have hw:=EW (aF a) (a.bl.length - (i.toNat+1)) done b
  rw[show a.bl.length - (i.toNat+1)+1=a.bl.length - i.toNat by omega] at hw
  rw[ah,aa1,aa3]
  refine⟨fun e=>?_,fun e=>?_⟩
  ·rw[hw,aa7 e] at ho1
   simp only[aa8,List.append_nil,eV,List.flatMap_nil] at ho1
   exact ho1
  ·rw[hw,aa5 e,aa6] at ho1 ho2
   rcases pS (aF a) done b with e0|⟨e1,e2,e3,_⟩
   ·rw[e0] at e;omega
   have e2':=e2
   rw[fW] at e2'
   have hg:=sc h2 e2'
   rw[an,aa1]
   refine⟨by omega,(a,aE (aF a) done b),rfl,⟨h1,h2,e1,by simp only;omega⟩,(strs (cV (aF a) (aE (aF a) done b).toNat),bQ b),rfl,by simp only[bq,aW,aR];omega,?_⟩
   rw[an,aa2,aa1,aa1]
   refine⟨⟨e1,by show aE (aF a) done b<_;omega⟩,(a,aE (aF a) done b),rfl,⟨h1,h2,e1,by simp only;omega⟩,(strs (cV (aF a) (aE (aF a) done b).toNat),bQ b),rfl,by simp only[bq,aW,aR];omega,?_⟩
   rw[aV (n:=i+1) (by omega) (by omega)]
   refine⟨_,?_,⟨a,ks++[(aE (aF a) done b).toNat],done.set (aE (aF a) done b).toNat true,b++cV (aF a) (aE (aF a) done b).toNat,i+1⟩,?_,⟨h1,h2,by simp only;omega,by simp only;omega,by simpa using h5,by simp only[ab9,List.length_singleton];omega⟩,rfl,?_⟩
   ·simp only;omega
   ·simp only[List.take_length]
    simp only[Js,Hc,List.cons_append,List.nil_append,Nat.zero_add,pF,l9,jo,List.length_set,Ko,n9,ab9,List.length_singleton]
    simp only[ints,ac1,ac2,Int.toNat_of_nonneg e1,List.length_singleton]
   ·have hg2: ∀l,b++eV (aF a) ((aE (aF a) done b).toNat::l)=(b++cV (aF a) (aE (aF a) done b).toNat)++eV (aF a) l:=fun l=>by
     simp only[eV,List.flatMap_cons,List.append_assoc]
    have hk2: ∀l,ks++(aE (aF a) done b).toNat::l=(ks++[(aE (aF a) done b).toNat])++l:=fun l=>by simp
    rw[hg2,hk2] at ho1 ho2
    intro f _
    simp only[Out.run,eS,show(i+1).toNat=i.toNat+1 by omega]
    cases f
    ·exact ho2
    ·exact ho1
 ·rw[show a.bl.length - i.toNat=0 by omega] at ho2
  simp only[nb,List.append_nil,eV,List.flatMap_nil] at ho2
  exact ho2
noncomputable def HJ(κ:Kp):Env:=(MU κ).ak 186 3 (aO 6 (Js κ) FD (Jc κ))
theorem Yo(κ:Kp):aB (HJ κ):=(e36 κ).ak (ZT κ) (l17 κ)
theorem MK(κ:Kp):aj (HJ κ):=(ZT κ).ak aG
end Go.Proofs.YthaiinlfnommnaaGreatDoor
namespace Go.Proofs.YthaiinlfnommnaaGreatDoor
open Go Go.Dn Go.Rl Go.Proofs Go.RowKit Go.Extern.Stop Go.Stop Go.Extern
theorem TU(v:Value)(xT:TypeId)(w:World):(Instr.typeAssert (.iface 278 v) xT 284 true).run Tryz.prog w= .ok (.tuple #[.nilIface, .bool false]) w:=run_typeAssert_lacksB Tryz.underlying284 (by kernel_rfl) (by kernel_rfl) v xT w
theorem IJ(v:Value)(xT:TypeId)(w:World):(Instr.typeAssert (.iface 278 v) xT 286 true).run Tryz.prog w= .ok (.tuple #[.nilIface, .bool false]) w:=run_typeAssert_lacksB Tryz.underlying286 (by kernel_rfl) (by kernel_rfl) v xT w
theorem A9(v:Value)(xT:TypeId)(w:World):(Instr.typeAssert (.iface 278 v) xT 288 true).run Tryz.prog w= .ok (.tuple #[.iface 278 v, .bool true]) w:=run_typeAssert_hasB Tryz.underlying288 (by kernel_rfl) v xT w
theorem wU(v:Value)(w:World):(Go.method 443 278 v "Unwrap").run Tryz.prog w= .ok (286,v) w:=by kernel_rfl
set_option maxRecDepth 4000 in
theorem IA(a:Addr)(w:World):
  Calls Tryz.prog 185 #[.iface 306 (.pointer (some a)), .iface 306 (.pointer (some a)), .bool true] w fun e w'=>e= .returned (.bool true)/\w'=w:=by
 obtain⟨i,hi,hcmp⟩:=Option.map_eq_some_iff.1 DY
 obtain⟨j,hj,hjs⟩:=Option.map_eq_some_iff.1 E3
 have heq:=run_eql_iface_ptr_same (P:=Tryz.prog) w a Tryz.underlying170 Tryz.underlying306 hi hcmp hj
 go_enter Tryz.func185,Tryz.ntmps185
 go_wp2
 refine wp_loop_rounds 1 ?_
 rw[rounds_succ]
 go_wp2
 go_ret
 exact⟨rfl,rfl⟩
set_option maxRecDepth 8000 in
theorem Nw(ja ra b:Addr)(cap:Nat)(w:World)(h1:w.cell? ja=some (.slice (some ra) 1 cap))(h2:w.cell? ra=some (.iface 306 (.pointer (some b)))):
  Calls Tryz.prog 113 #[.iface 278 (.pointer (some ja)), .iface 306 (.pointer (some b))] w fun e w'=>e= .returned (.bool true)/\w'=w:=by
 have h8:= @run_callFunc_extern Tryz.prog 184 _ Extern.ReflectliteType.typeOf Tryz.func184 (by kernel_rfl) (by kernel_rfl) (by kernel_rfl) (by kernel_rfl)
 have h32:= @run_callFunc_extern Tryz.prog 290 _ (Extern.ReflectliteType.method fun t=>do Go.Extern.Rtype.noPackHeld "Comparable" t;pure (.bool (←typeInfo t).comparable)) Tryz.func290 (by kernel_rfl) (by kernel_rfl) (by kernel_rfl) (by kernel_rfl)
 have tT:=wc
 have cT:=my
 have mR:=iy
 have hne:=run_eql_iface_types (P:=Tryz.prog) 278 306 (.pointer (some ja)) (.pointer (some b)) Tryz.underlying170 (by decide)
 have n1:=TU
 have n2:=IJ
 have n3:=A9
 have mU:=wU
 go_enter Tryz.func113,Tryz.ntmps113
 go_wp2
 refine wp_loop_rounds 1 ?_
 rw[rounds_succ]
 go_wp2
 refine wp_loop_rounds 1 ?_
 rw[rounds_succ]
 go_wp2_with (first|(go_at_call 185;refine(IA b _).mono ?_;rintro e w' ⟨rfl,rfl⟩))
 all_goals (go_ret;exact⟨rfl,rfl⟩)
end Go.Proofs.YthaiinlfnommnaaGreatDoor
namespace Go.Proofs.YthaiinlfnommnaaGreatDoor
open Go Go.Dn Go.Rl Go.Proofs
attribute [local irreducible] ba vc
set_option maxRecDepth 20000
noncomputable def Se(κ:Kp):Env:=(HJ κ).ak 183 3 (kt (HJ κ) 12 183 3 3)
noncomputable def US(κ:Kp):Env:=(Se κ).ak 183 12 (kt (Se κ) 12 183 12 3)
theorem eJ1(κ:Kp):aB (Se κ):=(Yo κ).ak (MK κ) (sh (MK κ) 3)
theorem VI(κ:Kp):aj (Se κ):=(MK κ).ak (lu (MK κ) 3)
theorem eJ2(κ:Kp):aB (US κ):=(eJ1 κ).ak (VI κ) (sh (VI κ) 3)
theorem Zv(κ:Kp):aj (US κ):=(VI κ).ak (lu (VI κ) 3)
theorem yJ(κ:Kp)(K:AV->List Dn.Obj->Prop):(ba (US κ) 12 183 [.ad 170 [.lit (lT κ)]] [] K)=(
 letI z1:=Pg.toProgram (Env.P (HJ κ))
 letI z2:=Pg.toProgram (Env.P (Se κ))
 af z1 183 3=af z1 183 3/\af z2 183 12=af z2 183 12/\K (AV.jj 278 (AV.ptr 0 0 [] 0)) [Obj.box 280 (AV.agg [AV.aq 1 0 1]),Obj.row 170 [AV.lit (Value.iface
 306 (Value.pointer (some (Kp.stuck κ))))]]):=by kernel_rfl
abbrev yI:AV:= .jj 278 (.ptr 0 0 [] 0)
abbrev Ao(κ:Kp):List Dn.Obj:=[.box 280 (.agg [.aq 1 0 1]), .row 170 [.lit (lT κ)]]
def ZZ(κ:Kp)(_:Unit):List AV×List Dn.Obj:=([.ad 170 [.lit (lT κ)]],[])
def F0(_:Unit):Prop:=True
def Tx(κ:Kp)(_:Unit):Out (AV×List Dn.Obj):= .one (yI,Ao κ)
theorem cJ(κ:Kp):bu (US κ) 12 183 (aL (ZZ κ) F0 (Tx κ)):=by
 refine aX ?_
 rintro⟨⟩ K _ ho
 refine Eq.mpr (yJ κ K) ?_
 exact⟨rfl,rfl,ho⟩
def Y0(κ:Kp)(_:Unit):List AV×List Dn.Obj:=([yI, .lit (lT κ)],Ao κ)
def SA(κ:Kp)(_:Unit):Out (AV×List Dn.Obj):= .one (.bool true,Ao κ)
theorem qI(κ:Kp): ∀args st K,aL (Y0 κ) F0 (SA κ) args st K->cM (Pr κ) 113 args st K:=by
 rintro args st K ⟨_,h1,_,h3⟩
 obtain⟨rfl,rfl⟩:=Prod.mk.inj h1
 refine⟨⟨_,Tryz.func113,rfl⟩,fun C vs hC hI hst hm=>?_⟩
 obtain⟨vs⟩:=vs
 match vs,hm with
 | [v1,v2],hm=>
  simp only[MT] at hm
  obtain⟨a1,a2,a3,b1,b2,b3,_⟩:=hm
  have hv2:v2=lT κ:=aQ (C:=C) ⟨b1,b2,b3⟩
  have r1:Rel C yI v1:=⟨a1,a2,a3⟩
  obtain⟨c1,_⟩:=gm r1 rfl (by simp)
  simp only[M,c1] at a3
  obtain⟨u,u1,u2,u3,u4,v,v1',v2',v3⟩:=a3
  have hv1:v1= .iface 278 u:=by simpa using u1
  have hu:u.cells= #[u]:=gF (by rw[u2];rfl)
  have huv:v=u:=by rw[hu] at v1';simpa using v1'.symm
  subst huv
  have o0:=hI.obj 0 (by rw[hst];simp)
  have o1:=hI.obj 1 (by rw[hst];simp)
  rw[hst] at o0 o1
  simp only[ax,j3] at o0 o1
  obtain⟨_,_,c,e,g1,_,g2⟩:=o0
  simp only[M,ML] at g2
  obtain⟨⟨_,s,s1,_,s2⟩,_⟩:=g2
  have s3:=s2.1 170 [.lit (lT κ)] (by rw[hst];rfl)
  obtain⟨_,s3⟩:=s3
  rcases s3 with⟨_,_,_,s3⟩|⟨n1,cap,q,rfl,s3,s4,_⟩
  ·cases s3
  have hq:q=⟨(C.ι 1).block,0,none⟩:=by
   rcases s3 with s3|⟨s3,s5⟩
   ·rw[s3,Nat.zero_mul]
   ·omega
  subst hq
  obtain⟨_,o1⟩:=o1
  rcases o1 with⟨o1,_⟩|⟨_,_,c',k1,_,_,_,k2⟩
  ·rw[n1] at o1;cases o1
  simp only[MR,M] at k2
  obtain⟨⟨k2,_⟩,_⟩:=k2
  have hp:v= .pointer (some ⟨(C.ι 0).block,0,none⟩):=(v3.2.1 280 _ (by rw[hst];rfl)).2
  subst hp
  subst hv1 hv2
  refine(callsIn_wide.2 (Nw ⟨(C.ι 0).block,0,none⟩ ⟨(C.ι 1).block,0,none⟩ κ.stuck cap C.w s1 k2)).mono ?_
  rintro e' w' ⟨rfl,rfl⟩
  exact⟨_, .bool true,C,rfl,rfl,rfl,hI,a6 rfl,Ext.refl _ (by rw[hst];exact Nat.le_refl _),by rw[hst];exact h3⟩
 |[],hm=>simp[MT] at hm
 |[_],hm=>simp[MT] at hm
 |_::_::_::_,hm=>simp[MT] at hm
noncomputable def EJ(κ:Kp):Env:=((US κ).aw 183 (aL (ZZ κ) F0 (Tx κ))).aw 113 (aL (Y0 κ) F0 (SA κ))
theorem eJ(κ:Kp):aB (EJ κ):=((eJ2 κ).aw (Zv κ) (cJ κ)).gU (qI κ)
theorem mJ(κ:Kp):aj (EJ κ):=((Zv κ).aw aJ).aw aJ
theorem y17(κ:Kp)(a:cm)(K:AV->List Dn.Obj->Prop):(ba (EJ κ) 12 112 [ar a] [] K)=(
 letI z2:=Value.iface 306 (Value.pointer (some (Kp.stuck κ)))
 letI z1:=∃(e0:Unit),([AV.ad 170 [AV.lit z2]],aI)=([AV.ad 170 [AV.lit z2]],aI)/\True/\K (AV.bh [AV.nil,AV.jj 278 (AV.ptr 0 0 [] 0)]) [Obj.box 280
  (AV.agg [AV.aq 1 0 1]),Obj.row 170 [AV.lit z2]]
 letI z3:=a.bl.length
 letI z4:=Value×AV
 letI z5:=Pg.toProgram (Env.P (MU κ))
 letI z6:=Int.toNat (↑z3:Int)
 a7 (true&&decide ((↑z3:Int)<=(↑z3:Int))&&decide ((Int.toNat (↑z3:Int)+1)*2<=70368744177664)&&true) (af z5 186 3=af z5 186 3/\∃(e4:Tn),
 sp 38 [(0,AV.cD 5),(1,AV.ptr 4 0 [] 0),(3,AV.mp 7),(4,AV.aq 8 0 z6),(13,AV.int (↑z3:Int)),(14,AV.int 0)] [Obj.box 66 (ar a),Obj.box 38 (AV.aq 6 0
 0),Dn.Obj.map 9 4 [],Obj.box 178 (AV.mp 2),Obj.box 66 (ar a),Dn.Obj.loop (gh Tryz.prog 112 4 LoopState.ready none (fV (bF 40) [(0,ar a),(1,AV.ptr 0 0 []
 0),(2,AV.nil),(3,AV.lit Value.nilIface),(4,AV.ptr 1 0 [] 0),(5,AV.ptr 3 0 [] 0),(7,AV.mp 2),(8,ar a),(9,AV.bL 186 [AV.ptr 4 0 [] 0])])),Obj.row 3
 [],Dn.Obj.map 9 4 [],Obj.row 4 (fM (AV.bool false) z6)]=sp 38 [(0,AV.cD 5),(1,AV.ptr 4 0 [] 0),(3,AV.mp 7),(4,AV.aq 8 0 (List.length (cd e4.done))),
 (13,AV.int (↑(List.length e4.a.bl):Int)),(14,AV.int e4.i)] [Obj.box 66 (ar e4.a),Obj.box 38 (AV.aq 6 0 (List.length (ints e4.ks))),Dn.Obj.map 9 4 (bQ
 e4.b),Obj.box 178 (AV.mp 2),Obj.box 66 (ar e4.a),Dn.Obj.loop (gh Tryz.prog 112 4 LoopState.ready none (fV (bF 40) [(0,ar e4.a),(1,AV.ptr 0 0 [] 0),(2,
 AV.nil),(3,AV.lit Value.nilIface),(4,AV.ptr 1 0 [] 0),(5,AV.ptr 3 0 [] 0),(7,AV.mp 2),(8,ar e4.a),(9,AV.bL 186 [AV.ptr 4 0 [] 0])])),Obj.row 3
 (ints e4.ks),Dn.Obj.map 9 4 (bQ e4.b),Obj.row 4 (cd e4.done)]/\(aM (aF e4.a)=true/\(aZ (aa (bk 56 e4.a.hl e4.a.bl))<=100000/\List.length e4.a.bl<=
 100000)/\(0:Int)<=e4.i/\e4.i<=(↑(List.length e4.a.bl):Int)/\e4.done.length=List.length e4.a.bl/\e4.ks.length<=e4.i.toNat)/\∀(e3:Bool),True->
 aD e3 (aD (decide ((↑(List.length (ints (e4.ks++eS e4))):Int)<(↑(List.length e4.a.bl):Int))) (z1/\z1) ((∃(e2:List AV),([AV.ad 56 e4.a.hl],aI)=
 ([AV.ad 56 e2],aI)/\bG e2/\∃(e1:List AV×List z4),([AV.mp 0,AV.ad 9 (List.take (List.length (ay (aa e2))) (List.drop 0 (strs (ay (aa e2)))))],
 [Dn.Obj.map 9 4 (bQ (e4.b++eV (aF e4.a) (eS e4)))])=([AV.mp 0,AV.ad 9 e1.1],[Dn.Obj.map 9 4 e1.2])/\bq e1/\aD (!gz e1.2 e1.1) z1 (K (AV.bh [AV.aq 0 0
 (List.length (ints (e4.ks++eS e4))),AV.lit Value.nilIface]) [Obj.row 3 (ints (e4.ks++eS e4))]))/\∃(e2:List AV),([AV.ad 56 e4.a.hl],aI)=([AV.ad 56
 e2],aI)/\bG e2/\∃(e1:List AV×List z4),([AV.mp 0,AV.ad 9 (List.take (List.length (ay (aa e2))) (List.drop 0 (strs (ay (aa e2)))))],[Dn.Obj.map 9 4 (bQ
 (e4.b++eV (aF e4.a) (eS e4)))])=([AV.mp 0,AV.ad 9 e1.1],[Dn.Obj.map 9 4 e1.2])/\bq e1/\aD (!gz e1.2 e1.1) z1 (K (AV.bh [AV.aq 0 0 (List.length (ints
 (e4.ks++eS e4))),AV.lit Value.nilIface]) [Obj.row 3 (ints (e4.ks++eS e4))]))) (aD (decide ((↑(List.length (ints (e4.ks++eS e4))):Int)<(↑(List.length
 e4.a.bl):Int))) (z1/\z1) ((∃(e2:List AV),([AV.ad 56 e4.a.hl],aI)=([AV.ad 56 e2],aI)/\bG e2/\∃(e1:List AV×List z4),([AV.mp 0,AV.ad 9
 (List.take (List.length (ay (aa e2))) (List.drop 0 (strs (ay (aa e2)))))],[Dn.Obj.map 9 4 (bQ (e4.b++eV (aF e4.a) (eS e4)))])=([AV.mp 0,AV.ad 9 e1.1],
 [Dn.Obj.map 9 4 e1.2])/\bq e1/\aD (!gz e1.2 e1.1) z1 (K (AV.bh [AV.aq 0 0 (List.length (ints (e4.ks++eS e4))),AV.lit Value.nilIface]) [Obj.row 3 (ints
 (e4.ks++eS e4))]))/\∃(e2:List AV),([AV.ad 56 e4.a.hl],aI)=([AV.ad 56 e2],aI)/\bG e2/\∃(e1:List AV×List z4),([AV.mp 0,AV.ad 9 (List.take
 (List.length (ay (aa e2))) (List.drop 0 (strs (ay (aa e2)))))],[Dn.Obj.map 9 4 (bQ (e4.b++eV (aF e4.a) (eS e4)))])=([AV.mp 0,AV.ad 9 e1.1],[Dn.Obj.map 9
 4 e1.2])/\bq e1/\aD (!gz e1.2 e1.1) z1 (K (AV.bh [AV.aq 0 0 (List.length (ints (e4.ks++eS e4))),AV.lit Value.nilIface]) [Obj.row 3 (ints (e4.ks++eS
 e4))]))))):=by kernel_rfl
def CA(a:cm):List AV×List Dn.Obj:=([ar a],[])
def Kf(a:cm):Prop:=aM (aF a)=true/\de a
noncomputable def Jm(κ:Kp)(a:cm):Out (AV×List Dn.Obj):= .aD (jb (aF a)) (.one (.bh [.aq 0 0 (b8 (aF a)).length, .lit .nilIface],[.row 3 (ints (b8 (aF a)))])) (.one (.bh [.nil,yI],Ao κ))
theorem si(n:Nat):fM (.lit (.bool false)) n=cd (List.replicate n false):=by simp[fM,cd]
theorem c17(κ:Kp):bu (EJ κ) 12 112 (aL CA Kf (Jm κ)):=by
 refine aX ?_
 rintro a K ⟨h1,h2⟩ ho
 refine Eq.mpr (y17 κ a K) ?_
 simp only[and_self]
 simp only[Jm,Out.run,ah] at ho
 have hl:=h2.2
 have hw:eS ⟨a,[],List.replicate a.bl.length false,[],0⟩=b8 (aF a):=by
  unfold eS b8
  rw[fW];rfl
 have hc:=oP h2
 have hv:=cx (aa a.hl)
 have hs:jb (aF a)=(decide (a.bl.length<=(b8 (aF a)).length)&&hasB (eV (aF a) (b8 (aF a))) (ay (aa a.hl))):=by
  unfold jb;rw[fW];rfl
 rw[hs] at ho
 simp only[an,aa2,aa1,Int.toNat_natCast]
 refine⟨⟨⟨⟨trivial,by omega⟩,by omega⟩,trivial⟩,trivial,⟨a,[],List.replicate a.bl.length false,[],0⟩,?_,⟨h1,h2,by simp only;omega,by simp only;omega,by simp,by simp⟩,?_⟩
 ·simp only[si,jo,List.length_replicate];rfl
 ·intro y _
  rw[hw]
  cases y<;>
  ·simp only[n9,List.nil_append,ah,aa1,aa3,Bool.not_eq_true',ab3,reduceCtorEq,false_implies,true_implies,and_true,true_and]
   refine⟨fun e=>?_,fun e=>?_⟩
   ·rw[aa5 (show ¬ a.bl.length<=(b8 (aF a)).length by omega),Bool.false_and] at ho
    exact⟨(),ho.2 rfl⟩
   ·rw[aa7 (show a.bl.length<=(b8 (aF a)).length by omega),ac0] at ho
    refine⟨a.hl,rfl,hc,(strs (ay (aa a.hl)),bQ (eV (aF a) (b8 (aF a)))),?_,?_,?_⟩
    ·simp only[ab1,cX]
    ·simp only[bq,aW,aR];omega
    ·simp only[fc]
     exact⟨fun e2=>⟨(),ho.2 e2⟩,fun e2=>ho.1 e2⟩
noncomputable def TR(κ:Kp):Env:=(EJ κ).aw 112 (aL CA Kf (Jm κ))
theorem e17(κ:Kp):aB (TR κ):=(eJ κ).aw (mJ κ) (c17 κ)
theorem YJ(κ:Kp):aj (TR κ):=(mJ κ).aw aJ
theorem y7(κ:Kp)(a:cm)(K:AV->List Dn.Obj->Prop):(ba (TR κ) 12 70 [ar a] [] K)=(
 letI z1:=Value.iface 306 (Value.pointer (some (Kp.stuck κ)))
 a7 (decide (a.hl.length<=9223372036854775807)&&decide (a.bl.length<=9223372036854775807)) (aD (!aM {head:={rel:=a.rel,l:=aa a.hl},body:=dg a.bl}) (K (AV.bh [AV.nil,AV.int 30]) []) (∃(e1:cm),([AV.agg [AV.agg [AV.str a.rel,AV.ad 56 a.hl],AV.ad 72 a.bl,AV.int a.line]],aI)=([AV.agg [AV.agg [AV.str e1.rel,AV.ad 56 e1.hl],AV.ad 72 e1.bl,AV.int e1.line]],aI)/\(aM (aF e1)=true/\aZ (aa (bk 56 e1.hl e1.bl))<=100000/\e1.bl.length<=100000)/\aD (jb (aF e1)) (K (AV.bh [AV.aq 0 0 (List.length (b8 (aF e1))),AV.int 0]) [Obj.row 3 (ints (b8 (aF e1)))]) (∃(e0:Unit),([AV.jj 278 (AV.ptr 0 0 [] 0),AV.lit z1],[Obj.box 280 (AV.agg [AV.aq 1 0 1]),Obj.row 170 [AV.lit z1]])=([AV.jj 278 (AV.ptr 0 0 [] 0),AV.lit z1],[Obj.box 280 (AV.agg [AV.aq 1 0 1]),Obj.row 170 [AV.lit z1]])/\True/\K (AV.bh [AV.nil,AV.int 60]) [])))):=by kernel_rfl
def IL(a:cm):Out (AV×List Dn.Obj):= .aD (aM (aF a)) (.aD (jb (aF a)) (.one (.bh [.aq 0 0 (b8 (aF a)).length, .int 0],[.row 3 (ints (b8 (aF a)))])) (.one (.bh [.nil, .int 60],[]))) (.one (.bh [.nil, .int 30],[]))
theorem c7(κ:Kp):bu (TR κ) 12 70 (aL CA de IL):=by
 refine aX ?_
 rintro a K h2 ho
 refine Eq.mpr (y7 κ a K) ?_
 simp only[IL,Out.run,ah] at ho
 have hc:=oP h2
 have hl1:=fy (aa a.hl)
 rw[eM] at hl1
 have hl:=h2.2
 rw[an,aa2,aa1,aa1]
 refine⟨⟨by omega,by omega⟩,?_⟩
 have hr:aM ⟨⟨a.rel,aa a.hl⟩,dg a.bl⟩=aM (aF a):=rfl
 rw[hr]
 simp only[ah,Bool.not_eq_true',ab3]
 refine⟨fun e=>ho.2 e,fun e=>⟨a,rfl,⟨e,h2⟩,fun e2=>(ho.1 e).1 e2,fun e2=>⟨(),trivial,trivial,(ho.1 e).2 e2⟩⟩⟩
noncomputable def E7(κ:Kp):Env:=(TR κ).aw 70 (aL CA de IL)
theorem e7(κ:Kp):aB (E7 κ):=(e17 κ).aw (YJ κ) (c7 κ)
theorem m7(κ:Kp):aj (E7 κ):=(YJ κ).aw aJ
def eE(es:List (Value×AV))(s:ByteArray):Bool:=lJ es s
structure DB where
 vs:List ByteArray
 i:Int
 es:List (Value×AV)
abbrev CE(R:List AV)(es:List (Value×AV)):List Dn.Obj:=[.row 9 R, .box 178 (.mp 2), .map 9 4 es]
abbrev MO:AV:= .bL 125 [.ptr 1 0 [] 0]
abbrev Ih(a:DB):S:=sp 19 [(0, .aq 0 0 (strs a.vs).length),(1,MO),(7, .int (strs a.vs).length),(8, .int a.i)] (CE (strs a.vs) a.es)
theorem xFB(κ:Kp)(a:DB)(I:Nat->S->Prop)(n:Nat)(K:Exit->S->Prop):(vc (oh κ) 12 190 none 3 (af (Pr κ).toProgram 190 2) (Ih a) (bJ (oh κ) 190 2 3 I n K))=(
 letI z1:=List.length (strs a.vs)
 aD (decide (a.i<(↑z1:Int))) (a7 (decide ((0:Int)<=a.i)&&decide (a.i<(↑z1:Int))) (aD (!Dn.toBool (dp a.es (Value.string (toStr (nth (strs a.vs) (0+
 a.i.toNat)))) (AV.bool false))) (K Exit.ret (sp 19 [(4,AV.int a.i)] [Obj.row 9 (strs a.vs),Obj.box 178 (AV.mp 2),Dn.Obj.map 9 4 a.es])) (∃(e0:Nat),e0<n
 /\I e0 (sp 19 [(0,AV.aq 0 0 z1),(1,AV.bL 125 [AV.ptr 1 0 [] 0]),(7,AV.int (↑z1:Int)),(8,AV.int (IntKind.wrap IntKind.i64 (a.i+(1:Int))))] [Obj.row
 9 (strs a.vs),Obj.box 178 (AV.mp 2),Dn.Obj.map 9 4 a.es])))) (K (Exit.exit 0) (sp 19 [] [Obj.row 9 (strs a.vs),Obj.box 178 (AV.mp 2),Dn.Obj.map 9 4 a.es]))):=by kernel_rfl
def Es(a:DB):Prop:=a.vs.length<=aR/\0<=a.i/\a.i<=a.vs.length/\∀s,s∈a.vs.take a.i.toNat->eE a.es s=true
def A1(a:DB):Out (Exit×S):=
 .aD (a.vs.all (eE a.es)) (.one (.exit 0,sp 19 [] (CE (strs a.vs) a.es)))
  (.all (fun j:Int=>u5 (eE a.es) a.vs j) fun j=> .one (.ret,sp 19 [(4, .int j)] (CE (strs a.vs) a.es)))
theorem lFB(κ:Kp):bj (oh κ) 12 190 2 (aO 3 Ih Es A1):=by
 refine aK (fun a=>a.vs.length - a.i.toNat) ?_
 rintro⟨vs,i,es⟩ K ⟨h1,h2,h3,h4⟩ ho
 simp only at h1 h2 h3 h4
 rw[show(oh κ).P=Pr κ from rfl]
 refine Eq.mpr (xFB κ ⟨vs,i,es⟩ _ _ K) ?_
 simp only[aR] at h1
 simp only[A1,Out.run,ah] at ho
 have hl:=aW vs
 simp only[aW,Nat.zero_add]
 have fin:i<vs.length->∀(hi:i.toNat<vs.length),(eE es vs[i.toNat]=false->K .ret (sp 19 [(4, .int i)] (CE (strs vs) es)))/\
   (eE es vs[i.toNat]=true->∃m,m<vs.length - i.toNat/\fm Ih Es A1 (fun a=>a.vs.length - a.i.toNat) K m (Ih ⟨vs,i+1,es⟩)):=by
  intro hi0 hi
  refine⟨fun e=>ho.2 ?_ i ⟨h2,hi,h4,e⟩,fun e=>⟨_,?_,⟨vs,i+1,es⟩,rfl,⟨by simpa[aR] using h1,by simp only;omega,by simp only;omega,?_⟩,rfl,?_⟩⟩
  ·rw[Bool.eq_false_iff]
   intro hall
   rw[List.all_eq_true.1 hall _ (List.getElem_mem hi)] at e
   cases e
  ·simp only;omega
  ·intro s hs
   simp only at hs
   rw[show(i+1).toNat=i.toNat+1 by omega,List.take_succ_eq_append_getElem hi,List.mem_append,List.mem_singleton] at hs
   rcases hs with hs|hs
   ·exact h4 s hs
   ·rw[hs];exact e
  ·simp only[A1,Out.run,ah]
   exact ho
 simp only[ah,an,aa1,aa3,aa2,Bool.not_eq_true',ab3]
 refine⟨fun hi=>⟨⟨h2,hi⟩,?_⟩,fun hi=>?_⟩
 ·have hi':i.toNat<vs.length:=by omega
  have hn:toStr (nth (strs vs) i.toNat)=vs[i.toNat]:=by rw[vG vs _ hi'];rfl
  rw[aV (n:=i+1) (by omega) (by omega),hn]
  have hf:=fin hi hi'
  simp only[Ih,aW] at hf
  exact⟨fun e=>hf.1 e,fun e=>hf.2 e⟩
 ·refine ho.1 (List.all_eq_true.2 fun s hs=>h4 s ?_)
  rw[List.take_of_length_le (by omega)];exact hs
noncomputable def N5(κ:Kp):Env:=(oh κ).ak 190 2 (aO 3 Ih Es A1)
theorem eFB(κ:Kp):aB (N5 κ):=(Qv κ).ak (KN κ) (lFB κ)
theorem ZM(κ:Kp):aj (N5 κ):=(KN κ).ak aG
structure GB where
 R:List AV
 i:Int
 j:Int
 es:List (Value×AV)
 P:List ByteArray
 ws:List ByteArray
abbrev Bm(a:GB):S:=sp 42 [(0, .aq 0 0 a.R.length),(1,MO),(5, .int a.i),(6, .int a.j)] (CE a.R a.es)
theorem xGB(κ:Kp)(a:GB)(I:Nat->S->Prop)(n:Nat)(K:Exit->S->Prop):(vc (N5 κ) 12 123 none 3 (af (Pr κ).toProgram 123 5) (Bm a) (bJ (N5 κ) 123 5 3 I n K))=(
 letI z1:=IntKind.wrap IntKind.i64 (a.j+(1:Int))
 letI z2:=toStr (nth a.R (0+a.j.toNat))
 letI z3:=a.j<(↑(a.R.length):Int)
 aD (decide z3) (a7 (decide ((0:Int)<=a.j)&&decide z3) (aD (!!Dn.toBool (dp a.es (Value.string z2) (AV.bool false))) (a7 (decide ((0:Int)<=a.i)&&decide
 (a.i<(↑(a.R.length):Int))) (∃(e0:Nat),e0<n/\I e0 (sp 42 [(0,AV.aq 0 0 a.R.length),(1,AV.bL 125 [AV.ptr 1 0 [] 0]),(5,AV.int (IntKind.wrap
 IntKind.i64 (a.i+(1:Int)))),(6,AV.int z1)] [Obj.row 9 (cg a.R (0+a.i.toNat) (AV.str z2)),Obj.box 178 (AV.mp 2),Dn.Obj.map 9 4 a.es]))) (∃(e0:Nat),
 e0<n/\I e0 (sp 42 [(0,AV.aq 0 0 a.R.length),(1,AV.bL 125 [AV.ptr 1 0 [] 0]),(5,AV.int a.i),(6,AV.int z1)] [Obj.row 9 a.R,Obj.box 178 (AV.mp 2),
 Dn.Obj.map 9 4 a.es])))) (K (Exit.exit 0) (sp 42 [(0,AV.aq 0 0 a.R.length),(5,AV.int a.i)] [Obj.row 9 a.R,Obj.box 178 (AV.mp 2),Dn.Obj.map 9 4 a.es]))):=by kernel_rfl
def yv(a:GB):Prop:=a.R.length<=aR/\0<=a.i/\a.i<a.j/\a.j<=a.R.length/\a.R.take a.i.toNat=strs a.P/\a.R.drop a.j.toNat=strs a.ws
def BU(a:GB):Out (Exit×S):= .all (fun R:List AV=>R.length=a.R.length/\R.take (a.P++a.ws.filter (eE a.es)).length=strs (a.P++a.ws.filter (eE a.es)))
 fun R=> .one (.exit 0,sp 42 [(0, .aq 0 0 a.R.length),(5, .int (a.P++a.ws.filter (eE a.es)).length)] (CE R a.es))
theorem lGB(κ:Kp):bj (N5 κ) 12 123 5 (aO 3 Bm yv BU):=by
 refine aK (fun a=>a.R.length - a.j.toNat) ?_
 rintro⟨R,i,j,es,P,ws⟩ K ⟨h1,h2,h3,h4,h5,h6⟩ ho
 simp only at h1 h2 h3 h4 h5 h6
 rw[show(N5 κ).P=Pr κ from rfl]
 refine Eq.mpr (xGB κ ⟨R,i,j,es,P,ws⟩ _ _ K) ?_
 simp only[aR] at h1
 simp only[BU,Out.run] at ho
 simp only[Nat.zero_add]
 have hP:P.length=i.toNat:=by
  have:=congrArg List.length h5
  rw[List.length_take,aW] at this;omega
 have fin: ∀(s:ByteArray) (l:List ByteArray),ws=s::l->j<R.length->nth R j.toNat= .lit (.string s)->
   (eE es s=false->∃m,m<R.length - j.toNat/\fm Bm yv BU (fun a=>a.R.length - a.j.toNat) K m (Bm ⟨R,i,j+1,es,P,l⟩))/\
   (eE es s=true->∃m,m<R.length - j.toNat/\fm Bm yv BU (fun a=>a.R.length - a.j.toNat) K m (Bm ⟨cg R i.toNat (.lit (.string s)),i+1,j+1,es,P++[s],l⟩)):=by
  rintro s l rfl hj hn
  obtain⟨_,_,h7⟩:=jA (l:=strs l) h6
  refine⟨fun e=>⟨_,?_,_,rfl,⟨by simpa[aR] using h1,h2,by simp only;omega,by simp only;omega,h5,?_⟩,rfl,?_⟩,fun e=>⟨_,?_,_,rfl,⟨by simpa[aR,gp] using h1,by simp only;omega,by simp only;omega,by simp only[gp];omega,?_,?_⟩,rfl,?_⟩⟩
  ·simp only;omega
  ·simp only[show(j+1).toNat=j.toNat+1 by omega];exact h7
  ·intro y hy
   have:=ho y
   simp only[List.filter_cons,e,Bool.false_eq_true,if_false] at hy this⊢
   exact this hy
  ·simp only[gp];omega
  ·simp only[show(i+1).toNat=i.toNat+1 by omega]
   rw[r6 _ _ _ (by omega),h5,ij];rfl
  ·simp only[show(j+1).toNat=j.toNat+1 by omega]
   rw[rA _ _ _ _ (by omega)];exact h7
  ·intro y hy
   have:=ho y
   simp only[List.filter_cons,e,if_true,gp,List.append_assoc,List.singleton_append] at hy this⊢
   exact this hy
 simp only[ah,an,aa1,aa3,aa2,Bool.not_eq_true',ab3]
 refine⟨fun hj=>⟨⟨by omega,hj⟩,?_⟩,fun hj=>?_⟩
 ·cases ws with
  |nil=>
   have:=congrArg List.length h6
   rw[List.length_drop,aW] at this
   simp at this;omega
  |cons s l=>
   obtain⟨_,hn,_⟩:=jA (l:=strs l) h6
   have hn':toStr (nth R j.toNat)=s:=by rw[hn];rfl
   have hf:=fin s l rfl hj hn
   simp only[Bm,gp] at hf
   rw[aV (n:=i+1) (by omega) (by omega),aV (n:=j+1) (by omega) (by omega),hn']
   exact⟨fun e=>⟨⟨by omega,by omega⟩,hf.2 e⟩,fun e=>hf.1 e⟩
 ·have hw:ws=[]:=by
   have:=congrArg List.length h6
   rw[List.length_drop,aW] at this
   cases ws with
   |nil=>rfl
   |cons=>simp at this;omega
  subst hw
  have:=ho R ⟨rfl,by simp only[List.filter_nil,List.append_nil,hP];exact h5⟩
  simp only[List.filter_nil,List.append_nil,hP,Int.toNat_of_nonneg h2] at this
  exact this
noncomputable def VY(κ:Kp):Env:=(N5 κ).ak 123 5 (aO 3 Bm yv BU)
theorem eGB(κ:Kp):aB (VY κ):=(eFB κ).ak (ZM κ) (lGB κ)
theorem mGB(κ:Kp):aj (VY κ):=(ZM κ).ak aG
theorem yGB(κ:Kp)(a:DB)(K:AV->List Dn.Obj->Prop):(ba (VY κ) 12 123 [.aq 0 0 (strs a.vs).length,MO] (CE (strs a.vs) a.es) K)=(
 letI z1:=List.length (strs a.vs)
 letI z2:=Pg.toProgram (Env.P (oh κ))
 letI z3:=Pg.toProgram (Env.P (N5 κ))
 af z2 190 2=af z2 190 2/\∃(e3:DB),sp 19 [(0,AV.aq 0 0 z1),(1,AV.bL 125 [AV.ptr 1 0 [] 0]),(7,AV.int (↑z1:Int)),(8,AV.int 0)] [Obj.row 9 (strs a.vs),Obj.box 178 (AV.mp 2),Dn.Obj.map 9 4 a.es]=sp 19 [(0,AV.aq 0 0 (List.length (strs e3.vs))),(1,AV.bL 125 [AV.ptr 1 0 [] 0]),(7,AV.int (↑(List.length (strs e3.vs)):Int)),(8,AV.int e3.i)] [Obj.row 9 (strs e3.vs),Obj.box 178 (AV.mp 2),Dn.Obj.map 9 4 e3.es]/\(e3.vs.length<=9223372036854775807/\(0:Int)<=e3.i/\e3.i<=(↑(e3.vs.length):Int)/\∀(e0:ByteArray),List.Mem e0 (List.take e3.i.toNat e3.vs)->eE e3.es e0=true)/\aD (List.all e3.vs (eE e3.es)) (K (AV.ad 9 (List.take z1 (List.drop 0 (strs e3.vs)))) [Obj.me 9 (strs e3.vs),Obj.box 178 (AV.mp 2),Dn.Obj.map 9 4 e3.es]) (∀(e2:Int),((0:Int)<=e2/\∃(e1:e2.toNat<e3.vs.length),(∀(e0:ByteArray),List.Mem e0 (List.take e2.toNat e3.vs)->eE e3.es e0=true)/\eE e3.es e3.vs[e2.toNat]=false)->aD (e2==(-1:Int)) (K (AV.ad 9 (List.take z1 (List.drop 0 (strs e3.vs)))) [Obj.me 9 (strs e3.vs),Obj.box 178 (AV.mp 2),Dn.Obj.map 9 4 e3.es]) (af z3 123 5=af z3 123 5/\∃(e1:GB),sp 42 [(0,AV.aq 0 0 z1),(1,AV.bL 125 [AV.ptr 1 0 [] 0]),(5,AV.int e2),(6,AV.int (IntKind.wrap IntKind.i64 (e2+(1:Int))))] [Obj.row 9 (strs e3.vs),Obj.box 178 (AV.mp 2),Dn.Obj.map 9 4 e3.es]=sp 42 [(0,AV.aq 0 0 e1.R.length),(1,AV.bL 125 [AV.ptr 1 0 [] 0]),(5,AV.int e1.i),(6,AV.int e1.j)] [Obj.row 9 e1.R,Obj.box 178 (AV.mp 2),Dn.Obj.map 9 4 e1.es]/\(e1.R.length<=9223372036854775807/\(0:Int)<=e1.i/\e1.i<e1.j/\e1.j<=(↑(e1.R.length):Int)/\List.take e1.i.toNat e1.R=strs e1.P/\List.drop e1.j.toNat e1.R=strs e1.ws)/\∀(e0:List AV),e0.length=e1.R.length/\List.take (List.length (e1.P++List.filter (eE e1.es) e1.ws)) e0=strs (e1.P++List.filter (eE e1.es) e1.ws)->a7 (true&&decide ((↑(List.length (e1.P++List.filter (eE e1.es) e1.ws)):Int)<=(↑(e1.R.length):Int))&&decide ((↑(e1.R.length):Int)<=(↑(e1.R.length):Int))) (a7 (true&&decide ((↑(List.length (e1.P++List.filter (eE e1.es) e1.ws)):Int)<=(↑(e1.R.length):Int))) (K (AV.ad 9 (List.take (Int.toNat ((↑(List.length (e1.P++List.filter (eE e1.es) e1.ws)):Int) - (0:Int))) (List.drop 0 (dN e0 (0+Int.toNat (↑(List.length (e1.P++List.filter (eE e1.es) e1.ws)):Int)) (Int.toNat ((↑(e1.R.length):Int) - (↑(List.length (e1.P++List.filter (eE e1.es) e1.ws)):Int))) (AV.str {data:= #[]}))))) [Obj.me 9 (dN e0 (0+Int.toNat (↑(List.length (e1.P++List.filter (eE e1.es) e1.ws)):Int)) (Int.toNat ((↑(e1.R.length):Int) - (↑(List.length (e1.P++List.filter (eE e1.es) e1.ws)):Int))) (AV.str {data:= #[]})),Obj.box 178 (AV.mp 2),Dn.Obj.map 9 4 e1.es]))))):=by kernel_rfl
def Hh(a:DB):List AV×List Dn.Obj:=([.aq 0 0 a.vs.length,MO],CE (strs a.vs) a.es)
def oB(a:DB):Prop:=a.vs.length<=aR
def D7(a:DB):Out (AV×List Dn.Obj):= .all (fun _:List AV=>True) fun R=> .one (.ad 9 (strs (a.vs.filter (eE a.es))),[.me 9 R, .box 178 (.mp 2), .map 9 4 a.es])
theorem Xd(κ:Kp):bu (VY κ) 12 123 (aL Hh oB D7):=by
 refine aX ?_
 rintro⟨vs,i,es⟩ K h1 ho
 simp only[oB] at h1
 simp only[Hh]
 rw[←aW vs]
 refine Eq.mpr (yGB κ ⟨vs,i,es⟩ K) ?_
 refine⟨rfl,⟨vs,0,es⟩,rfl,⟨h1,by simp only;omega,by simp only;omega,fun s hs=>nomatch hs⟩,?_⟩
 rw[ah]
 refine⟨fun e=>?_,fun e y hy=>?_⟩
 ·have hf:vs.filter (eE es)=vs:=List.filter_eq_self.2 (List.all_eq_true.1 e)
  have:=ho (strs vs) trivial
  simp only[hf] at this
  rw[ab1,List.take_length]
  exact this
 ·have hF:=qt hy
  obtain⟨h0,h2,h3,h4⟩:=hy
  simp only at h0 h2
  simp only[aR] at h1
  rw[ah,beq_iff_eq,beq_eq_false_iff_ne]
  refine⟨fun e2=>by omega,fun _=>⟨rfl,⟨strs vs,y,y+1,es,vs.take y.toNat,vs.drop (y.toNat+1)⟩,?_,⟨by simp only[aW];omega,h0,by simp only;omega,by simp only[aW];omega,?_,?_⟩,?_⟩⟩
  ·rw[aV (n:=y+1) (by omega) (by omega)]
  ·simp only[strs,List.map_take]
  ·simp only[strs,List.map_drop,show(y+1).toNat=y.toNat+1 by omega]
  ·rintro R ⟨r1,r2⟩
   simp only at r1 r2
   rw[←hF] at r2⊢
   have hle:(vs.filter (eE es)).length<=vs.length:=List.length_filter_le _ _
   rw[an,an]
   refine⟨by simp[aW,hle],by simp[aW,hle],?_⟩
   have:=ho (dN R (0+Int.toNat ((vs.filter (eE es)).length:Int)) (Int.toNat (((strs vs).length:Int) - ((vs.filter (eE es)).length:Int))) (.lit (.string (ByteArray.mk #[])))) trivial
   simp only[Int.toNat_natCast,Nat.zero_add,Int.sub_zero,ab1,oe,r2] at this⊢
   exact this
theorem WJ(κ:Kp): ∀args st K,aL Hh oB D7 args st K->cM (Pr κ) 123 args st K:=fun args st K h=>iB (eGB κ) (mGB κ) (Xd κ args st K h)
structure UQ where
 a:cm
 ws:List Nat
 n:Nat
 i:Int
 vs:List ByteArray
abbrev PI(a:UQ):S:=sp 48 [(2, .ptr 0 0 [] 0),(8, .ptr 1 0 [] 0),(32, .aq 3 0 a.n),(33, .int a.n),(34, .int a.i)] [.box 66 (ar a.a), .box 178 (.mp 2), .map 9 4 (bQ a.vs), .row 3 (ints a.ws)]
theorem x10(κ:Kp)(a:UQ)(ws:List AV)(es:List (Value×AV))(I:Nat->S->Prop)(n:Nat)(K:Exit->S->Prop):(vc (E7 κ) 12 77 none 0 (af (Pr κ).toProgram 77 8) (sp 48 [(2, .ptr 0 0 [] 0),(8, .ptr 1 0 [] 0),(32, .aq 3 0 a.n),(33, .int a.n),(34, .int a.i)] [.box 66 (ar a.a), .box 178 (.mp 2), .map 9 4 es, .row 3 ws]) (bJ (E7 κ) 77 8 0 I n K))=(
 letI z1:=∃(e2:cm×Int),([ar a.a,AV.int (toInt (nth ws (0+a.i.toNat)))],aI)=([ar e2.1,AV.int e2.2],aI)/\(aM (aF e2.1)=true/\(aZ (aa (bk 56
  e2.1.hl e2.1.bl))<=100000/\e2.1.bl.length<=100000)/\(0:Int)<=e2.2/\e2.2<(↑(e2.1.bl.length):Int))/\∃(e1:List AV×List (Value×AV)),([AV.mp 0,
  AV.ad 9 (strs (cV (aF e2.1) e2.2.toNat))],[Dn.Obj.map 9 4 es])=([AV.mp 0,AV.ad 9 e1.1],[Dn.Obj.map 9 4 e1.2])/\bq e1/\∃(e0:Nat),e0<n/\I e0 (sp 48
  [(2,AV.ptr 0 0 [] 0),(8,AV.ptr 1 0 [] 0),(32,AV.aq 3 0 a.n),(33,AV.int (↑(a.n):Int)),(34,AV.int (IntKind.wrap IntKind.i64 (a.i+(1:Int))))]
  [Obj.box 66 (ar a.a),Obj.box 178 (AV.mp 2),Dn.Obj.map 9 4 (fx e1.2 e1.1),Obj.row 3 ws])
 aD (decide (a.i<(↑(a.n):Int))) (a7 (decide ((0:Int)<=a.i)&&decide (a.i<(↑(a.n):Int))) (z1/\z1)) (K (Exit.exit 1) (sp 48 [(2,AV.ptr 0 0 [] 0),(8,
 AV.ptr 1 0 [] 0)] [Obj.box 66 (ar a.a),Obj.box 178 (AV.mp 2),Dn.Obj.map 9 4 es]))):=by kernel_rfl
def Gh(a:UQ):Prop:=aM (aF a.a)=true/\de a.a/\0<=a.i/\a.i<=a.n/\a.n<=a.ws.length/\a.ws.length<=a.a.bl.length/\∀k,k∈a.ws->k<a.a.bl.length
def yV(a:UQ):Out (Exit×S):= .one (.exit 1,sp 48 [(2, .ptr 0 0 [] 0),(8, .ptr 1 0 [] 0)] [.box 66 (ar a.a), .box 178 (.mp 2), .map 9 4 (bQ (a.vs++eV (aF a.a) ((a.ws.take a.n).drop a.i.toNat)))])
theorem C5(l:List Nat)(i:Nat)(h:i<l.length):toInt (nth (ints l) i)=(l[i]:Int):=by
 rw[bf _ _ (by rw[n9];exact h)];simp[ints,toInt]
theorem l10(κ:Kp):bj (E7 κ) 12 77 8 (aO 0 PI Gh yV):=by
 refine aK (fun a=>a.n - a.i.toNat) ?_
 rintro⟨a,ws,n,i,vs⟩ K ⟨h1,h2,h3,h4,h5,h6,h7⟩ ho
 simp only at h1 h2 h3 h4 h5 h6 h7
 rw[show(E7 κ).P=Pr κ from rfl]
 refine Eq.mpr (x10 κ ⟨a,ws,n,i,vs⟩ (ints ws) (bQ vs) _ _ K) ?_
 simp only[yV,Out.run] at ho
 simp only[and_self,Nat.zero_add]
 have hl:=h2.2
 rw[ah,an,aa2,aa1,aa1,aa3]
 refine⟨fun hi=>⟨⟨h3,hi⟩,?_⟩,fun hi=>?_⟩
 ·have hi':i.toNat<ws.length:=by omega
  have hk:=h7 _ (List.getElem_mem hi')
  have hg:=sc h2 hk
  have hd:(ws.take n).drop i.toNat=ws[i.toNat]::(ws.take n).drop (i.toNat+1):=by
   rw[ab2 (by rw[List.length_take];omega)]
   simp
  rw[hd] at ho
  rw[aV (n:=i+1) (by omega) (by omega),C5 ws _ hi']
  refine⟨(a,(ws[i.toNat]:Int)),rfl,⟨h1,h2,by simp only;omega,by simp only;omega⟩,(strs (cV (aF a) ws[i.toNat]),bQ vs),rfl,by simp only[bq,aW,aR];omega,_,?_,⟨a,ws,n,i+1,vs++cV (aF a) ws[i.toNat]⟩,?_,⟨h1,h2,by simp only;omega,by simp only;omega,h5,h6,h7⟩,rfl,?_⟩
  ·simp only;omega
  ·simp only[l9]
  ·simp only[yV,Out.run,show(i+1).toNat=i.toNat+1 by omega]
   simpa only[eV,List.flatMap_cons,List.append_assoc] using ho
 ·rw[aa9 (by rw[List.length_take];omega)] at ho
  simpa[eV] using ho
noncomputable def KX(κ:Kp):Env:=((E7 κ).ak 77 8 (aO 0 PI Gh yV)).aw 123 (aL Hh oB D7)
theorem XY(κ:Kp):aB (KX κ):=((e7 κ).ak (m7 κ) (l10 κ)).gU (WJ κ)
theorem Ug(κ:Kp):aj (KX κ):=((m7 κ).ak aG).aw aJ
theorem y10(κ:Kp)(a:cm)(k:Int)(K:AV->List Dn.Obj->Prop):(ba (KX κ) 12 77 [ar a, .int k] [] K)=(
 letI z1:=K (AV.bh [AV.nil,AV.int 2]) []
 letI z2:=Pg.toProgram (Env.P (E7 κ))
 letI z3:=Int.toNat (k - (0:Int))
 ∃(e4:cm),([ar a],aI)=([ar e4],aI)/\(aZ (aa (bk 56 e4.hl e4.bl))<=100000/\e4.bl.length<=100000)/\aD (aM (aF e4)) (aD (jb (aF e4)) (aD (decide (k<
 (0:Int))) z1 (aD (decide (k>(↑(List.length (b8 (aF e4))):Int))) z1 (a7 (true&&decide ((0:Int)<=k)&&decide (k<=(↑(List.length (b8 (aF e4))):
 Int))) (af z2 77 8=af z2 77 8/\∃(e3:UQ),sp 48 [(2,AV.ptr 0 0 [] 0),(8,AV.ptr 1 0 [] 0),(32,AV.aq 3 0 z3),(33,AV.int (↑z3:Int)),(34,AV.int 0)]
 [Obj.box 66 (ar a),Obj.box 178 (AV.mp 2),Dn.Obj.map 9 4 [],Obj.row 3 (ints (b8 (aF e4)))]=sp 48 [(2,AV.ptr 0 0 [] 0),(8,AV.ptr 1 0 [] 0),(32,AV.aq 3 0
 e3.n),(33,AV.int (↑(e3.n):Int)),(34,AV.int e3.i)] [Obj.box 66 (ar e3.a),Obj.box 178 (AV.mp 2),Dn.Obj.map 9 4 (bQ e3.vs),Obj.row 3 (ints e3.ws)]/\(aM
 (aF e3.a)=true/\(aZ (aa (bk 56 e3.a.hl e3.a.bl))<=100000/\List.length e3.a.bl<=100000)/\(0:Int)<=e3.i/\e3.i<=(↑(e3.n):Int)/\e3.n<=e3.ws.length/\
 e3.ws.length<=List.length e3.a.bl/\∀(e0:Nat),List.Mem e0 e3.ws->e0<List.length e3.a.bl)/\∃(e2:cm),([ar e3.a],aI)=([ar e2],aI)/\(aM (aF e2)=
 true/\aZ (aa (bk 56 e2.hl e2.bl))<=100000/\e2.bl.length<=100000)/\∃(e1:DB),([AV.aq 0 0 (List.length (cW (aF e2))),AV.bL 125 [AV.ptr 1 0 [] 0]],
 [Obj.row 9 (strs (cW (aF e2))),Obj.box 178 (AV.mp 2),Dn.Obj.map 9 4 (bQ (e3.vs++eV (aF e3.a) (List.drop e3.i.toNat (List.take e3.n e3.ws))))])=([AV.aq 0 0
 e1.vs.length,AV.bL 125 [AV.ptr 1 0 [] 0]],[Obj.row 9 (strs e1.vs),Obj.box 178 (AV.mp 2),Dn.Obj.map 9 4 e1.es])/\oB e1/\∀(e0:List AV),True->K (AV.bh
 [AV.ad 9 (strs (List.filter (eE e1.es) e1.vs)),AV.int 0]) [])))) (K (AV.bh [AV.nil,AV.int 60]) [])) (K (AV.bh [AV.nil,AV.int 30]) [])):=by kernel_rfl
def O1(a:cm×Int):List AV×List Dn.Obj:=([ar a.1, .int a.2],[])
def yM(a:cm×Int):Prop:=de a.1
def xL(a:cm×Int):Out (AV×List Dn.Obj):= .aD (aM (aF a.1)) (.aD (jb (aF a.1)) (.aD (decide (a.2<0)||decide (a.1.bl.length<a.2)) (.one (.bh [.nil, .int 2],[]))
 (.one (.bh [.ad 9 (strs (kU (aF a.1) a.2.toNat)), .int 0],[]))) (.one (.bh [.nil, .int 60],[]))) (.one (.bh [.nil, .int 30],[]))
theorem oK{a:cm}(h:jb (aF a)=true):(b8 (aF a)).length=a.bl.length:=by
 have h1:=HL (aF a)
 rw[fW] at h1
 simp only[jb,aa2,aa1,fW] at h
 omega
theorem c10(κ:Kp):bu (KX κ) 12 77 (aL O1 yM xL):=by
 refine aX ?_
 rintro⟨a,k⟩ K h2 ho
 refine Eq.mpr (y10 κ a k K) ?_
 simp only[xL,Out.run,ah] at ho
 have h2:de a:=h2
 have hl:=h2.2
 refine⟨a,rfl,h2,?_⟩
 rw[ah]
 refine⟨fun e1=>?_,fun e1=>ho.2 e1⟩
 rw[ah]
 refine⟨fun e2=>?_,fun e2=>(ho.1 e1).2 e2⟩
 have hw:=oK e2
 have ho1:=(ho.1 e1).1 e2
 rw[ah,aa1,aa3]
 refine⟨fun e3=>ho1.1 (by rw[aa7 e3];rfl),fun e3=>?_⟩
 rw[ah,aa1,aa3,hw]
 refine⟨fun e4=>ho1.1 (by rw[aa7 (show(a.bl.length:Int)<k from e4)];simp),fun e4=>?_⟩
 have ho2:=ho1.2 (by rw[aa5 e3,aa5 (show ¬ (a.bl.length:Int)<k from e4)];rfl)
 simp only[an,aa2,aa1,Int.sub_zero]
 have h5:(fo (aF a)).length<=100000:=by
  have h6:=cx (aa (bk 56 a.hl a.bl))
  rw[iG 56 a.rel a.hl a.bl] at h6
  exact Nat.le_trans h6 h2.1
 have h7:=kz (fo (aF a)) []
 refine⟨⟨⟨trivial,by omega⟩,by omega⟩,trivial,⟨a,b8 (aF a),k.toNat,0,[]⟩,rfl,⟨e1,h2,by simp only;omega,by simp only;omega,by simp only;omega,by simp only;omega,fun j hj=>by have:=uB hj;rwa [fW] at this⟩,a,rfl,⟨e1,h2⟩,⟨cW (aF a),0,bQ ([]++eV (aF a) (((b8 (aF a)).take k.toNat).drop (Int.toNat 0)))⟩,rfl,?_,?_⟩
 ·simp only[oB,cW,e1,aa8,aR];omega
 ·intro R _
  have hk3:List.filter (eE (bQ ([]++eV (aF a) (((b8 (aF a)).take k.toNat).drop (Int.toNat 0))))) (cW (aF a))=kU (aF a) k.toNat:=by
   unfold kU
   refine congrFun (congrArg _ ?_) _
   funext s
   unfold eE
   rw[oS];rfl
  simp only[hk3]
  exact ho2
noncomputable def Ou(κ:Kp):Env:=(KX κ).aw 77 (aL O1 yM xL)
theorem e10(κ:Kp):aB (Ou κ):=(XY κ).aw (Ug κ) (c10 κ)
theorem YP(κ:Kp):aj (Ou κ):=(Ug κ).aw aJ
end Go.Proofs.YthaiinlfnommnaaGreatDoor
